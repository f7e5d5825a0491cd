/- Parts of the proof by the abstract machine: Maps, Iter, BagF, MapI. -/
import Derived.Test.YteoekjfgihnhaaaGreatDoorHmGRF7
import Derived.RangeFuncRecord
import Derived.MapKept
import Derived.Maps.RangeRun
import Derived.Lib.OthersKept
set_option linter.all false
noncomputable section
namespace Go.Am
open Go.RowKit

/-- Where a key stands; every key a string. -/
def findA (k : List UInt8) : List EN → Nat → Option (Option (Nat × AV))
  | [], _ => some none
  | (.str s, v, _) :: es, i => bif decide (k = s) then some (some (i, v)) else findA k es (i + 1)
  | _ :: _, _ => none
def isStrT (P : Program) (t : TypeId) : Bool := match P.underlying t with | some .string => true | _ => false
theorem isStrT_eq {P : Program} {t : TypeId} (h : isStrT P t = true) : P.underlying t = some .string := by
  unfold isStrT at h
  split at h
  · rename_i hu; exact hu
  · cases h

theorem str_eq (a b : List UInt8) : ((⟨a.toArray⟩ : ByteArray) == ⟨b.toArray⟩) = decide (a = b) := by
  show (a.toArray == b.toArray) = _
  by_cases h : a = b
  · subst h; simp
  · simp [h]

def FoundR (φ : List Emb) : Option (Nat × AV) → Option (Nat × Value) → Prop
  | none, r => r = none
  | some (j, v), r => ∃ v', r = some (j, v') ∧ V φ v v'
theorem findNow_run {φ : List Emb} {k : List UInt8} : ∀ {es : List EN} {ES : List MapEntry} {i : Nat} {r : Option (Nat × AV)}, Entries φ es ES → findA k es i = some r →
    ∃ r', Instr.findNow .string (.string ⟨k.toArray⟩) ES i = some r' ∧ FoundR φ r r'
  | [], ES, i, r, hE, h => by
    simp only [Entries] at hE
    subst hE
    simp only [findA, Option.some.injEq] at h
    subst h
    exact ⟨none, rfl, rfl⟩
  | (kv, v, b) :: es, ES, i, r, hE, h => by
    simp only [Entries] at hE
    obtain ⟨y, ys, rfl, ⟨h1, h2, h3⟩, hE⟩ := hE
    cases kv with
    | str s =>
      simp only [V] at h1
      simp only [findA] at h
      simp only [Instr.findNow, h1, Instr.sameNow, str_eq]
      cases hd : decide (k = s) with
      | true =>
        simp only [hd, cond_true, Option.some.injEq] at h
        subst h
        exact ⟨_, rfl, y.val, rfl, h2⟩
      | false =>
        simp only [hd, cond_false] at h
        exact findNow_run hE h
    | _ => simp only [findA, reduceCtorEq] at h

theorem findKey_run {P : Program} {w : World} {φ : List Emb} {kt : TypeId} (hk : isStrT P kt = true) {k : List UInt8} {es : List EN} {ES : List MapEntry} {r : Option (Nat × AV)} (hE : Entries φ es ES) (h : findA k es 0 = some r) :
    ∃ r', (Instr.findKey kt (.string ⟨k.toArray⟩) ES).run P w = .ok r' w ∧ FoundR φ r r' := by
  obtain ⟨r', h1, h2⟩ := findNow_run hE h
  exact ⟨r', MapKept.run_findKey (isStrT_eq hk) h1, h2⟩
theorem checkKey_run {P : Program} {w : World} {kt : TypeId} (hk : isStrT P kt = true) (empty : Bool) (k : ByteArray) : (Instr.checkKey empty 10000 kt (.string k)).run P w = .ok () w :=
  MapKept.run_checkKey (isStrT_eq hk) (by simp [MapKept.IsKey]) empty 9999

def mapOf (h : Heap) (x : AV) : Option (List EN) :=
  match x with
  | .map none => some []
  | .map (some r) => (match h.get r with | some (.map es _) => some es | _ => none)
  | _ => none
def lookupA (P : Program) (h : Heap) (t : TypeId) (x k : AV) (ok : Bool) : Option AV :=
  match P.underlying t, k with
  | some (.map kt el), .str s =>
    (match isStrT P kt, mapOf h x with
    | true, some es => (match findA s es 0 with
      | some (some (_, v)) => some (if ok then .tuple [v, .bool true] else v)
      | some none => (match zeroA P el with | some z => some (if ok then .tuple [z, .bool false] else z) | none => none)
      | none => none)
    | _, _ => none)
  | _, _ => none

theorem mapOf_run {P : Program} {φ : List Emb} {h : Heap} {w0 w : World} (hR : R P φ h w0 w) {x : AV} {es : List EN} (hm : mapOf h x = some es) {x' : Value} (hx : V φ x x') :
    (x' = .map none ∧ es = []) ∨ ∃ b ES c, x' = .map (some b) ∧ w.heap[b]? = some (.map ES c) ∧ Entries φ es ES.toList := by
  unfold mapOf at hm
  split at hm
  · cases hm; simp only [V] at hx; exact .inl ⟨hx, rfl⟩
  · rename_i r
    split at hm
    · rename_i es' c hg
      cases hm
      simp only [V] at hx
      obtain ⟨e, he, rfl⟩ := hx
      obtain ⟨e', he', ⟨ES, h1, h2⟩, _⟩ := hR.objs _ _ hg
      rw [he] at he'; cases he'
      exact .inr ⟨e.blk, ES, c, rfl, h1, h2⟩
    · cases hm
  · cases hm

theorem lookup_end {P : Program} {w : World} {φ : List Emb} {el : TypeId} {ok : Bool} {f : Option (Option (Nat × AV))} {r : AV} (hr : (match f with
      | some (some (_, v)) => some (if ok then .tuple [v, .bool true] else v)
      | some none => (match zeroA P el with | some z => some (if ok then .tuple [z, .bool false] else z) | none => none)
      | none => none) = some r) : ∃ fr, f = some fr ∧ ∀ r', FoundR φ fr r' → ∃ v b u, (match r' with | some (_, v) => pure (v, true) | none => do pure (← zeroValue el, false) : Sem (Value × Bool)).run P w = .ok (v, b) w ∧ u = (if ok then Value.tuple #[v, .bool b] else v) ∧ V φ r u := by
  have fin : ∀ (a : AV) (v : Value) (b : Bool), V φ a v → V φ (if ok then .tuple [a, .bool b] else a) (if ok then Value.tuple #[v, .bool b] else v) := by
    intro a v b h
    cases ok with
    | true => simp only [if_true, V]; exact ⟨_, rfl, by simp [Vs, h, V]⟩
    | false => simpa using h
  split at hr
  · rename_i j v
    cases hr
    refine ⟨_, rfl, fun r' h => ?_⟩
    obtain ⟨v', rfl, hv⟩ := h
    exact ⟨v', true, _, rfl, rfl, fin _ _ _ hv⟩
  · split at hr
    · rename_i z hz
      cases hr
      refine ⟨_, rfl, fun r' h => ?_⟩
      simp only [FoundR] at h
      subst h
      obtain ⟨z', h1, h2⟩ := run_zeroA hz w
      exact ⟨z', false, _, by simp only [Sem.run_bind, h1, Result.andThen_ok, Sem.run_pure], rfl, fin _ _ _ (h2 φ)⟩
    · cases hr
  · cases hr

theorem lookupA_run {P : Program} {φ : List Emb} {h : Heap} {w0 w : World} (hR : R P φ h w0 w) {t : TypeId} {x k r : AV} {ok : Bool} (hl : lookupA P h t x k ok = some r) {x' k' : Value} (hx : V φ x x') (hk : V φ k k') :
    ∃ r', (Instr.lookup t x' k' ok).run P w = .ok r' w ∧ V φ r r' := by
  unfold lookupA at hl
  split at hl
  · rename_i kt el s hu
    split at hl
    · rename_i es hkt hm
      simp only [V] at hk
      subst hk
      obtain ⟨fr, hf, hend⟩ := lookup_end (w := w) (φ := φ) hl
      have go : ∀ (ES : Array MapEntry), Entries φ es ES.toList → ∃ v b u fk, (Instr.findKey kt (.string ⟨s.toArray⟩) ES.toList).run P w = .ok fk w ∧ (match fk with | some (_, v) => pure (v, true) | none => do pure (← zeroValue el, false) : Sem (Value × Bool)).run P w = .ok (v, b) w ∧ u = (if ok then Value.tuple #[v, .bool b] else v) ∧ V φ r u := by
        intro ES hE
        obtain ⟨fk, h1, h2⟩ := findKey_run (P := P) (w := w) hkt hE hf
        obtain ⟨v, b, u, h3, h4, h5⟩ := hend fk h2
        exact ⟨v, b, u, fk, h1, h3, h4, h5⟩
      have tail : ∀ (fk : Option (Nat × Value)) (v : Value) (b : Bool), (match fk with | some (_, v) => pure (v, true) | none => do pure (← zeroValue el, false) : Sem (Value × Bool)).run P w = .ok (v, b) w →
          (match fk with
            | some (_, v) => (do let x ← pure (v, true); pure (if ok then .tuple #[x.1, .bool x.2] else x.1) : Sem Value)
            | none => (do let z ← zeroValue el; let x ← pure (z, false); pure (if ok then .tuple #[x.1, .bool x.2] else x.1))).run P w = .ok (if ok then Value.tuple #[v, .bool b] else v) w := by
        intro fk v b h
        cases fk with
        | some p =>
          simp only [Sem.run_pure, Result.ok.injEq, Prod.mk.injEq] at h
          obtain ⟨⟨rfl, rfl⟩, _⟩ := h
          simp
        | none =>
          simp only [Sem.run_bind] at h ⊢
          cases hz : (zeroValue el).run P w with
          | ok z w1 =>
            simp only [hz, Result.andThen_ok, Sem.run_pure, Result.ok.injEq, Prod.mk.injEq] at h
            obtain ⟨⟨rfl, rfl⟩, rfl⟩ := h
            simp
          | halt a b => simp [hz, Result.andThen] at h
      rcases mapOf_run hR hm hx with ⟨rfl, rfl⟩ | ⟨b, ES, c, rfl, hb, hE⟩
      · obtain ⟨v, bo, u, fk, h1, h2, rfl, h4⟩ := go #[] (by simp [Entries])
        refine ⟨_, ?_, h4⟩
        unfold Instr.lookup
        simp only [Sem.run_bind, run_underlying hu, Result.andThen_ok, Sem.run_pure, checkKey_run hkt, h1]
        have := tail fk v bo h2
        cases fk <;> simpa using this
      · obtain ⟨v, bo, u, fk, h1, h2, rfl, h4⟩ := go ES hE
        refine ⟨_, ?_, h4⟩
        unfold Instr.lookup
        simp only [Sem.run_bind, run_underlying hu, Result.andThen_ok, MapKept.run_getObj_map hb, Sem.run_pure, checkKey_run hkt, h1]
        have := tail fk v bo h2
        cases fk <;> simpa using this
    · cases hl
  · cases hl

def makeMapA (h : Heap) : AV × Heap := (.map (some h.next), h.alloc (.map [] 0))
theorem makeMapA_run {P : Program} {φ : List Emb} {h : Heap} {w0 w : World} (hR : R P φ h w0 w) (t : TypeId) :
    ∃ r' φ' w', (Instr.makeMap t none).run P w = .ok r' w' ∧ Up φ φ' ∧ R P φ' (makeMapA h).2 w0 w' ∧ V φ' (makeMapA h).1 r' := by
  refine ⟨.map (some w.heap.size), _, { w with heap := w.heap.push (.map #[] 0) }, ?_, Up.snoc _ ⟨w.heap.size, 0, 0⟩, R.alloc hR _ _ 0 rfl rfl rfl rfl ⟨#[], by simp, by simp [Entries]⟩, ?_⟩
  · simp [Instr.makeMap]
  · simp only [makeMapA, V]
    exact ⟨_, new_V hR _, rfl⟩

/-- An entry's value is laid anew; a new entry goes to the end. -/
def setVal (i : Nat) (k v : AV) : List EN → List EN
  | [] => []
  | x :: xs => match i with
    | 0 => (k, v, x.2.2) :: xs
    | i + 1 => x :: setVal i k v xs
theorem setVal_E {φ : List Emb} {k v : AV} {k' v' : Value} (hk : V φ k k') (hv : V φ v v') : ∀ {es : List EN} {l : List MapEntry} (i : Nat), Entries φ es l → Entries φ (setVal i k v es) (l.modify i fun e => { e with key := k', val := v' })
  | [], l, i, h => by
    simp only [Entries] at h; subst h
    cases i <;> simp [setVal, Entries]
  | x :: xs, l, i, h => by
    simp only [Entries] at h
    obtain ⟨y, ys, rfl, ⟨h1, h2, h3⟩, h⟩ := h
    cases i with
    | zero =>
      simp only [setVal, Entries, List.modify_zero_cons]
      exact ⟨_, _, rfl, ⟨hk, hv, h3⟩, h⟩
    | succ i =>
      simp only [setVal, Entries, List.modify_succ_cons]
      exact ⟨_, _, rfl, ⟨h1, h2, h3⟩, setVal_E hk hv i h⟩
theorem Entries.snoc {φ : List Emb} {x : EN} {y : MapEntry} (hx : entryOf φ x y) : ∀ {es : List EN} {l : List MapEntry}, Entries φ es l → Entries φ (es ++ [x]) (l ++ [y])
  | [], l, h => by simp only [Entries] at h; subst h; simp only [List.nil_append, Entries]; exact ⟨y, [], rfl, hx, rfl⟩
  | a :: as, l, h => by
    simp only [Entries] at h
    obtain ⟨b, bs, rfl, hb, h⟩ := h
    simp only [List.cons_append, Entries]
    exact ⟨b, bs ++ [y], rfl, hb, Entries.snoc hx h⟩
def mapUpdateA (P : Program) (h : Heap) (t : TypeId) (m k v : AV) : Option Heap :=
  match P.underlying t, m, k with
  | some (.map kt _), .map (some r), .str s =>
    (match isStrT P kt, h.get r with
    | true, some (.map es c) => (match findA s es 0 with
      | some (some (i, _)) => some (h.set r (.map (setVal i (.str s) v es) c))
      | some none => some (h.set r (.map (es ++ [(.str s, v, c)]) (c + 1)))
      | none => none)
    | _, _ => none)
  | _, _, _ => none
theorem findA_at {s : List UInt8} : ∀ {es : List EN} {j i : Nat} {v : AV}, findA s es j = some (some (i, v)) → j ≤ i ∧ ∃ b, es[i - j]? = some (.str s, v, b)
  | [], _, _, _, h => by simp [findA] at h
  | (kv, u, b) :: es, j, i, v, h => by
    cases kv with
    | str s' =>
      simp only [findA] at h
      cases hd : decide (s = s') with
      | true =>
        simp only [hd, cond_true, Option.some.injEq, Prod.mk.injEq] at h
        have := of_decide_eq_true hd
        subst this
        obtain ⟨rfl, rfl⟩ := h
        exact ⟨Nat.le_refl _, b, by simp⟩
      | false =>
        simp only [hd, cond_false] at h
        obtain ⟨h1, b', h2⟩ := findA_at h
        refine ⟨by omega, b', ?_⟩
        rw [show i - j = (i - (j + 1)) + 1 by omega]
        simpa using h2
    | _ => simp only [findA, reduceCtorEq] at h
theorem Entries.at {φ : List Emb} : ∀ {es : List EN} {l : List MapEntry} {i : Nat} {x : EN}, Entries φ es l → es[i]? = some x → ∃ y, l[i]? = some y ∧ entryOf φ x y
  | [], _, _, _, _, h => by simp at h
  | a :: as, l, i, x, hE, h => by
    simp only [Entries] at hE
    obtain ⟨b, bs, rfl, hb, hE⟩ := hE
    cases i with
    | zero => simp at h; subst h; exact ⟨b, by simp, hb⟩
    | succ i => simp at h; obtain ⟨y, h1, h2⟩ := hE.at h; exact ⟨y, by simpa using h1, h2⟩
theorem mapUpdateA_run {P : Program} {φ : List Emb} {h h' : Heap} {w0 w : World} (hR : R P φ h w0 w) {t : TypeId} {m k v : AV} (hu : mapUpdateA P h t m k v = some h') {m' k' v' : Value} (hm : V φ m m') (hk : V φ k k') (hv : V φ v v') :
    ∃ w', (Instr.mapUpdate t m' k' v').run P w = .ok () w' ∧ R P φ h' w0 w' := by
  unfold mapUpdateA at hu
  split at hu
  · rename_i kt el r s hty
    split at hu
    · rename_i es c hkt hg
      simp only [V] at hm hk
      subst hk
      obtain ⟨e, he, rfl⟩ := hm
      obtain ⟨e', he', ⟨ES, hb, hE⟩, hown⟩ := hR.objs _ _ hg
      rw [he] at he'; cases he'
      have hlt := (Array.getElem?_eq_some_iff.1 hb).1
      split at hu
      · rename_i i u hf
        cases hu
        obtain ⟨fk, h1, h2⟩ := findKey_run (P := P) (w := w) hkt hE hf
        obtain ⟨v2, rfl, hv2⟩ := h2
        obtain ⟨_, b, hat⟩ := findA_at hf
        obtain ⟨y, hy, hy2⟩ := hE.at hat
        rw [Nat.sub_zero, Array.getElem?_toList] at hy
        have hkey : y.key = .string ⟨s.toArray⟩ := by simpa [V] using hy2.1
        refine ⟨{ w with heap := w.heap.setIfInBounds e.blk (.map (ES.modify i fun e => { e with key := .string ⟨s.toArray⟩, val := v' }) c) }, ?_, ?_⟩
        · unfold Instr.mapUpdate
          simp only [Sem.run_bind, run_underlying hty, Result.andThen_ok, MapKept.run_getObj_map hb, checkKey_run hkt, h1, hy, Option.map_some, Option.getD_some, hkey, MapKept.run_keyThatStays (d := .string) (k := .string ⟨s.toArray⟩) (by simp [MapKept.IsKey]), MapKept.run_setObj_map _ hb]
        · refine R.set hR hg rfl he (fun k hk => ?_) (by simp) rfl rfl rfl ⟨ES.modify i fun e => { e with key := .string ⟨s.toArray⟩, val := v' }, ?_, ?_⟩
          · simp [Ne.symm hk]
          · simp [hlt]
          · rw [Array.toList_modify]
            exact setVal_E (by simp [V]) hv i hE
      · rename_i hf
        cases hu
        obtain ⟨fk, h1, h2⟩ := findKey_run (P := P) (w := w) hkt hE hf
        simp only [FoundR] at h2
        subst h2
        refine ⟨{ w with heap := w.heap.setIfInBounds e.blk (.map (ES.push { key := .string ⟨s.toArray⟩, val := v', born := c }) (c + 1)) }, ?_, ?_⟩
        · unfold Instr.mapUpdate
          simp only [Sem.run_bind, run_underlying hty, Result.andThen_ok, MapKept.run_getObj_map hb, checkKey_run hkt, h1, MapKept.run_setObj_map _ hb]
        · refine R.set hR hg rfl he (fun k hk => ?_) (by simp) rfl rfl rfl ⟨ES.push { key := .string ⟨s.toArray⟩, val := v', born := c }, ?_, ?_⟩
          · simp [Ne.symm hk]
          · simp [hlt]
          · rw [Array.toList_push]
            exact hE.snoc ⟨by simp [V], hv, rfl⟩
      · cases hu
    · cases hu
  · cases hu
end Go.Am

noncomputable section
namespace Go.Am
open Go.RowKit

theorem blt_iff' (a b : Nat) : Nat.blt a b = true ↔ a < b := by
  unfold Nat.blt
  rw [ble_iff]
  omega
def rangeA (P : Program) (h : Heap) (t : TypeId) (x : AV) : Option (AV × Heap) :=
  match P.underlying t, x with
  | some .string, .str s => some (.ptr (some ⟨h.next, 0⟩), h.alloc (.siter s 0))
  | some (.map _ _), .map (some r) => (match h.get r with | some (.map _ c) => some (.ptr (some ⟨h.next, 0⟩), h.alloc (.iter (some r) c [] none c)) | _ => none)
  | _, _ => none
theorem rangeA_run {P : Program} {φ : List Emb} {h h' : Heap} {w0 w : World} (hR : R P φ h w0 w) {t : TypeId} {x r : AV} (hr : rangeA P h t x = some (r, h')) {x' : Value} (hx : V φ x x') :
    ∃ r' φ' w', (Instr.range t x').run P w = .ok r' w' ∧ Up φ φ' ∧ R P φ' h' w0 w' ∧ V φ' r r' := by
  have fin : ∀ (o : Obj) (o' : Go.Obj), (Instr.range t x').run P w = .ok (.pointer (some ⟨w.heap.size, 0, none⟩)) (w.alloc o') → O (φ ++ [⟨w.heap.size, 0, 0⟩]) ⟨w.heap.size, 0, 0⟩ (w.alloc o') o →
      ∃ r' φ' w', (Instr.range t x').run P w = .ok r' w' ∧ Up φ φ' ∧ R P φ' (h.alloc o) w0 w' ∧ V φ' (.ptr (some ⟨h.next, 0⟩)) r' := by
    intro o o' h1 h2
    refine ⟨_, _, _, h1, Up.snoc _ _, R.alloc hR o o' 0 rfl rfl rfl rfl h2, ?_⟩
    simp only [V]
    exact ⟨_, new_V hR _, rfl⟩
  have hnew : ∀ o' : Go.Obj, (w.alloc o').heap[w.heap.size]? = some o' := fun o' => (MapKept.heap_alloc w o').1
  unfold rangeA at hr
  split at hr
  · rename_i s hu
    cases hr
    simp only [V] at hx
    subst hx
    exact fin _ (.stringIter ⟨s.toArray⟩ 0) (by simp [Instr.range, run_underlying hu]) ⟨rfl, hnew _⟩
  · rename_i k e r hu
    split at hr
    · rename_i es c hg
      cases hr
      simp only [V] at hx
      obtain ⟨em, he, rfl⟩ := hx
      obtain ⟨em', he', ⟨ES, hb, _⟩, _⟩ := hR.objs _ _ hg
      rw [he] at he'; cases he'
      exact fin _ (.mapIter (some em.blk) c #[] c) (run_range_map w t k e em.blk ES c hu hb) ⟨some em.blk, #[], rfl, hnew _, (fun _ => by simp), (fun _ hh => by cases hh), em, (Up.snoc φ _).get he, rfl⟩
    · cases hr
  · cases hr

def entryA (h : Heap) (it : AV) : Option AV :=
  match it with
  | .ptr (some l) =>
    (match l.off, h.get l.id with
    | 0, some (.iter (some m) _ _ cur last) =>
      (match h.get m, cur with
      | some (.map es c), some b => bif Nat.beq c last then (match es.find? (fun x => Nat.beq x.2.2 b) with | some x => some (.tuple [x.1, x.2.1]) | none => none) else none
      | _, _ => none)
    | _, _ => none)
  | _ => none
theorem find_E {φ : List Emb} {b : Nat} : ∀ {es : List EN} {l : List MapEntry} {x : EN}, Entries φ es l → es.find? (fun x => Nat.beq x.2.2 b) = some x → ∃ y, l.find? (·.born == b) = some y ∧ entryOf φ x y
  | [], _, _, _, h => by simp at h
  | a :: as, l, x, hE, h => by
    simp only [Entries] at hE
    obtain ⟨y, ys, rfl, hb, hE⟩ := hE
    rw [List.find?_cons] at h ⊢
    have he : (y.born == b) = Nat.beq a.2.2 b := by rw [← hb.2.2, beq1]; rfl
    split at h
    · rename_i hc
      cases h
      simp only [he, hc]
      exact ⟨y, rfl, hb⟩
    · rename_i hc
      simp only [he, hc]
      exact find_E hE h
theorem entryA_run {P : Program} {φ : List Emb} {h : Heap} {w0 w : World} (hR : R P φ h w0 w) {it r : AV} (he : entryA h it = some r) {it' : Value} (hi : V φ it it') : ∃ r', (Instr.entry it').run P w = .ok r' w ∧ V φ r r' := by
  unfold entryA at he
  split at he
  · rename_i l
    split at he
    · rename_i m since seen cur last hoff hg
      split at he
      · rename_i es c b hgm
        cases hc : Nat.beq c last with
        | false => rw [hc] at he; cases he
        | true =>
          have hcl := Nat.eq_of_beq_eq_true hc
          subst hcl
          rw [hc, cond_true] at he
          split at he
          · rename_i x hx
            cases he
            simp only [V] at hi
            obtain ⟨e, hel, rfl⟩ := hi
            obtain ⟨e', he', ⟨m', S, h0, h1, _, hcur, em, hem, rfl⟩, _⟩ := hR.objs _ _ hg
            rw [hel] at he'; cases he'
            obtain ⟨em', hem', ⟨ES, h2, hE⟩, _⟩ := hR.objs _ _ hgm
            rw [hem] at hem'; cases hem'
            obtain ⟨y, h3, h4⟩ := find_E hE hx
            refine ⟨.tuple #[y.key, y.val], ?_, ?_⟩
            · have hback : S.back? = some b := hcur b rfl
              have hf : ES.find? (·.born == b) = some y := by rw [← Array.find?_toList]; exact h3
              simp only [Instr.entry, h0, hoff, getObj, Sem.run_bind, Sem.run, h1, h2, Result.andThen, hback, bne_self_eq_false, Bool.false_eq_true, if_false, hf]
              rfl
            · simp only [V]; exact ⟨_, rfl, by rw [show (#[y.key, y.val] : Array Value).toList = [y.key, y.val] from rfl, Vs_cons, Vs_cons]; exact ⟨h4.1, h4.2.1, by simp [Vs]⟩⟩
          · cases he
      · cases he
    · cases he
  · cases he

/-! ### A step -/

def over1 : AV := .tuple [.bool false]
def nextS (h : Heap) (it : AV) : Option (AV × Heap) :=
  match it with
  | .ptr (some l) =>
    (match l.off, h.get l.id with
    | 0, some (.siter s pos) => (match s[pos]? with
      | some b => bif Nat.blt b.toNat 128 then some (.tuple [.bool true, .int .i64 pos, .int .i32 b.toNat], h.set l.id (.siter s (pos + 1))) else none
      | none => some (over1, h))
    | _, _ => none)
  | _ => none
theorem over_V (φ : List Emb) : V φ over1 (.tuple #[.bool false]) := by simp only [over1, V]; exact ⟨_, rfl, by simp [Vs, V]⟩
theorem nextS_run {P : Program} {φ : List Emb} {h h' : Heap} {w0 w : World} (hR : R P φ h w0 w) {it r : AV} (hn : nextS h it = some (r, h')) {it' : Value} (hi : V φ it it') (ty : TypeId) :
    ∃ r' w', (Instr.next it' true ty).run P w = .ok r' w' ∧ R P φ h' w0 w' ∧ V φ r r' := by
  unfold nextS at hn
  split at hn
  · rename_i l
    split at hn
    · rename_i s pos hoff hg
      simp only [V] at hi
      obtain ⟨e, hel, rfl⟩ := hi
      obtain ⟨e', he', ⟨h0, h1⟩, hown⟩ := hR.objs _ _ hg
      rw [hel] at he'; cases he'
      rw [h0, hoff]
      split at hn
      · rename_i b hb
        cases hlt : Nat.blt b.toNat 128 with
        | false => rw [hlt] at hn; cases hn
        | true =>
          rw [hlt, cond_true] at hn
          cases hn
          have hps : pos < s.length := (List.getElem?_eq_some_iff.1 hb).1
          have hpos : pos < (⟨s.toArray⟩ : ByteArray).size := by simpa [ByteArray.size] using hps
          have hbb : (⟨s.toArray⟩ : ByteArray)[pos]'hpos = b := by
            have := (List.getElem?_eq_some_iff.1 hb).2
            rw [← this]; rfl
          have hrun := Lib.run_next_ascii_at (P := P) w e.blk ⟨s.toArray⟩ pos ty h1 hpos (by rw [hbb]; exact (blt_iff' _ _).1 hlt)
          rw [hbb] at hrun
          refine ⟨_, _, hrun, ?_, ?_⟩
          · have hsz := (Array.getElem?_eq_some_iff.1 h1).1
            refine R.set hR hg rfl hel (fun k hk => ?_) (by simp [World.iterAt]) rfl rfl rfl ⟨h0, ?_⟩
            · simp [World.iterAt, Ne.symm hk]
            · simp [World.iterAt, hsz]
          · simp only [V]; exact ⟨_, rfl, by simp [Vs, V]⟩
      · rename_i hb
        cases hn
        have hps : ¬ pos < (⟨s.toArray⟩ : ByteArray).size := by
          have := List.getElem?_eq_none_iff.1 hb
          simpa [ByteArray.size] using this
        exact ⟨_, w, Lib.run_next_end_at w e.blk ⟨s.toArray⟩ pos ty h1 hps, hR, over_V φ⟩
    · cases hn
  · cases hn

def insN (x : Nat) : List Nat → List Nat
  | [] => [x]
  | y :: ys => bif Nat.ble x y then x :: y :: ys else y :: insN x ys
theorem insN_mem (x b : Nat) : ∀ (l : List Nat), b ∈ insN x l ↔ b = x ∨ b ∈ l
  | [] => by simp [insN]
  | y :: ys => by
    simp only [insN]
    cases Nat.ble x y with
    | true => simp
    | false =>
      simp only [cond_false, List.mem_cons, insN_mem x b ys]
      constructor
      · rintro (h | h | h)
        · exact .inr (.inl h)
        · exact .inl h
        · exact .inr (.inr h)
      · rintro (h | h | h)
        · exact .inr (.inl h)
        · exact .inl h
        · exact .inr (.inr h)
theorem contains_eq {l m : List Nat} (h : ∀ b, b ∈ l ↔ b ∈ m) (b : Nat) : l.contains b = m.contains b := by
  cases hm : m.contains b with
  | true => simpa using (h b).2 (by simpa using hm)
  | false =>
    have : ¬ b ∈ m := by simpa using hm
    simpa using fun hh => this ((h b).1 hh)
/-- The entries that are left; each may be the next. -/
def leftA (seen : List Nat) (es : List EN) : List EN := es.filter fun x => !seen.contains x.2.2
def nextM (h : Heap) (it : AV) : Option (List (AV × Heap)) :=
  match it with
  | .ptr (some l) =>
    (match l.off, h.get l.id with
    | 0, some (.iter (some m) since seen _ last) => (match h.get m with
      | some (.map es clock) => bif Nat.ble since last && es.all (fun x => Nat.blt x.2.2 since) then
          (match leftA seen es with
          | [] => some [(over1, h)]
          | x :: xs => some ((x :: xs).map fun x => (.tuple [.bool true, x.1, x.2.1], h.set l.id (.iter (some m) since (insN x.2.2 seen) (some x.2.2) clock)))) else none
      | _ => none)
    | _, _ => none)
  | _ => none
theorem left_E {φ : List Emb} (seen : List Nat) : ∀ {es : List EN} {l : List MapEntry}, Entries φ es l → Entries φ (leftA seen es) (l.filter fun e => !seen.contains e.born)
  | [], l, h => by simp only [Entries] at h; subst h; simp [leftA, Entries]
  | a :: as, l, h => by
    simp only [Entries] at h
    obtain ⟨b, bs, rfl, hb, h⟩ := h
    have ih := left_E seen h
    simp only [leftA, List.filter_cons, hb.2.2] at ih ⊢
    split
    · simp only [Entries]; exact ⟨b, _, rfl, hb, ih⟩
    · exact ih
theorem Entries.mem {φ : List Emb} : ∀ {es : List EN} {l : List MapEntry} {y : MapEntry}, Entries φ es l → y ∈ l → ∃ x ∈ es, entryOf φ x y
  | [], l, y, h, hy => by simp only [Entries] at h; subst h; cases hy
  | a :: as, l, y, h, hy => by
    simp only [Entries] at h
    obtain ⟨b, bs, rfl, hb, h⟩ := h
    rcases List.mem_cons.1 hy with rfl | hy
    · exact ⟨a, List.mem_cons_self, hb⟩
    · obtain ⟨x, h1, h2⟩ := h.mem hy; exact ⟨x, List.mem_cons_of_mem _ h1, h2⟩
theorem nextM_run {P : Program} {φ : List Emb} {h : Heap} {w0 w : World} (hR : R P φ h w0 w) {it : AV} {L : List (AV × Heap)} (hn : nextM h it = some L) {it' : Value} (hi : V φ it it') (ty : TypeId) :
    ∃ p ∈ L, ∃ r' w', (Instr.next it' false ty).run P w = .ok r' w' ∧ R P φ p.2 w0 w' ∧ V φ p.1 r' := by
  unfold nextM at hn
  split at hn
  · rename_i l
    split at hn
    · rename_i m since seen cur last hoff hg
      split at hn
      · rename_i es clock hgm
        cases hb : (Nat.ble since last && es.all (fun x => Nat.blt x.2.2 since)) with
        | false => rw [hb] at hn; cases hn
        | true =>
          rw [hb, cond_true] at hn
          rw [Bool.and_eq_true, List.all_eq_true] at hb
          obtain ⟨hsl, hall⟩ := hb
          have hsl := Nat.le_of_ble_eq_true hsl
          simp only [V] at hi
          obtain ⟨e, hel, rfl⟩ := hi
          obtain ⟨e', he', ⟨m', S, h0, h1, hSs, _, em, hem, rfl⟩, hown⟩ := hR.objs _ _ hg
          rw [hel] at he'; cases he'
          obtain ⟨em', hem', ⟨ES, h2, hE⟩, _⟩ := hR.objs _ _ hgm
          rw [hem] at hem'; cases hem'
          rw [h0, hoff]
          have hold : ∀ x ∈ ES.toList, x.born < since := by
            intro y hy
            obtain ⟨x, hx, hxy⟩ := hE.mem hy
            rw [← hxy.2.2]
            exact (blt_iff' _ _).1 (hall x hx)
          have hleft := left_E seen hE
          have hlo : (leftOf ES S).toList = ES.toList.filter fun e => !seen.contains e.born := by
            unfold leftOf
            rw [Array.toList_filter]
            apply List.filter_congr
            intro x _
            have := contains_eq hSs x.born
            rw [← this]
            simp
          rw [← hlo] at hleft
          rcases run_next_at (P := P) w ty e.blk em.blk since last S ES clock h1 h2 hold hsl with ⟨hz, hrun⟩ | ⟨y, hy, w1, hw1, hrun⟩
          · have hnil : (leftOf ES S).toList = [] := by
              have := Array.eq_empty_of_size_eq_zero hz
              rw [this]
            rw [hnil] at hleft
            split at hn
            · rename_i hl
              cases hn
              exact ⟨_, List.mem_cons_self, _, w, hrun, hR, over_V φ⟩
            · rename_i x xs hl
              rw [hl] at hleft
              simp only [Entries] at hleft
              obtain ⟨_, _, hcon, _⟩ := hleft
              cases hcon
          · obtain ⟨x, hx, hxy⟩ := hleft.mem hy
            split at hn
            · rename_i hl; rw [hl] at hx; cases hx
            · rename_i x0 xs hl
              cases hn
              rw [hl] at hx
              refine ⟨_, List.mem_map.2 ⟨x, hx, rfl⟩, _, _, hrun, ?_, ?_⟩
              · have hR1 : R P φ h w0 w1 := by rcases hw1 with rfl | rfl; exact hR; exact hR.drew rfl rfl rfl rfl
                have hw : w1.heap = w.heap := by rcases hw1 with rfl | rfl <;> rfl
                have hsz := (Array.getElem?_eq_some_iff.1 h1).1
                refine R.set hR1 hg rfl hel (fun k hk => ?_) (by simp [ChangeMaps.setBlock]) rfl rfl rfl ⟨some em.blk, S.push y.born, h0, ?_, ?_, ?_, em, hem, rfl⟩
                · simp [ChangeMaps.setBlock, Ne.symm hk]
                · simp [ChangeMaps.setBlock, hw, hsz]
                · intro b
                  rw [insN_mem, hxy.2.2, Array.toList_push, List.mem_append, List.mem_singleton, hSs b]
                  exact or_comm
                · intro b hb
                  cases hb
                  rw [hxy.2.2]
                  simp
              · simp only [V]; exact ⟨_, rfl, by rw [show (#[.bool true, y.key, y.val] : Array Value).toList = [.bool true, y.key, y.val] from rfl, Vs_cons, Vs_cons, Vs_cons]; exact ⟨by simp [V], hxy.1, hxy.2.1, by simp [Vs]⟩⟩
      · cases hn
    · cases hn
  · cases hn
end Go.Am

noncomputable section
namespace Go.Am
open Go.RowKit

def findB (k : List UInt8) : List (AV × AV) → Option (Option AV)
  | [] => some none
  | (.str s, v) :: es => bif decide (k = s) then some (some v) else findB k es
  | _ :: _ => none
/-- Every key is a string, none twice. -/
def KeysB (l : List (AV × AV)) : Prop := (∀ p ∈ l, ∃ s, p.1 = .str s) ∧ (l.map Prod.fst).Nodup
theorem KeysB.perm {l m : List (AV × AV)} (h : KeysB l) (hp : l.Perm m) : KeysB m := ⟨fun p hm => h.1 p (hp.symm.subset hm), (hp.map Prod.fst).nodup_iff.1 h.2⟩
theorem findB_spec {k : List UInt8} : ∀ {l : List (AV × AV)}, KeysB l → ∃ r, findB k l = some r ∧ ∀ v, r = some v ↔ (AV.str k, v) ∈ l
  | [], _ => ⟨none, rfl, fun v => by simp⟩
  | (a, x) :: l, h => by
    obtain ⟨s, hs⟩ := h.1 (a, x) List.mem_cons_self
    have hs : a = .str s := hs
    subst hs
    have hnd : (AV.str s) ∉ l.map Prod.fst ∧ (l.map Prod.fst).Nodup := List.nodup_cons.1 h.2
    obtain ⟨r, h1, h2⟩ := findB_spec (k := k) (l := l) ⟨fun p hp => h.1 p (List.mem_cons_of_mem _ hp), hnd.2⟩
    by_cases hk : k = s
    · subst hk
      refine ⟨some x, by simp [findB], fun v => ?_⟩
      constructor
      · intro hv; cases hv; exact List.mem_cons_self
      · intro hv
        rcases List.mem_cons.1 hv with h3 | h3
        · cases h3; rfl
        · exact absurd (List.mem_map.2 ⟨_, h3, rfl⟩) hnd.1
    · refine ⟨r, by simp [findB, hk, h1], fun v => ?_⟩
      rw [h2 v]
      constructor
      · exact fun hv => List.mem_cons_of_mem _ hv
      · intro hv
        rcases List.mem_cons.1 hv with h3 | h3
        · cases h3; exact absurd rfl hk
        · exact h3
theorem findB_perm {k : List UInt8} {l m : List (AV × AV)} (h : KeysB l) (hp : l.Perm m) : findB k l = findB k m := by
  obtain ⟨r, h1, h2⟩ := findB_spec (k := k) h
  obtain ⟨q, g1, g2⟩ := findB_spec (k := k) (h.perm hp)
  rw [h1, g1]
  congr 1
  apply Option.ext
  intro v
  rw [h2 v, g2 v]
  exact hp.mem_iff
theorem findA_findB {k : List UInt8} : ∀ (es : List EN) (i : Nat), (findA k es i).map (fun r => r.map (·.2)) = findB k (es.map kvOf)
  | [], i => rfl
  | (a, v, b) :: es, i => by
    cases a with
    | str s =>
      simp only [findA, List.map_cons, kvOf, findB]
      by_cases hk : k = s
      · simp [hk]
      · simp [hk]; exact findA_findB es (i + 1)
    | _ => rfl
end Go.Am

noncomputable section
namespace Go.Am
open Go.RowKit

/-- A look-up, whatever finds the key. -/
theorem lookup_gen {P : Program} {φ : List Emb} {h : Heap} {w0 w : World} (hR : R P φ h w0 w) {t kt el : TypeId} (hu : P.underlying t = some (.map kt el)) {x r : AV} {ok : Bool} {es : List EN} (hm : mapOf h x = some es) {f : Option (Option (Nat × AV))} (hl : (match f with
      | some (some (_, v)) => some (if ok then .tuple [v, .bool true] else v)
      | some none => (match zeroA P el with | some z => some (if ok then .tuple [z, .bool false] else z) | none => none)
      | none => none) = some r) {x' k' : Value} (hx : V φ x x') (hck : ∀ e, (Instr.checkKey e 10000 kt k').run P w = .ok () w)
    (hfk : ∀ (l : List MapEntry) (fr : Option (Nat × AV)), Entries φ es l → f = some fr → ∃ fk, (Instr.findKey kt k' l).run P w = .ok fk w ∧ FoundR φ fr fk) :
    ∃ r', (Instr.lookup t x' k' ok).run P w = .ok r' w ∧ V φ r r' := by
  obtain ⟨fr, hf, hend⟩ := lookup_end (w := w) (φ := φ) hl
  have go : ∀ (ES : Array MapEntry), Entries φ es ES.toList → ∃ v b u fk, (Instr.findKey kt k' ES.toList).run P w = .ok fk w ∧ (match fk with | some (_, v) => pure (v, true) | none => do pure (← zeroValue el, false) : Sem (Value × Bool)).run P w = .ok (v, b) w ∧ u = (if ok then Value.tuple #[v, .bool b] else v) ∧ V φ r u := by
    intro ES hE
    obtain ⟨fk, h1, h2⟩ := hfk _ _ hE hf
    obtain ⟨v, b, u, h3, h4, h5⟩ := hend fk h2
    exact ⟨v, b, u, fk, h1, h3, h4, h5⟩
  have tail : ∀ (fk : Option (Nat × Value)) (v : Value) (b : Bool), (match fk with | some (_, v) => pure (v, true) | none => do pure (← zeroValue el, false) : Sem (Value × Bool)).run P w = .ok (v, b) w →
      (match fk with
        | some (_, v) => (do let x ← pure (v, true); pure (if ok then .tuple #[x.1, .bool x.2] else x.1) : Sem Value)
        | none => (do let z ← zeroValue el; let x ← pure (z, false); pure (if ok then .tuple #[x.1, .bool x.2] else x.1))).run P w = .ok (if ok then Value.tuple #[v, .bool b] else v) w := by
    intro fk v b h
    cases fk with
    | some p =>
      simp only [Sem.run_pure, Result.ok.injEq, Prod.mk.injEq] at h
      obtain ⟨⟨rfl, rfl⟩, _⟩ := h
      simp
    | none =>
      simp only [Sem.run_bind] at h ⊢
      cases hz : (zeroValue el).run P w with
      | ok z w1 =>
        simp only [hz, Result.andThen_ok, Sem.run_pure, Result.ok.injEq, Prod.mk.injEq] at h
        obtain ⟨⟨rfl, rfl⟩, rfl⟩ := h
        simp
      | halt a b => simp [hz, Result.andThen] at h
  rcases mapOf_run hR hm hx with ⟨rfl, rfl⟩ | ⟨b, ES, c, rfl, hb, hE⟩
  · obtain ⟨v, bo, u, fk, h1, h2, rfl, h4⟩ := go #[] (by simp [Entries])
    refine ⟨_, ?_, h4⟩
    unfold Instr.lookup
    simp only [Sem.run_bind, run_underlying hu, Result.andThen_ok, Sem.run_pure, hck, h1]
    have := tail fk v bo h2
    cases fk <;> simpa using this
  · obtain ⟨v, bo, u, fk, h1, h2, rfl, h4⟩ := go ES hE
    refine ⟨_, ?_, h4⟩
    unfold Instr.lookup
    simp only [Sem.run_bind, run_underlying hu, Result.andThen_ok, MapKept.run_getObj_map hb, Sem.run_pure, hck, h1]
    have := tail fk v bo h2
    cases fk <;> simpa using this

/-! ### Numbers -/

def findI (k : IntKind) (n : Int) : List EN → Nat → Option (Option (Nat × AV))
  | [], _ => some none
  | (.int k' m, v, _) :: es, i => bif decide (k = k') then (bif decide (n = m) then some (some (i, v)) else findI k n es (i + 1)) else none
  | _ :: _, _ => none
def intT (P : Program) (t : TypeId) (k : IntKind) : Bool := match P.underlying t with | some (.int k') => decide (k = k') | _ => false
theorem intT_eq {P : Program} {t : TypeId} {k : IntKind} (h : intT P t k = true) : P.underlying t = some (.int k) := by
  unfold intT at h
  split at h
  · rename_i k' hu; rw [of_decide_eq_true h]; exact hu
  · cases h
theorem findI_run {φ : List Emb} {k0 k : IntKind} {n : Int} : ∀ {es : List EN} {ES : List MapEntry} {i : Nat} {r : Option (Nat × AV)}, Entries φ es ES → findI k n es i = some r →
    ∃ r', Instr.findNow (.int k0) (.int k n) ES i = some r' ∧ FoundR φ r r'
  | [], ES, i, r, hE, h => by
    simp only [Entries] at hE
    subst hE
    simp only [findI, Option.some.injEq] at h
    subst h
    exact ⟨none, rfl, rfl⟩
  | (kv, v, b) :: es, ES, i, r, hE, h => by
    simp only [Entries] at hE
    obtain ⟨y, ys, rfl, ⟨h1, h2, h3⟩, hE⟩ := hE
    cases kv with
    | int k' m =>
      simp only [V] at h1
      simp only [findI, cond_eq_ite, decide_eq_true_eq] at h
      split at h
      · rename_i hk
        subst hk
        split at h
        · rename_i hn
          subst hn
          simp only [Option.some.injEq] at h
          subst h
          exact ⟨some (i, y.val), by simp [Instr.findNow, h1, Instr.sameNow], y.val, rfl, h2⟩
        · rename_i hn
          obtain ⟨r', h5, h6⟩ := findI_run (k0 := k0) hE h
          refine ⟨r', ?_, h6⟩
          have hb : (n == m) = false := by simpa using hn
          simp only [Instr.findNow, h1, Instr.sameNow, if_true, hb]
          exact h5
      · cases h
    | _ => simp only [findI, reduceCtorEq] at h
def lookupI (P : Program) (h : Heap) (t : TypeId) (x k : AV) (ok : Bool) : Option AV :=
  match P.underlying t, k with
  | some (.map kt el), .int ik n =>
    (match intT P kt ik, mapOf h x with
    | true, some es => (match findI ik n es 0 with
      | some (some (_, v)) => some (if ok then .tuple [v, .bool true] else v)
      | some none => (match zeroA P el with | some z => some (if ok then .tuple [z, .bool false] else z) | none => none)
      | none => none)
    | _, _ => none)
  | _, _ => none
theorem lookupI_run {P : Program} {φ : List Emb} {h : Heap} {w0 w : World} (hR : R P φ h w0 w) {t : TypeId} {x k r : AV} {ok : Bool} (hl : lookupI P h t x k ok = some r) {x' k' : Value} (hx : V φ x x') (hk : V φ k k') :
    ∃ r', (Instr.lookup t x' k' ok).run P w = .ok r' w ∧ V φ r r' := by
  unfold lookupI at hl
  split at hl
  · rename_i kt el ik n hu
    split at hl
    · rename_i es hkt hm
      simp only [V] at hk
      subst hk
      refine lookup_gen hR hu hm hl hx (fun e => MapKept.run_checkKey (intT_eq hkt) (by simp [MapKept.IsKey]) e 9999) (fun l fr hE hf => ?_)
      obtain ⟨fk, h1, h2⟩ := findI_run (k0 := ik) hE hf
      exact ⟨fk, MapKept.run_findKey (intT_eq hkt) h1, h2⟩
    · cases hl
  · cases hl
def mapUpdateI (P : Program) (h : Heap) (t : TypeId) (m k v : AV) : Option Heap :=
  match P.underlying t, m, k with
  | some (.map kt _), .map (some r), .int ik n =>
    (match intT P kt ik, h.get r with
    | true, some (.map es c) => (match findI ik n es 0 with
      | some (some (i, _)) => some (h.set r (.map (setVal i (.int ik n) v es) c))
      | some none => some (h.set r (.map (es ++ [(.int ik n, v, c)]) (c + 1)))
      | none => none)
    | _, _ => none)
  | _, _, _ => none
theorem findI_at {ik : IntKind} {n : Int} : ∀ {es : List EN} {j i : Nat} {v : AV}, findI ik n es j = some (some (i, v)) → j ≤ i ∧ ∃ b, es[i - j]? = some (.int ik n, v, b)
  | [], _, _, _, h => by simp [findI] at h
  | (kv, u, b) :: es, j, i, v, h => by
    cases kv with
    | int k' m =>
      simp only [findI, cond_eq_ite, decide_eq_true_eq] at h
      split at h
      · rename_i hk
        subst hk
        split at h
        · rename_i hn
          subst hn
          simp only [Option.some.injEq, Prod.mk.injEq] at h
          obtain ⟨rfl, rfl⟩ := h
          exact ⟨Nat.le_refl _, b, by simp⟩
        · obtain ⟨h1, b', h2⟩ := findI_at h
          refine ⟨by omega, b', ?_⟩
          rw [show i - j = (i - (j + 1)) + 1 by omega]
          simpa using h2
      · cases h
    | _ => simp only [findI, reduceCtorEq] at h
theorem mapUpdateI_run {P : Program} {φ : List Emb} {h h' : Heap} {w0 w : World} (hR : R P φ h w0 w) {t : TypeId} {m k v : AV} (hu : mapUpdateI P h t m k v = some h') {m' k' v' : Value} (hm : V φ m m') (hk : V φ k k') (hv : V φ v v') :
    ∃ w', (Instr.mapUpdate t m' k' v').run P w = .ok () w' ∧ R P φ h' w0 w' := by
  unfold mapUpdateI at hu
  split at hu
  · rename_i kt el r ik n hty
    split at hu
    · rename_i es c hkt hg
      simp only [V] at hm hk
      subst hk
      obtain ⟨e, he, rfl⟩ := hm
      have hck : ∀ b, (Instr.checkKey b 10000 kt (.int ik n)).run P w = .ok () w := fun b => MapKept.run_checkKey (intT_eq hkt) (by simp [MapKept.IsKey]) b 9999
      obtain ⟨e', he', ⟨ES, hb, hE⟩, hown⟩ := hR.objs _ _ hg
      rw [he] at he'; cases he'
      have hlt := (Array.getElem?_eq_some_iff.1 hb).1
      split at hu
      · rename_i i u hf
        cases hu
        obtain ⟨fk, h0, h2⟩ := findI_run (k0 := ik) hE hf
        have h1 := MapKept.run_findKey (P := P) (w := w) (intT_eq hkt) h0
        obtain ⟨v2, rfl, hv2⟩ := h2
        obtain ⟨_, b, hat⟩ := findI_at hf
        obtain ⟨y, hy, hy2⟩ := hE.at hat
        rw [Nat.sub_zero, Array.getElem?_toList] at hy
        have hkey : y.key = .int ik n := by simpa [V] using hy2.1
        refine ⟨{ w with heap := w.heap.setIfInBounds e.blk (.map (ES.modify i fun e => { e with key := .int ik n, val := v' }) c) }, ?_, ?_⟩
        · unfold Instr.mapUpdate
          simp only [Sem.run_bind, run_underlying hty, Result.andThen_ok, MapKept.run_getObj_map hb, hck, h1, hy, Option.map_some, Option.getD_some, hkey, MapKept.run_keyThatStays (d := .int ik) (k := .int ik n) (by simp [MapKept.IsKey]), MapKept.run_setObj_map _ hb]
        · refine R.set hR hg rfl he (fun k hk => ?_) (by simp) rfl rfl rfl ⟨ES.modify i fun e => { e with key := .int ik n, val := v' }, ?_, ?_⟩
          · simp [Ne.symm hk]
          · simp [hlt]
          · rw [Array.toList_modify]
            exact setVal_E (by simp [V]) hv i hE
      · rename_i hf
        cases hu
        obtain ⟨fk, h0, h2⟩ := findI_run (k0 := ik) hE hf
        have h1 := MapKept.run_findKey (P := P) (w := w) (intT_eq hkt) h0
        simp only [FoundR] at h2
        subst h2
        refine ⟨{ w with heap := w.heap.setIfInBounds e.blk (.map (ES.push { key := .int ik n, val := v', born := c }) (c + 1)) }, ?_, ?_⟩
        · unfold Instr.mapUpdate
          simp only [Sem.run_bind, run_underlying hty, Result.andThen_ok, MapKept.run_getObj_map hb, hck, h1, MapKept.run_setObj_map _ hb]
        · refine R.set hR hg rfl he (fun k hk => ?_) (by simp) rfl rfl rfl ⟨ES.push { key := .int ik n, val := v', born := c }, ?_, ?_⟩
          · simp [Ne.symm hk]
          · simp [hlt]
          · rw [Array.toList_push]
            exact hE.snoc ⟨by simp [V], hv, rfl⟩
      · cases hu
    · cases hu
  · cases hu
end Go.Am
