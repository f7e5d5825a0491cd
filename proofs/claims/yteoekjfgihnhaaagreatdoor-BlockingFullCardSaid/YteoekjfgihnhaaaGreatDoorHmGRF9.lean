/- The abstract machine: conversions, interfaces, lengths, maps. -/
import Derived.Test.YteoekjfgihnhaaaGreatDoorHmGRF8
import Derived.Laws.BytesArg
import Derived.Laws.LoneSync
import Derived.Test.YteoekjfgihnhaaaGreatDoorHmGRF7
set_option linter.all false
noncomputable section
namespace Go.Am
open Go.RowKit

/-! ### Conversions -/

def unbyte : AV → Option Int
  | .int .u8 n => some n
  | _ => none
def unbytes : List AV → Option (List Int)
  | [] => some []
  | a :: as => match unbyte a, unbytes as with
    | some n, some ns => some (n :: ns)
    | _, _ => none
theorem unbyte_V {φ : List Emb} {a : AV} {n : Int} (h : unbyte a = some n) {v : Value} (hv : V φ a v) : v = .int .u8 n := by
  unfold unbyte at h
  split at h
  · cases h; simpa [V] using hv
  · cases h
theorem unbytes_V {φ : List Emb} : ∀ {as : List AV} {ns : List Int}, unbytes as = some ns → ∀ {vs : List Value}, Vs φ as vs → vs = ns.map (Value.int .u8)
  | [], ns, h, vs, hv => by simp [unbytes] at h; subst h; simpa [Vs] using hv
  | a :: as, ns, h, vs, hv => by
    simp only [unbytes] at h
    split at h
    · rename_i n ns' h1 h2
      cases h
      simp only [Vs] at hv
      obtain ⟨y, ys, rfl, hy, hys⟩ := hv
      rw [unbyte_V h1 hy, unbytes_V h2 hys]
      rfl
    · cases h

def convertA (P : Program) (h : Heap) (src dst : TypeId) (x : AV) : Option (AV × Heap) :=
  match P.underlying src, P.underlying dst, x with
  | some _, some (.int k), .int _ n => some (.int k (k.wrap n), h)
  | some _, some .string, .str s => some (.str s, h)
  | some _, some (.slice e), .str s =>
    (match P.underlying e with
    | some (.int .u8) => some (.slice (some ⟨h.next, 0⟩) s.length (.tip 1), h.alloc (.cells (s.map byteA) .str))
    | _ => none)
  | some (.slice e), some .string, .slice l n _ =>
    (match P.underlying e, l with
    | some (.int .u8), none => some (.str [], h)
    | some (.int .u8), some l =>
      (match n with
      | 0 => some (.str [], h)
      | n + 1 => (match readA h l (n + 1) with
        | some xs => (match unbytes xs with
          | some ns => some (.str (ns.map fun n => UInt8.ofNat n.toNat), h)
          | none => none)
        | none => none))
    | _, _ => none)
  | some (.pointer t), some .unsafePointer, .ptr (some l) =>
    (match (P.info? t).map (fun i => decide (i.size = 0)), readA h l 1 with
    | some false, some _ => some (.ptr (some l), h)
    | _, _ => none)
  | _, _, _ => none

theorem strOfNums_mk (ns : List Int) : strOfNums ns = ⟨(ns.map fun n => UInt8.ofNat n.toNat).toArray⟩ := rfl

theorem convertA_run {P : Program} {φ : List Emb} {h h' : Heap} {w0 w : World} (hR : R P φ h w0 w) {src dst : TypeId} {x r : AV} (hc : convertA P h src dst x = some (r, h')) {x' : Value} (hx : V φ x x') :
    ∃ r' φ' w', (convert src dst x').run P w = .ok r' w' ∧ Up φ φ' ∧ R P φ' h' w0 w' ∧ V φ' r r' := by
  unfold convertA at hc
  split at hc
  · rename_i d k k' n hs hd
    cases hc
    simp only [V] at hx
    subst hx
    refine ⟨.int k (k.wrap n), φ, w, ?_, Up.refl _, hR, by simp [V]⟩
    simp only [convert, Sem.run_bind, run_underlying hs, run_underlying hd, Result.andThen_ok, Conv.intToInt, Sem.run_pure]
  · rename_i d s hs hd
    cases hc
    simp only [V] at hx
    subst hx
    exact ⟨.string ⟨s.toArray⟩, φ, w, by simp only [convert, Sem.run_bind, run_underlying hs, run_underlying hd, Result.andThen_ok]; cases d <;> rfl, Up.refl _, hR, by simp [V]⟩
  · rename_i d e s hs hd
    split at hc
    · rename_i he
      cases hc
      simp only [V] at hx
      subst hx
      let cap := (Question.appendCap (⟨s.toArray⟩ : ByteArray).size 0 e).cut (w.tape w.drawn (.appendCap (⟨s.toArray⟩ : ByteArray).size 0 e))
      have hcap : s.length ≤ cap := by
        have : cap = s.length + w.tape w.drawn (.appendCap (⟨s.toArray⟩ : ByteArray).size 0 e) % (2 ^ 63 - s.length) := by simp [cap, Question.cut, ByteArray.size]
        omega
      let C : Array Value := (s.toArray.map fun b => Value.int .u8 b.toNat) ++ Array.replicate (cap - s.length) (.int .u8 0)
      have hC : C.size = cap := by simp [C]; omega
      let w' : World := ({ { w with drawn := w.drawn + 1 } with heap := w.heap.push (.cells C e) } : World).freeze ⟨w.heap.size, C.size, none⟩ 1
      have hheap : w'.heap = w.heap.push (.cells C e (C.size, C.size + 1)) := by
        simp only [w', World.freeze]
        rw [if_neg (by omega)]
        simp only
        apply Array.ext
        · simp
        · intro i h1 h2
          rw [Array.getElem_modify]
          by_cases hi : w.heap.size = i
          · subst hi; simp
          · have hlt : i < w.heap.size := by simp at h1; omega
            simp [hi, Array.getElem_push, hlt]
      have hrest : w'.os = w.os ∧ w'.tape = w.tape ∧ w'.output = w.output := by
        simp only [w', World.freeze]
        rw [if_neg (by omega)]
        exact ⟨rfl, rfl, rfl⟩
      have hrun : (convert src dst (.string ⟨s.toArray⟩)).run P w = .ok (.slice (some ⟨w.heap.size, 0, none⟩) s.length cap) w' := by
        have e1 : (convert src dst (.string ⟨s.toArray⟩)).run P w = (Conv.stringToBytes e ⟨s.toArray⟩).run P w := by
          simp only [convert, Sem.run_bind, run_underlying hs, run_underlying hd, Result.andThen_ok]
          cases d <;> simp [run_underlying he]
        rw [e1]
        simp only [Conv.stringToBytes, Sem.run_bind, run_choose, Question.forced, Bool.false_eq_true, if_false, Result.andThen_ok, newRow, run_newObj, Sem.run_pure, markStringish, run_shape, World.shape?]
        simp [w', C, cap, ByteArray.size]
      refine ⟨_, _, w', hrun, Up.snoc _ _, alloc_cells hR (k := .str) (C := C) (OwnOk.free (fun _ => by simp) (fun _ => by simp)) (fun _ k hk hh => by have := hh.1; simp only at this; omega) hheap hrest.1 hrest.2.1 hrest.2.2 ?_ ?_, ?_⟩
      · simp [hC]; exact hcap
      · have e2 : C.toList.take (s.map byteA).length = s.map fun b => Value.int .u8 b.toNat := by
          simp only [C, Array.toList_append, Array.toList_map, List.length_map]
          rw [List.take_left' (by simp)]
        rw [e2]
        exact bytesA_V s
      · exact V_slice (up_new hR _) rfl hcap ⟨by omega, by simp [hC]⟩ (.inl (by simp))
    · cases hc
  · rename_i e l n c hs hd
    have zero : ∀ l' : Option Addr, ∀ c', (convert src dst (.slice l' 0 c')).run P w = (Conv.bytesToString (.slice l' 0 c')).run P w → ∃ r' φ' w', (convert src dst (.slice l' 0 c')).run P w = .ok r' w' ∧ Up φ φ' ∧ R P φ' h w0 w' ∧ V φ' (.str []) r' := by
      intro l' c' hh
      refine ⟨.string .empty, φ, w, ?_, Up.refl _, hR, by simp only [V]; rfl⟩
      rw [hh]
      cases l' with
      | none => rfl
      | some a => simp [Conv.bytesToString, loadCells, loadCellsFrom]
    split at hc
    · rename_i he
      cases hc
      simp only [V] at hx
      obtain ⟨rfl, rfl, _⟩ := hx
      exact zero none 0 (run_convert_bytes_string w src dst e none 0 0 hs he hd)
    · rename_i l he
      simp only [V] at hx
      obtain ⟨em, cap, a, hem, rfl, hcl, hcap, ha⟩ := hx
      split at hc
      · cases hc
        exact zero (some a) cap (run_convert_bytes_string w src dst e (some a) 0 cap hs he hd)
      · rename_i m
        split at hc
        · rename_i xs hr
          split at hc
          · rename_i ns hns
            cases hc
            have ha' : a = ⟨em.blk, em.off + l.off, none⟩ := ha.resolve_right fun hh => by have := hh.1; omega
            subst ha'
            obtain ⟨e', vs, he', hv, hlen, hcell⟩ := read_cells hR hr
            rw [hem] at he'; cases he'
            have hvs := unbytes_V hns hv
            subst hvs
            have hlen' : ns.length = m + 1 := by simpa using hlen
            have := run_convert_bytes_arg (P := P) w src e hs he em.blk (em.off + l.off) (m + 1) cap ns hlen' (fun i hi => by
              have := hcell i (.int .u8 (ns.getD i 0)) (by simp [List.getD, List.getElem?_eq_getElem (show i < ns.length by omega)])
              rwa [Addr.add_lit] at this) dst hd
            exact ⟨_, φ, w, this, Up.refl _, hR, by simp only [V]; rw [strOfNums_mk]⟩
          · cases hc
        · cases hc
    · cases hc
  · rename_i t l hs hd
    split at hc
    · rename_i xs hsz hr
      cases hc
      have hx2 := hx
      simp only [V] at hx2
      obtain ⟨em, hem, rfl⟩ := hx2
      obtain ⟨e', vs, he', hv, hlen, hcell⟩ := read_cells hR hr
      rw [hem] at he'; cases he'
      match vs, hlen with
      | [v], _ =>
        have hc0 := hcell 0 v rfl
        rw [Addr.add_lit, Nat.add_zero] at hc0
        exact ⟨_, φ, w, run_convert_to_unsafe hs hd hsz hc0, Up.refl _, hR, hx⟩
    · cases hc
  · cases hc

/-! ### Interfaces, functions -/

def makeInterfaceA (P : Program) (t : TypeId) (x : AV) : Option AV :=
  match P.underlying t with
  | some (.interface _) => none
  | some _ => some (.iface t x)
  | none => none
theorem makeInterfaceA_run {P : Program} {φ : List Emb} {w : World} {t : TypeId} {x r : AV} (h : makeInterfaceA P t x = some r) {x' : Value} (hx : V φ x x') : ∃ r', (Instr.makeInterface t x').run P w = .ok r' w ∧ V φ r r' := by
  unfold makeInterfaceA at h
  split at h
  · cases h
  · rename_i d hd hno
    cases h
    refine ⟨.iface t x', ?_, by simp only [V]; exact ⟨x', rfl, hx⟩⟩
    simp only [Instr.makeInterface, Sem.run_bind, run_underlying hno, Result.andThen_ok]
    cases d <;> first | rfl | exact absurd rfl (hd _)
  · cases h

def nilCheckA : AV → Option AV
  | .ptr (some l) => some (.ptr (some l))
  | .func (.func f) a b => some (.func (.func f) a b)
  | .iface t v => some (.iface t v)
  | _ => none

def typeAssertA (P : Program) (x : AV) (asserted : TypeId) (ok : Bool) : Option AV :=
  match P.underlying asserted, x with
  | some (.interface want), .iface t v =>
    (match P.info? t with
    | some i => (match Instr.missingMethod want i.methods with | none => some (if ok then .tuple [.iface t v, .bool true] else .iface t v) | some _ => if ok then (zeroA P asserted).map (fun z => .tuple [z, .bool false]) else none)
    | none => none)
  | some (.interface _), .nilIface => if ok then (zeroA P asserted).map (fun z => .tuple [z, .bool false]) else none
  | some (.interface _), _ => none
  | some _, .iface t v => if t = asserted then some (if ok then .tuple [v, .bool true] else v) else if ok then (zeroA P asserted).map (fun z => .tuple [z, .bool false]) else none
  | some _, .nilIface => if ok then (zeroA P asserted).map (fun z => .tuple [z, .bool false]) else none
  | _, _ => none

theorem typeAssertA_run {P : Program} {φ : List Emb} {w : World} {x r : AV} {xt asserted : TypeId} {ok : Bool} (h : typeAssertA P x asserted ok = some r) {x' : Value} (hx : V φ x x') : ∃ r', (Instr.typeAssert x' xt asserted ok).run P w = .ok r' w ∧ V φ r r' := by
  have fails : ∀ (s d : Option TypeId) (m : String), (if ok then (zeroA P asserted).map (fun z => AV.tuple [z, .bool false]) else none) = some r →
      ∃ r', (if ok then do pure (.tuple #[← zeroValue asserted, .bool false]) else runtimePanic (.typeAssertion s d asserted m) : Sem Value).run P w = .ok r' w ∧ V φ r r' := by
    intro s d m hh
    cases ok with
    | false => cases hh
    | true =>
      simp only [if_true, Option.map_eq_some_iff] at hh
      obtain ⟨z, hz, rfl⟩ := hh
      obtain ⟨z', hz', hv⟩ := run_zeroA hz w
      exact ⟨.tuple #[z', .bool false], by simp [hz'], by simp only [V]; exact ⟨_, rfl, by simp [Vs_cons, Vs_nil, hv, V]⟩⟩
  have holds : ∀ (a : AV) (v : Value), V φ a v → some (if ok then AV.tuple [a, .bool true] else a) = some r → ∃ r', (pure (if ok then .tuple #[v, .bool true] else v) : Sem Value).run P w = .ok r' w ∧ V φ r r' := by
    intro a v hv hh
    cases hh
    cases ok with
    | false => exact ⟨v, rfl, hv⟩
    | true => exact ⟨_, rfl, by simp only [if_true, V]; exact ⟨_, rfl, by simp [Vs_cons, Vs_nil, hv, V]⟩⟩
  unfold typeAssertA at h
  split at h
  · rename_i want t v hu
    simp only [V] at hx
    obtain ⟨y, rfl, hy⟩ := hx
    split at h
    · rename_i i hi
      split at h
      · rename_i hm
        have := holds (.iface t v) (.iface t y) (by simp only [V]; exact ⟨y, rfl, hy⟩) h
        simpa [Instr.typeAssert, run_underlying hu, typeInfo, hi, hm] using this
      · rename_i m hm
        have := fails none (some t) m h
        simpa [Instr.typeAssert, run_underlying hu, typeInfo, hi, hm] using this
    · cases h
  · rename_i hu
    simp only [V] at hx
    subst hx
    have := fails none none "" h
    simpa [Instr.typeAssert, run_underlying hu] using this
  · cases h
  · rename_i d t v hno hu
    simp only [V] at hx
    obtain ⟨y, rfl, hy⟩ := hx
    split at h
    · rename_i ht
      have := holds v y hy h
      cases d <;> first | (exact absurd rfl (hno _)) | simpa [Instr.typeAssert, run_underlying hu, ht] using this
    · rename_i ht
      have := fails (some xt) (some t) "" h
      cases d <;> first | (exact absurd rfl (hno _)) | simpa [Instr.typeAssert, run_underlying hu, ht] using this
  · rename_i d hno hu
    simp only [V] at hx
    subst hx
    have := fails (some xt) none "" h
    cases d <;> first | (exact absurd rfl (hno _)) | simpa [Instr.typeAssert, run_underlying hu] using this
  · cases h

/-! ### Lengths; the greatest, the least -/

def lenA (P : Program) (h : Heap) (t : TypeId) (x : AV) : Option AV :=
  match P.underlying t, x with
  | some .string, .str s => some (.int .i64 s.length)
  | some (.slice _), .slice _ n _ => some (.int .i64 n)
  | some (.array n _), _ => some (.int .i64 n)
  | some (.map _ _), .map none => some (.int .i64 0)
  | some (.map _ _), .map (some i) => (match h.get i with | some (.map es _) => some (.int .i64 es.length) | _ => none)
  | _, _ => none

theorem Entries.length {φ : List Emb} : ∀ {es : List (AV × AV × Nat)} {l : List MapEntry}, Entries φ es l → l.length = es.length
  | [], _, h => by simp [Entries] at h; simp [h]
  | x :: xs, _, h => by
    simp only [Entries] at h
    obtain ⟨y, ys, rfl, _, h⟩ := h
    simp [h.length]

theorem lenA_run {P : Program} {φ : List Emb} {h : Heap} {w0 w : World} (hR : R P φ h w0 w) {t ty : TypeId} {x r : AV} (hl : lenA P h t x = some r) {x' : Value} (hx : V φ x x') : ∃ r', (Builtin.len_ #[t] ty #[x']).run P w = .ok r' w ∧ V φ r r' := by
  unfold lenA at hl
  split at hl
  · rename_i s hu
    cases hl
    simp only [V] at hx; subst hx
    have hsz : (⟨s.toArray⟩ : ByteArray).size = s.length := by simp [ByteArray.size]
    refine ⟨goInt s.length, ?_, by simp [V, goInt]⟩
    simp only [Builtin.len_, List.getElem?_toArray, List.getElem?_cons_zero, Sem.run_bind, run_underlying hu, Result.andThen_ok, hsz, Sem.run_pure]
  · rename_i e l n c hu
    cases hl
    refine ⟨goInt n, ?_, by simp [V, goInt]⟩
    cases l with
    | none => simp only [V] at hx; obtain ⟨rfl, rfl, _⟩ := hx; simp [Builtin.len_, run_underlying hu]
    | some l => simp only [V] at hx; obtain ⟨_, _, _, _, rfl, _⟩ := hx; simp [Builtin.len_, run_underlying hu]
  · rename_i n e hu
    cases hl
    exact ⟨goInt n, by simp [Builtin.len_, run_underlying hu], by simp [V, goInt]⟩
  · rename_i k e hu
    cases hl
    simp only [V] at hx; subst hx
    exact ⟨goInt 0, by simp [Builtin.len_, run_underlying hu], by simp [V, goInt]⟩
  · rename_i k e i hu
    split at hl
    · rename_i es clock hg
      cases hl
      simp only [V] at hx
      obtain ⟨em, he, rfl⟩ := hx
      obtain ⟨e', he', ⟨ES, h1, h2⟩, _⟩ := hR.objs _ _ hg
      rw [he] at he'; cases he'
      have hgo : (getObj em.blk).run P w = .ok (.map ES clock) w := by simp [getObj, Sem.run, h1]
      refine ⟨goInt ES.size, by simp [Builtin.len_, run_underlying hu, hgo], ?_⟩
      simp only [V, goInt]
      rw [← Array.length_toList, h2.length]
    · cases hl
  · cases hl

def maxA : AV → List AV → Option AV
  | a, [] => some a
  | .int k x, .int _ y :: rest => maxA (.int k (if y > x then y else x)) rest
  | _, _ => none
def minA : AV → List AV → Option AV
  | a, [] => some a
  | .int k x, .int _ y :: rest => minA (.int k (if y < x then y else x)) rest
  | _, _ => none

theorem maxA_run {P : Program} {φ : List Emb} {w : World} : ∀ {as : List AV} {a r : AV} {vs : List Value} {v : Value}, maxA a as = some r → V φ a v → Vs φ as vs → ∃ r', (vs.foldlM Builtin.max2 v).run P w = .ok r' w ∧ V φ r r'
  | [], a, r, vs, v, h, ha, hs => by
    simp only [maxA, Option.some.injEq] at h
    subst h
    rw [Vs_nil] at hs; subst hs
    exact ⟨v, rfl, ha⟩
  | b :: as, a, r, vs, v, h, ha, hs => by
    unfold maxA at h
    split at h
    · rename_i heq; cases heq
    · rename_i k x k' y rest heq
      cases heq
      simp only [Vs] at hs
      obtain ⟨u, us, rfl, hu, hus⟩ := hs
      simp only [V] at ha hu
      subst ha hu
      obtain ⟨r', h1, h2⟩ := maxA_run (P := P) (w := w) h (v := .int k (if y > x then y else x)) (by simp [V]) hus
      exact ⟨r', by simp only [List.foldlM_cons, Builtin.max2, Sem.run_bind, Sem.run_pure, Result.andThen_ok]; exact h1, h2⟩
    · cases h
theorem minA_run {P : Program} {φ : List Emb} {w : World} : ∀ {as : List AV} {a r : AV} {vs : List Value} {v : Value}, minA a as = some r → V φ a v → Vs φ as vs → ∃ r', (vs.foldlM Builtin.min2 v).run P w = .ok r' w ∧ V φ r r'
  | [], a, r, vs, v, h, ha, hs => by
    simp only [minA, Option.some.injEq] at h
    subst h
    rw [Vs_nil] at hs; subst hs
    exact ⟨v, rfl, ha⟩
  | b :: as, a, r, vs, v, h, ha, hs => by
    unfold minA at h
    split at h
    · rename_i heq; cases heq
    · rename_i k x k' y rest heq
      cases heq
      simp only [Vs] at hs
      obtain ⟨u, us, rfl, hu, hus⟩ := hs
      simp only [V] at ha hu
      subst ha hu
      obtain ⟨r', h1, h2⟩ := minA_run (P := P) (w := w) h (v := .int k (if y < x then y else x)) (by simp [V]) hus
      exact ⟨r', by simp only [List.foldlM_cons, Builtin.min2, Sem.run_bind, Sem.run_pure, Result.andThen_ok]; exact h1, h2⟩
    · cases h
end Go.Am
