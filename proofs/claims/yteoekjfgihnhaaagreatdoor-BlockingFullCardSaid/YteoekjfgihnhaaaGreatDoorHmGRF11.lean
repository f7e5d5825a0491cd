/- Parts of the proof by the abstract machine: MapG, BagO. -/
import Derived.Test.YteoekjfgihnhaaaGreatDoorHmGRF10
import Derived.DeepKeys3
import Derived.Test.YteoekjfgihnhaaaGreatDoorHmGRF6
set_option linter.all false
noncomputable section
namespace Go.Am
open Go.RowKit

/-! ### Keys that are arrays or structs -/

def wideT (P : Program) (t : TypeId) : Bool := match P.underlying t with | some (.array _ _) | some (.struct _) => true | _ => false
def keySt (P : Program) (kt : TypeId) (xs : List AV) : Bool := match scalarVs xs with
  | some us => wideT P kt && P.keyTypeAt 100 kt && (Value.agg us.toArray).formed P kt && (P.keyLits 100 kt us).isSome
  | none => false
/-- The same flags, numbers, strings. -/
def sameS : List AV → List AV → Bool
  | [], [] => true
  | .bool a :: xs, .bool b :: ys => decide (a = b) && sameS xs ys
  | .int k n :: xs, .int k' m :: ys => decide (k = k') && decide (n = m) && sameS xs ys
  | .str a :: xs, .str b :: ys => decide (a = b) && sameS xs ys
  | _, _ => false
theorem sameS_eq : ∀ {xs ys : List AV}, sameS xs ys = true → xs = ys := by
  intro xs
  induction xs with
  | nil => intro ys h; cases ys with
    | nil => rfl
    | cons y ys => cases h
  | cons x xs ih =>
    intro ys h
    cases ys with
    | nil => cases x <;> cases h
    | cons y ys =>
      cases x <;> cases y <;> first | (cases h; done) | skip
      all_goals
        simp only [sameS, Bool.and_eq_true, decide_eq_true_eq] at h
        rw [ih h.2]
        first | rw [h.1] | rw [h.1.1, h.1.2]
def findS (P : Program) (kt : TypeId) (xs : List AV) : List EN → Nat → Option (Option (Nat × AV))
  | [], _ => some none
  | (.agg ys, v, _) :: es, i => bif sameS xs ys then (match eqAggA P kt xs ys with | some true => some (some (i, v)) | _ => none) else (match eqAggA P kt xs ys with | some false => findS P kt xs es (i + 1) | _ => none)
  | _ :: _, _ => none
theorem scalarVs_agg {φ : List Emb} {xs : List AV} {us : List Value} (h : scalarVs xs = some us) {k' : Value} (hk : V φ (.agg xs) k') : k' = .agg us.toArray := by
  simp only [V] at hk
  obtain ⟨X, rfl, hX⟩ := hk
  rw [← scalarVs_V h hX]
theorem keySt_check {P : Program} {w : World} {φ : List Emb} {kt : TypeId} {xs : List AV} (h : keySt P kt xs = true) {k' : Value} (hk : V φ (.agg xs) k') (e : Bool) : (Instr.checkKey e 10000 kt k').run P w = .ok () w := by
  unfold keySt at h
  split at h
  · rename_i us hu
    have := scalarVs_agg hu hk
    subst this
    simp only [Bool.and_eq_true] at h
    obtain ⟨⟨⟨_, h2⟩, h3⟩, h4⟩ := h
    obtain ⟨la, hla⟩ := Option.isSome_iff_exists.1 h4
    exact run_checkKey_deep e 9900 100 kt h2 w 100 _ la h3 (by simpa [Value.cells] using hla)
  · cases h
theorem keySt_wide {P : Program} {kt : TypeId} {xs : List AV} (h : keySt P kt xs = true) : wideT P kt = true := by
  unfold keySt at h
  split at h
  · simp only [Bool.and_eq_true] at h; exact h.1.1.1
  · cases h
theorem findS_run {P : Program} {w : World} {φ : List Emb} {kt : TypeId} {xs : List AV} {X : Array Value} (hX : Vs φ xs X.toList) : ∀ {es : List EN} {ES : List MapEntry} {i : Nat} {r : Option (Nat × AV)}, Entries φ es ES → findS P kt xs es i = some r →
    ∃ r', (Instr.findAsking kt (.agg X) ES i).run P w = .ok r' w ∧ FoundR φ r r'
  | [], ES, i, r, hE, h => by
    simp only [Entries] at hE
    subst hE
    simp only [findS, Option.some.injEq] at h
    subst h
    exact ⟨none, by simp [Instr.findAsking], rfl⟩
  | (kv, v, b) :: es, ES, i, r, hE, h => by
    simp only [Entries] at hE
    obtain ⟨y, ys, rfl, ⟨h1, h2, h3⟩, hE⟩ := hE
    cases kv with
    | agg zs =>
      simp only [V] at h1
      obtain ⟨Z, hz, hZ⟩ := h1
      have heq : ∀ c, eqAggA P kt xs zs = some c → (Op.equal kt (.agg X) y.key).run P w = .ok c w := fun c hc => by rw [hz]; exact (eqAggA_run hc hX hZ).2
      simp only [findS, cond_eq_ite] at h
      split at h
      · split at h
        · rename_i hc
          simp only [Option.some.injEq] at h
          subst h
          exact ⟨some (i, y.val), by simp [Instr.findAsking, heq _ hc], y.val, rfl, h2⟩
        · cases h
      · split at h
        · rename_i hc
          obtain ⟨r', h5, h6⟩ := findS_run (w := w) hX hE h
          exact ⟨r', by simp [Instr.findAsking, heq _ hc, h5], h6⟩
        · cases h
    | _ => simp only [findS, reduceCtorEq] at h
theorem findS_key {P : Program} {w : World} {φ : List Emb} {kt : TypeId} (hk : wideT P kt = true) {xs : List AV} {X : Array Value} (hX : Vs φ xs X.toList) {es : List EN} {ES : List MapEntry} {r : Option (Nat × AV)} (hE : Entries φ es ES) (h : findS P kt xs es 0 = some r) :
    ∃ r', (Instr.findKey kt (.agg X) ES).run P w = .ok r' w ∧ FoundR φ r r' := by
  rw [run_findKey_eq w (by unfold wideT at hk; exact hk)]
  exact findS_run hX hE h
theorem findS_at {P : Program} {kt : TypeId} {xs : List AV} : ∀ {es : List EN} {j i : Nat} {v : AV}, findS P kt xs es j = some (some (i, v)) → j ≤ i ∧ ∃ b, es[i - j]? = some (.agg xs, v, b)
  | [], _, _, _, h => by simp [findS] at h
  | (kv, u, b) :: es, j, i, v, h => by
    cases kv with
    | agg ys =>
      simp only [findS, cond_eq_ite] at h
      split at h
      · rename_i hb
        split at h
        · simp only [Option.some.injEq, Prod.mk.injEq] at h
          obtain ⟨rfl, rfl⟩ := h
          rw [sameS_eq hb]
          exact ⟨Nat.le_refl _, b, by simp⟩
        · cases h
      · split at h
        · obtain ⟨h1, b', h2⟩ := findS_at h
          refine ⟨by omega, b', ?_⟩
          rw [show i - j = (i - (j + 1)) + 1 by omega]
          simpa using h2
        · cases h
    | _ => simp only [findS, reduceCtorEq] at h
theorem sameBits_scalars : ∀ {xs : List AV} {us : List Value}, scalarVs xs = some us → ∀ n, ((us.zip us).all fun (x, y) => Instr.sameBits n x y) = true
  | [], us, h, n => by simp only [scalarVs, Option.some.injEq] at h; subst h; rfl
  | a :: as, us, h, n => by
    simp only [scalarVs] at h
    split at h
    · rename_i v vs h1 h2
      cases h
      simp only [List.zip_cons_cons, List.all_cons, sameBits_scalars h2 n, Bool.and_true]
      cases a <;> simp only [scalarV] at h1 <;> first | (cases h1; done) | skip
      all_goals (cases h1; cases n <;> simp [Instr.sameBits, MapKept.bytes_beq])
    · cases h
theorem stays_agg {P : Program} {w : World} {xs : List AV} {us : List Value} (h : scalarVs xs = some us) : (Instr.keyThatStays (.agg us.toArray) (.agg us.toArray)).run P w = .ok (.agg us.toArray) w := by
  have : Instr.sameBits 10000 (.agg us.toArray) (.agg us.toArray) = true := by
    rw [show 10000 = 9999 + 1 from rfl]
    simp only [Instr.sameBits, beq_self_eq_true, Bool.true_and]
    exact sameBits_scalars h 9999
  simp [Instr.keyThatStays, this]

/-! ### Any key -/

/-- Where a key stands. -/
def findK (P : Program) (kt : TypeId) (k : AV) (es : List EN) : Option (Option (Nat × AV)) := match k with
  | .str s => bif isStrT P kt then findA s es 0 else none
  | .int ik n => bif intT P kt ik then findI ik n es 0 else none
  | .agg xs => bif keySt P kt xs then findS P kt xs es 0 else none
  | _ => none
theorem findK_run {P : Program} {φ : List Emb} {kt : TypeId} {k : AV} {es : List EN} {r : Option (Nat × AV)} (h : findK P kt k es = some r) {k' : Value} (hk : V φ k k') :
    (∀ (w : World) (e : Bool), (Instr.checkKey e 10000 kt k').run P w = .ok () w) ∧ (∀ (w : World) (ES : List MapEntry), Entries φ es ES → ∃ r', (Instr.findKey kt k' ES).run P w = .ok r' w ∧ FoundR φ r r') ∧
      ∀ j v, r = some (j, v) → ∃ b, es[j]? = some (k, v, b) ∧ ∀ (u : Value), V φ k u → u = k' ∧ ∀ w : World, (Instr.keyThatStays u k').run P w = .ok k' w := by
  unfold findK at h
  split at h
  · rename_i s
    rw [cond_eq_ite] at h
    split at h
    · rename_i hs
      simp only [V] at hk
      subst hk
      refine ⟨fun w e => checkKey_run hs e _, fun w ES hE => findKey_run hs hE h, fun j v hr => ?_⟩
      subst hr
      obtain ⟨_, b, hb⟩ := findA_at h
      refine ⟨b, by simpa using hb, fun u hu => ?_⟩
      simp only [V] at hu
      subst hu
      exact ⟨rfl, fun w => MapKept.run_keyThatStays (d := .string) (by simp [MapKept.IsKey])⟩
    · cases h
  · rename_i ik n
    rw [cond_eq_ite] at h
    split at h
    · rename_i hs
      simp only [V] at hk
      subst hk
      refine ⟨fun w e => MapKept.run_checkKey (intT_eq hs) (by simp [MapKept.IsKey]) e 9999, fun w ES hE => ?_, fun j v hr => ?_⟩
      · obtain ⟨fk, h1, h2⟩ := findI_run (k0 := ik) hE h
        exact ⟨fk, MapKept.run_findKey (intT_eq hs) h1, h2⟩
      · subst hr
        obtain ⟨_, b, hb⟩ := findI_at h
        refine ⟨b, by simpa using hb, fun u hu => ?_⟩
        simp only [V] at hu
        subst hu
        exact ⟨rfl, fun w => MapKept.run_keyThatStays (d := .int ik) (by simp [MapKept.IsKey])⟩
    · cases h
  · rename_i xs
    rw [cond_eq_ite] at h
    split at h
    · rename_i hs
      have hk0 := hk
      simp only [V] at hk
      obtain ⟨X, rfl, hX⟩ := hk
      refine ⟨fun w e => keySt_check hs hk0 e, fun w ES hE => findS_key (keySt_wide hs) hX hE h, fun j v hr => ?_⟩
      subst hr
      obtain ⟨_, b, hb⟩ := findS_at h
      refine ⟨b, by simpa using hb, fun u hu => ?_⟩
      unfold keySt at hs
      split at hs
      · rename_i us hus
        rw [scalarVs_agg hus hu, scalarVs_agg hus hk0]
        exact ⟨rfl, fun w => stays_agg hus⟩
      · cases hs
    · cases h
  · cases h

def lookupG (P : Program) (h : Heap) (t : TypeId) (x k : AV) (ok : Bool) : Option AV :=
  match P.underlying t, mapOf h x with
  | some (.map kt el), some es => (match findK P kt k es with
      | some (some (_, v)) => some (if ok then .tuple [v, .bool true] else v)
      | some none => (match zeroA P el with | some z => some (if ok then .tuple [z, .bool false] else z) | none => none)
      | none => none)
  | _, _ => none
theorem lookupG_run {P : Program} {φ : List Emb} {h : Heap} {w0 w : World} (hR : R P φ h w0 w) {t : TypeId} {x k r : AV} {ok : Bool} (hl : lookupG P h t x k ok = some r) {x' k' : Value} (hx : V φ x x') (hk : V φ k k') :
    ∃ r', (Instr.lookup t x' k' ok).run P w = .ok r' w ∧ V φ r r' := by
  unfold lookupG at hl
  split at hl
  · rename_i kt el es hu hm
    have hf : ∃ fr, findK P kt k es = some fr := by
      cases hf : findK P kt k es with
      | none => rw [hf] at hl; cases hl
      | some fr => exact ⟨fr, rfl⟩
    obtain ⟨fr, hf⟩ := hf
    obtain ⟨h1, h2, _⟩ := findK_run hf hk
    refine lookup_gen hR hu hm hl hx (h1 w) (fun l fr' hE hf' => ?_)
    rw [hf, Option.some.injEq] at hf'
    subst hf'
    exact h2 w l hE
  · cases hl
def mapUpdateG (P : Program) (h : Heap) (t : TypeId) (m k v : AV) : Option Heap :=
  match P.underlying t, m with
  | some (.map kt _), .map (some r) =>
    (match h.get r with
    | some (.map es c) => (match findK P kt k es with
      | some (some (i, _)) => some (h.set r (.map (setVal i k v es) c))
      | some none => some (h.set r (.map (es ++ [(k, v, c)]) (c + 1)))
      | none => none)
    | _ => none)
  | _, _ => none
/-- What is known of a map's block. -/
theorem map_block {P : Program} {φ : List Emb} {h : Heap} {w0 w : World} (hR : R P φ h w0 w) {r : Nat} {es : List EN} {c : Nat} (hg : h.get r = some (.map es c)) {m' : Value} (hm : V φ (.map (some r)) m') :
    ∃ e ES, φ[r]? = some e ∧ m' = .map (some e.blk) ∧ w.heap[e.blk]? = some (.map ES c) ∧ Entries φ es ES.toList ∧
      ∀ (es' : List EN) (ES' : Array MapEntry) (c' : Nat), Entries φ es' ES'.toList → R P φ (h.set r (.map es' c')) w0 { w with heap := w.heap.setIfInBounds e.blk (.map ES' c') } := by
  simp only [V] at hm
  obtain ⟨e, he, rfl⟩ := hm
  obtain ⟨e', he', ⟨ES, hb, hE⟩, hown⟩ := hR.objs _ _ hg
  rw [he] at he'; cases he'
  have hlt := (Array.getElem?_eq_some_iff.1 hb).1
  refine ⟨e, ES, he, rfl, hb, hE, fun es' ES' c' hE' => ?_⟩
  refine R.set hR hg rfl he (fun k hk => ?_) (by simp) rfl rfl rfl ⟨ES', ?_, hE'⟩
  · simp [Ne.symm hk]
  · simp [hlt]
theorem mapUpdateG_run {P : Program} {φ : List Emb} {h h' : Heap} {w0 w : World} (hR : R P φ h w0 w) {t : TypeId} {m k v : AV} (hu : mapUpdateG P h t m k v = some h') {m' k' v' : Value} (hm : V φ m m') (hk : V φ k k') (hv : V φ v v') :
    ∃ w', (Instr.mapUpdate t m' k' v').run P w = .ok () w' ∧ R P φ h' w0 w' := by
  unfold mapUpdateG at hu
  split at hu
  · rename_i kt el r hty
    split at hu
    · rename_i es c hg
      obtain ⟨e, ES, he, rfl, hb, hE, hset⟩ := map_block hR hg hm
      split at hu
      · rename_i i u hf
        cases hu
        obtain ⟨hck, hfk, hst⟩ := findK_run hf hk
        obtain ⟨fk, h1, h2⟩ := hfk w _ hE
        obtain ⟨v2, rfl, hv2⟩ := h2
        obtain ⟨b, hat, hkeep⟩ := hst i u rfl
        obtain ⟨y, hy, hy2⟩ := hE.at hat
        rw [Array.getElem?_toList] at hy
        obtain ⟨hkey, hstay⟩ := hkeep y.key hy2.1
        refine ⟨{ w with heap := w.heap.setIfInBounds e.blk (.map (ES.modify i fun e => { e with key := k', val := v' }) c) }, ?_, hset _ _ _ ?_⟩
        · unfold Instr.mapUpdate
          simp only [Sem.run_bind, run_underlying hty, Result.andThen_ok, MapKept.run_getObj_map hb, hck, h1, hy, Option.map_some, Option.getD_some, hstay, MapKept.run_setObj_map _ hb]
        · rw [Array.toList_modify]
          exact setVal_E hk hv i hE
      · rename_i hf
        cases hu
        obtain ⟨hck, hfk, hst⟩ := findK_run hf hk
        obtain ⟨fk, h1, h2⟩ := hfk w _ hE
        simp only [FoundR] at h2
        subst h2
        refine ⟨{ w with heap := w.heap.setIfInBounds e.blk (.map (ES.push { key := k', val := v', born := c }) (c + 1)) }, ?_, hset _ _ _ ?_⟩
        · unfold Instr.mapUpdate
          simp only [Sem.run_bind, run_underlying hty, Result.andThen_ok, MapKept.run_getObj_map hb, hck, h1, MapKept.run_setObj_map _ hb]
        · rw [Array.toList_push]
          exact hE.snoc ⟨hk, hv, rfl⟩
      · cases hu
    · cases hu
  · cases hu

/-! ### An entry in its place -/

def mapEntryA (P : Program) (h : Heap) (t : TypeId) (m k : AV) : Option (AV × Heap) :=
  match P.underlying t, m with
  | some (.map kt el), .map (some r) =>
    (match h.get r with
    | some (.map es c) => (match findK P kt k es with
      | some (some (i, v)) => (match es[i]? with | some (_, _, b) => some (.tuple [v, .int .i64 b], h.set r (.map (setVal i k v es) c)) | none => none)
      | some none => (match zeroA P el with | some z => some (.tuple [z, .int .i64 c], h.set r (.map (es ++ [(k, z, c)]) (c + 1))) | none => none)
      | none => none)
    | _ => none)
  | _, _ => none
theorem modify_key {ES : Array MapEntry} {i : Nat} {y : MapEntry} (hy : ES[i]? = some y) (k' : Value) : (ES.modify i fun e => { e with key := k' }) = ES.modify i fun e => { e with key := k', val := y.val } := by
  apply Array.ext'
  simp only [Array.toList_modify]
  rw [← Array.getElem?_toList] at hy
  generalize ES.toList = l at hy
  induction l generalizing i with
  | nil => simp at hy
  | cons a l ih =>
    cases i with
    | zero => simp at hy; subst hy; simp
    | succ i => simp only [List.modify_succ_cons]; rw [ih (by simpa using hy)]
theorem mapEntryA_run {P : Program} {φ : List Emb} {h h' : Heap} {w0 w : World} (hR : R P φ h w0 w) {t : TypeId} {m k r : AV} (hu : mapEntryA P h t m k = some (r, h')) {m' k' : Value} (hm : V φ m m') (hk : V φ k k') :
    ∃ r' w', (Instr.mapEntry t m' k').run P w = .ok r' w' ∧ R P φ h' w0 w' ∧ V φ r r' := by
  unfold mapEntryA at hu
  split at hu
  · rename_i kt el n hty
    split at hu
    · rename_i es c hg
      obtain ⟨e, ES, he, rfl, hb, hE, hset⟩ := map_block hR hg hm
      split at hu
      · rename_i i u hf
        obtain ⟨hck, hfk, hst⟩ := findK_run hf hk
        obtain ⟨fk, h1, h2⟩ := hfk w _ hE
        obtain ⟨v2, rfl, hv2⟩ := h2
        obtain ⟨b, hat, hkeep⟩ := hst i u rfl
        rw [hat] at hu
        cases hu
        obtain ⟨y, hy, hy2⟩ := hE.at hat
        rw [Array.getElem?_toList] at hy
        obtain ⟨hkey, hstay⟩ := hkeep y.key hy2.1
        refine ⟨.tuple #[v2, .int .i64 b], { w with heap := w.heap.setIfInBounds e.blk (.map (ES.modify i fun e => { e with key := k', val := y.val }) c) }, ?_, hset _ _ _ ?_, ?_⟩
        · unfold Instr.mapEntry
          have hbo : y.born = b := hy2.2.2.symm
          simp only [Sem.run_bind, run_underlying hty, Result.andThen_ok, MapKept.run_getObj_map hb, hck, h1, hy, Option.map_some, Option.getD_some, hstay, MapKept.run_setObj_map _ hb, modify_key hy, Sem.run_pure, hbo]
          rfl
        · rw [Array.toList_modify]
          exact setVal_E hk hy2.2.1 i hE
        · simp only [V, Vs]
          exact ⟨_, rfl, _, _, rfl, hv2, _, _, rfl, rfl, rfl⟩
      · rename_i hf
        split at hu
        · rename_i z hz
          cases hu
          obtain ⟨hck, hfk, hst⟩ := findK_run hf hk
          obtain ⟨fk, h1, h2⟩ := hfk w _ hE
          simp only [FoundR] at h2
          subst h2
          obtain ⟨z', hz1, hz2⟩ := run_zeroA hz w
          refine ⟨.tuple #[z', .int .i64 c], { w with heap := w.heap.setIfInBounds e.blk (.map (ES.push { key := k', val := z', born := c }) (c + 1)) }, ?_, hset _ _ _ ?_, ?_⟩
          · unfold Instr.mapEntry
            simp only [Sem.run_bind, run_underlying hty, Result.andThen_ok, MapKept.run_getObj_map hb, hck, h1, hz1, MapKept.run_setObj_map _ hb, Sem.run_pure]
            rfl
          · rw [Array.toList_push]
            exact hE.snoc ⟨hk, hz2 φ, rfl⟩
          · simp only [V, Vs]
            exact ⟨_, rfl, _, _, rfl, hz2 φ, _, _, rfl, rfl, rfl⟩
        · cases hu
      · cases hu
    · cases hu
  · cases hu
/-- Where the entry of that birth stands. -/
def bornAt (n : Int) : List EN → Nat → Option Nat
  | [], _ => none
  | (_, _, b) :: es, i => bif decide ((b : Int) = n) then some i else bornAt n es (i + 1)
def setV (i : Nat) (v : AV) : List EN → List EN
  | [] => []
  | x :: xs => match i with
    | 0 => (x.1, v, x.2.2) :: xs
    | i + 1 => x :: setV i v xs
theorem setV_E {φ : List Emb} {v : AV} {v' : Value} (hv : V φ v v') : ∀ {es : List EN} {l : List MapEntry} (i : Nat), Entries φ es l → Entries φ (setV i v es) (l.modify i fun e => { e with val := v' })
  | [], l, i, h => by
    simp only [Entries] at h; subst h
    cases i <;> simp [setV, Entries]
  | x :: xs, l, i, h => by
    simp only [Entries] at h
    obtain ⟨y, ys, rfl, ⟨h1, h2, h3⟩, h⟩ := h
    cases i with
    | zero =>
      simp only [setV, Entries, List.modify_zero_cons]
      exact ⟨_, _, rfl, ⟨h1, hv, h3⟩, h⟩
    | succ i =>
      simp only [setV, Entries, List.modify_succ_cons]
      exact ⟨_, _, rfl, ⟨h1, h2, h3⟩, setV_E hv i h⟩
theorem bornAt_run {φ : List Emb} {n : Int} : ∀ {es : List EN} {l : List MapEntry} {j i : Nat}, Entries φ es l → bornAt n es j = some i → j ≤ i ∧ l.findIdx? (fun e => (e.born : Int) == n) = some (i - j)
  | [], _, _, _, _, h => by simp [bornAt] at h
  | (k, v, b) :: es, l, j, i, hE, h => by
    simp only [Entries] at hE
    obtain ⟨y, ys, rfl, ⟨h1, h2, h3⟩, hE⟩ := hE
    have h3 : b = y.born := h3
    subst h3
    simp only [bornAt, cond_eq_ite, decide_eq_true_eq] at h
    rw [List.findIdx?_cons]
    split at h
    · rename_i hn
      cases h
      simp [hn]
    · rename_i hn
      obtain ⟨h4, h5⟩ := bornAt_run hE h
      refine ⟨by omega, ?_⟩
      rw [if_neg (by simpa using hn), h5]
      simp only [Option.map_some, Option.some.injEq]
      omega
def entryStoreA (h : Heap) (m s v : AV) : Option Heap :=
  match m, s with
  | .map (some r), .int _ n => (match h.get r with
    | some (.map es c) => (match bornAt n es 0 with | some i => some (h.set r (.map (setV i v es) c)) | none => none)
    | _ => none)
  | _, _ => none
theorem entryStoreA_run {P : Program} {φ : List Emb} {h h' : Heap} {w0 w : World} (hR : R P φ h w0 w) {t : TypeId} {m s v : AV} (hu : entryStoreA h m s v = some h') {m' s' v' : Value} (hm : V φ m m') (hs : V φ s s') (hv : V φ v v') :
    ∃ w', (Instr.entryStore t m' s' v').run P w = .ok () w' ∧ R P φ h' w0 w' := by
  unfold entryStoreA at hu
  split at hu
  · rename_i r k n
    split at hu
    · rename_i es c hg
      obtain ⟨e, ES, he, rfl, hb, hE, hset⟩ := map_block hR hg hm
      simp only [V] at hs
      subst hs
      split at hu
      · rename_i i hi
        cases hu
        obtain ⟨_, hf⟩ := bornAt_run hE hi
        have hf : ES.findIdx? (fun e => (e.born : Int) == n) = some i := by
          have he : ∀ xs : Array MapEntry, xs.findIdx? (fun e => (e.born : Int) == n) = xs.toList.findIdx? (fun e => (e.born : Int) == n) := fun xs => by cases xs; simp
          rw [he, hf, Nat.sub_zero]
        refine ⟨{ w with heap := w.heap.setIfInBounds e.blk (.map (ES.modify i fun e => { e with val := v' }) c) }, ?_, hset _ _ _ ?_⟩
        · unfold Instr.entryStore
          simp [MapKept.run_getObj_map hb, asInt, asIntOf, hf, MapKept.run_setObj_map _ hb]
        · rw [Array.toList_modify]
          exact setV_E hv i hE
      · cases hu
    · cases hu
  · cases hu

/-! ### An entry is struck -/

def delAt (i : Nat) : List EN → List EN
  | [] => []
  | x :: xs => match i with
    | 0 => xs
    | i + 1 => x :: delAt i xs
theorem delAt_E {φ : List Emb} : ∀ {es : List EN} {l : List MapEntry} (i : Nat), Entries φ es l → Entries φ (delAt i es) (l.eraseIdx i)
  | [], l, i, h => by
    simp only [Entries] at h; subst h
    simp [delAt, Entries]
  | x :: xs, l, i, h => by
    simp only [Entries] at h
    obtain ⟨y, ys, rfl, h1, h⟩ := h
    cases i with
    | zero => simpa only [delAt, List.eraseIdx_cons_zero] using h
    | succ i =>
      simp only [delAt, List.eraseIdx_cons_succ, Entries]
      exact ⟨_, _, rfl, h1, delAt_E i h⟩
def deleteA (P : Program) (h : Heap) (t : TypeId) (m k : AV) : Option (AV × Heap) :=
  match P.underlying t, m with
  | some (.map kt _), .map (some r) =>
    (match h.get r with
    | some (.map es c) => (match findK P kt k es with
      | some (some (i, _)) => some (.tuple [], h.set r (.map (delAt i es) c))
      | some none => some (.tuple [], h)
      | none => none)
    | _ => none)
  | _, _ => none
theorem deleteA_run {P : Program} {φ : List Emb} {h h' : Heap} {w0 w : World} (hR : R P φ h w0 w) {t : TypeId} {ts : Array TypeId} (hts : ts[0]? = some t) {ty : TypeId} {m k r : AV} (hu : deleteA P h t m k = some (r, h')) {m' k' : Value} (hm : V φ m m') (hk : V φ k k') :
    ∃ r' w', (Builtin.delete_ ts ty #[m', k']).run P w = .ok r' w' ∧ R P φ h' w0 w' ∧ V φ r r' := by
  unfold deleteA at hu
  split at hu
  · rename_i kt el n hty
    split at hu
    · rename_i es c hg
      obtain ⟨e, ES, he, rfl, hb, hE, hset⟩ := map_block hR hg hm
      split at hu
      · rename_i i u hf
        cases hu
        obtain ⟨hck, hfk, _⟩ := findK_run hf hk
        obtain ⟨fk, h1, h2⟩ := hfk w _ hE
        obtain ⟨v2, rfl, hv2⟩ := h2
        refine ⟨.tuple #[], { w with heap := w.heap.setIfInBounds e.blk (.map (ES.eraseIdxIfInBounds i) c) }, ?_, hset _ _ _ ?_, by simp [V, Vs]⟩
        · unfold Builtin.delete_
          simp [hts, run_underlying hty, MapKept.run_getObj_map hb, hck, h1, MapKept.run_setObj_map _ hb]
        · rw [Array.toList_eraseIdxIfInBounds]
          exact delAt_E i hE
      · rename_i hf
        cases hu
        obtain ⟨hck, hfk, _⟩ := findK_run hf hk
        obtain ⟨fk, h1, h2⟩ := hfk w _ hE
        simp only [FoundR] at h2
        subst h2
        refine ⟨.tuple #[], { w with heap := w.heap.setIfInBounds e.blk (.map ES c) }, ?_, ?_, by simp [V, Vs]⟩
        · unfold Builtin.delete_
          simp [hts, run_underlying hty, MapKept.run_getObj_map hb, hck, h1, MapKept.run_setObj_map _ hb]
        · have := hset es ES c hE
          refine R.retell this (i := n) (o := .map es c) (o' := .map es c) (by rw [Heap.next_set]) (fun j hj => by rw [Heap.get_set_ne _ _ (Ne.symm hj)]) (Heap.get_set _ _ _) hg rfl fun _ _ hO => hO
      · cases hu
    · cases hu
  · cases hu
end Go.Am

noncomputable section
namespace Go.Am
open Go.RowKit

theorem blt_d (a b : Nat) : Nat.blt a b = decide (a < b) := by
  cases h : Nat.blt a b with
  | true => simpa using (blt_iff a b).1 h
  | false =>
    have : ¬ a < b := fun hh => by rw [(blt_iff a b).2 hh] at h; cases h
    simpa using this
/-- Two keys, compared so that the kernel reckons fast. -/
def eqL (a : List UInt8) : List UInt8 → Bool := List.rec (motive := fun _ => List UInt8 → Bool) (fun b => List.rec true (fun _ _ _ => false) b) (fun x _ ih b => List.rec false (fun y t _ => Bool.rec false (ih t) (Nat.beq x.toNat y.toNat)) b) a
def ltL (a : List UInt8) : List UInt8 → Bool := List.rec (motive := fun _ => List UInt8 → Bool) (fun b => List.rec false (fun _ _ _ => true) b)
  (fun x _ ih b => List.rec false (fun y t _ => Bool.rec (Bool.rec false (ih t) (Nat.beq x.toNat y.toNat)) true (Nat.blt x.toNat y.toNat)) b) a
theorem eqL_iff : ∀ (a b : List UInt8), eqL a b = true ↔ a = b
  | [], [] => by simp [eqL]
  | [], _ :: _ => by simp [eqL]
  | _ :: _, [] => by simp [eqL]
  | x :: a, y :: b => by
    show (Bool.rec false (eqL a b) (Nat.beq x.toNat y.toNat) : Bool) = true ↔ _
    have ih := eqL_iff a b
    rw [beq1]
    by_cases h : x.toNat = y.toNat
    · have hxy : x = y := UInt8.toNat_inj.1 h
      simp [hxy, ih]
    · have hxy : x ≠ y := fun hh => h (by rw [hh])
      simp [h, hxy]
theorem ltL_iff : ∀ (a b : List UInt8), ltL a b = true ↔ a < b
  | [], [] => by simp [ltL]
  | [], _ :: _ => by simp [ltL]
  | _ :: _, [] => by simp [ltL]
  | x :: a, y :: b => by
    show (Bool.rec (Bool.rec false (ltL a b) (Nat.beq x.toNat y.toNat)) true (Nat.blt x.toNat y.toNat) : Bool) = true ↔ _
    have ih := ltL_iff a b
    rw [List.cons_lt_cons_iff, beq1, blt_d]
    by_cases h1 : x.toNat < y.toNat
    · have : x < y := UInt8.lt_iff_toNat_lt.2 h1
      simp [h1, this]
    · have h1' : ¬ x < y := fun hh => h1 (UInt8.lt_iff_toNat_lt.1 hh)
      by_cases h : x.toNat = y.toNat
      · have hxy : x = y := UInt8.toNat_inj.1 h
        simp [hxy, ih]
      · have hxy : x ≠ y := fun hh => h (by rw [hh])
        simp [h1, h, hxy, h1']

/-- The keys are strings and rise. -/
def riseFrom (a : List UInt8) (l : List (AV × AV)) : Bool := match l with
  | [] => true
  | (.str b, _) :: l => bif ltL a b then riseFrom b l else false
  | _ :: _ => false
def riseB : List (AV × AV) → Bool
  | [] => true
  | (.str b, _) :: l => riseFrom b l
  | _ :: _ => false
theorem riseFrom_run : ∀ {l : List (AV × AV)} {a : List UInt8}, riseFrom a l = true → KeysB l ∧ ∀ p ∈ l, ∃ s, p.1 = .str s ∧ a < s
  | [], _, _ => ⟨⟨by simp, by simp⟩, by simp⟩
  | (k, v) :: l, a, h => by
    cases k with
    | str b =>
      simp only [riseFrom, cond_eq_ite] at h
      split at h
      · rename_i hl
        have hlt := (ltL_iff _ _).1 hl
        obtain ⟨⟨h1, h2⟩, h3⟩ := riseFrom_run h
        refine ⟨⟨fun p hp => ?_, ?_⟩, fun p hp => ?_⟩
        · rcases List.mem_cons.1 hp with rfl | hp
          · exact ⟨b, rfl⟩
          · exact h1 p hp
        · refine List.nodup_cons.2 ⟨fun hm => ?_, h2⟩
          obtain ⟨p, hp, he⟩ := List.mem_map.1 hm
          obtain ⟨s, hs, hb⟩ := h3 p hp
          rw [hs] at he
          cases he
          exact List.lt_irrefl _ hb
        · rcases List.mem_cons.1 hp with rfl | hp
          · exact ⟨b, rfl, hlt⟩
          · obtain ⟨s, hs, hb⟩ := h3 p hp
            exact ⟨s, hs, List.lt_trans hlt hb⟩
      · cases h
    | _ => simp [riseFrom] at h
theorem riseB_keys : ∀ {l : List (AV × AV)}, riseB l = true → KeysB l
  | [], _ => ⟨by simp, by simp⟩
  | (k, v) :: l, h => by
    cases k with
    | str b =>
      obtain ⟨⟨h1, h2⟩, h3⟩ := riseFrom_run (show riseFrom b l = true from h)
      refine ⟨fun p hp => ?_, ?_⟩
      · rcases List.mem_cons.1 hp with rfl | hp
        · exact ⟨b, rfl⟩
        · exact h1 p hp
      · refine List.nodup_cons.2 ⟨fun hm => ?_, h2⟩
        obtain ⟨p, hp, he⟩ := List.mem_map.1 hm
        obtain ⟨s, hs, hb⟩ := h3 p hp
        rw [hs] at he
        cases he
        exact List.lt_irrefl _ hb
    | _ => simp [riseB] at h

/-- A pair is laid where it belongs. -/
def insP (k v : AV) : List (AV × AV) → List (AV × AV)
  | [] => [(k, v)]
  | (.str t, u) :: l => (match k with | .str s => bif ltL s t then (k, v) :: (.str t, u) :: l else (.str t, u) :: insP k v l | _ => (k, v) :: (.str t, u) :: l)
  | p :: l => (k, v) :: p :: l
theorem insP_perm (k v : AV) : ∀ l : List (AV × AV), ((k, v) :: l).Perm (insP k v l)
  | [] => .refl _
  | (a, u) :: l => by
    cases a with
    | str t =>
      cases k with
      | str s =>
        simp only [insP, cond_eq_ite]
        split
        · exact .refl _
        · exact (List.Perm.swap _ _ _).trans (.cons _ (insP_perm _ v l))
      | _ => exact .refl _
    | _ => exact .refl _
def repB (s : List UInt8) (v : AV) : List (AV × AV) → List (AV × AV)
  | [] => []
  | (.str t, u) :: l => bif eqL s t then (.str t, v) :: l else (.str t, u) :: repB s v l
  | p :: l => p :: repB s v l
open Classical in
/-- The value of a key is another. -/
def repP (s : List UInt8) (v : AV) (p : AV × AV) : AV × AV := if p.1 = .str s then (.str s, v) else p
theorem repP_hit {s : List UInt8} {v u : AV} : repP s v (.str s, u) = (.str s, v) := by simp [repP]
theorem repP_miss {s : List UInt8} {v : AV} {p : AV × AV} (h : p.1 ≠ .str s) : repP s v p = p := by simp [repP, h]
theorem map_repP_miss {s : List UInt8} {v : AV} {l : List (AV × AV)} (h : ∀ p ∈ l, p.1 ≠ .str s) : l.map (repP s v) = l := by
  induction l with
  | nil => rfl
  | cons a l ih => rw [List.map_cons, repP_miss (h a List.mem_cons_self), ih fun p hp => h p (List.mem_cons_of_mem _ hp)]
theorem repB_eq {s : List UInt8} {v : AV} : ∀ {l : List (AV × AV)}, KeysB l → repB s v l = l.map (repP s v)
  | [], _ => rfl
  | (k, u) :: l, h => by
    obtain ⟨t, ht⟩ := h.1 (k, u) List.mem_cons_self
    have ht : k = .str t := ht
    subst ht
    have hnd : (AV.str t) ∉ l.map Prod.fst ∧ (l.map Prod.fst).Nodup := List.nodup_cons.1 h.2
    simp only [repB, cond_eq_ite, List.map_cons]
    by_cases he : s = t
    · subst he
      rw [if_pos ((eqL_iff s s).2 rfl), repP_hit, map_repP_miss]
      intro p hp hh
      exact hnd.1 (List.mem_map.2 ⟨p, hp, hh⟩)
    · rw [if_neg (fun hh => he ((eqL_iff s t).1 hh)), repP_miss (by simp; exact fun hh => he hh.symm), repB_eq ⟨fun p hp => h.1 p (List.mem_cons_of_mem _ hp), hnd.2⟩]

/-! ### Look-ups, updates -/

def findBF (s : List UInt8) : List (AV × AV) → Option (Option AV)
  | [] => some none
  | (.str t, v) :: es => bif eqL s t then some (some v) else findBF s es
  | _ :: _ => none
theorem findBF_eq (s : List UInt8) : ∀ l : List (AV × AV), findBF s l = findB s l
  | [] => rfl
  | (k, v) :: l => by
    cases k with
    | str t =>
      simp only [findBF, findB, cond_eq_ite, findBF_eq s l]
      by_cases h : s = t
      · rw [if_pos ((eqL_iff s t).2 h)]; simp [h]
      · rw [if_neg (fun hh => h ((eqL_iff s t).1 hh))]; simp [h]
    | _ => rfl
def lookupB (P : Program) (h : Heap) (t : TypeId) (x k : AV) (ok : Bool) : Option AV :=
  match P.underlying t, x, k with
  | some (.map kt el), .map (some r), .str s =>
    (match isStrT P kt, h.get r with
    | true, some (.bag kvs _) => bif riseB kvs then (match findBF s kvs with
      | some (some v) => some (if ok then .tuple [v, .bool true] else v)
      | some none => (match zeroA P el with | some z => some (if ok then .tuple [z, .bool false] else z) | none => none)
      | none => none) else none
    | _, _ => none)
  | _, _, _ => none
theorem R.same {P : Program} {φ : List Emb} {h h' : Heap} {w0 w : World} (hR : R P φ h w0 w) (hn : h'.next = h.next) (hg : ∀ i, h'.get i = h.get i) : R P φ h' w0 w where
  below := hR.below
  len := by rw [hR.len, hn]
  objs := fun i o hi => hR.objs i o (by rw [← hg]; exact hi)
  sep := fun i j oi oj ei ej hij hi hj => hR.sep i j oi oj ei ej hij (by rw [← hg]; exact hi) (by rw [← hg]; exact hj)
  glob := hR.glob
theorem findA_of_bag {s : List UInt8} {es : List EN} {kvs : List (AV × AV)} (hk : KeysB kvs) (hp : (es.map kvOf).Perm kvs) {r : Option AV} (hf : findB s kvs = some r) : ∃ q, findA s es 0 = some q ∧ q.map (·.2) = r := by
  have h1 := findA_findB (k := s) es 0
  rw [findB_perm (hk.perm hp.symm) hp, hf] at h1
  cases hq : findA s es 0 with
  | none => rw [hq] at h1; cases h1
  | some q => rw [hq] at h1; exact ⟨q, rfl, by simpa using h1⟩
theorem lookupB_run {P : Program} {φ : List Emb} {h : Heap} {w0 w : World} (hR : R P φ h w0 w) {t : TypeId} {x k r : AV} {ok : Bool} (hl : lookupB P h t x k ok = some r) {x' k' : Value} (hx : V φ x x') (hk : V φ k k') :
    ∃ r', (Instr.lookup t x' k' ok).run P w = .ok r' w ∧ V φ r r' := by
  unfold lookupB at hl
  split at hl
  · rename_i kt el i s hu
    split at hl
    · rename_i kvs c hkt hg
      rw [cond_eq_ite] at hl
      split at hl
      · rename_i hrise
        obtain ⟨es, hp, _, hR1⟩ := hR.unbag hg
        have hKB := riseB_keys hrise
        refine lookupA_run hR1 (t := t) (x := .map (some i)) (k := .str s) (ok := ok) ?_ hx hk
        unfold lookupA
        have hm : mapOf (h.set i (.map es c)) (.map (some i)) = some es := by simp only [mapOf, Heap.get_set]
        rw [hu]
        simp only [hkt, hm]
        rw [findBF_eq] at hl
        split at hl
        · rename_i v hf
          obtain ⟨q, hq, hqv⟩ := findA_of_bag hKB hp hf
          cases q with
          | none => cases hqv
          | some q => cases q with | mk j u => simp only [Option.map_some, Option.some.injEq] at hqv; subst hqv; rw [hq]; exact hl
        · rename_i hf
          obtain ⟨q, hq, hqv⟩ := findA_of_bag hKB hp hf
          cases q with
          | none => rw [hq]; exact hl
          | some q => cases hqv
        · cases hl
      · cases hl
    · cases hl
  · cases hl
def mapUpdateB (P : Program) (h : Heap) (t : TypeId) (m k v : AV) : Option Heap :=
  match P.underlying t, m, k with
  | some (.map kt _), .map (some r), .str s =>
    (match isStrT P kt, h.get r with
    | true, some (.bag kvs c) => bif riseB kvs then (match findBF s kvs with
      | some (some _) => some (h.set r (.bag (repB s v kvs) c))
      | some none => some (h.set r (.bag (insP (.str s) v kvs) (c + 1)))
      | none => none) else none
    | _, _ => none)
  | _, _, _ => none
theorem setVal_kv {s : List UInt8} {v : AV} : ∀ {es : List EN} {j i : Nat} {u : AV}, KeysB (es.map kvOf) → findA s es j = some (some (i, u)) → (setVal (i - j) (.str s) v es).map kvOf = (es.map kvOf).map (repP s v)
  | [], _, _, _, _, h => by simp [findA] at h
  | (k, u', b) :: es, j, i, u, hK, h => by
    obtain ⟨t, ht⟩ := hK.1 (kvOf (k, u', b)) List.mem_cons_self
    have ht : k = .str t := ht
    subst ht
    have hnd : (AV.str t) ∉ (es.map kvOf).map Prod.fst ∧ ((es.map kvOf).map Prod.fst).Nodup := List.nodup_cons.1 hK.2
    simp only [findA, cond_eq_ite, decide_eq_true_eq] at h
    split at h
    · rename_i hst
      subst hst
      cases h
      rw [Nat.sub_self]
      simp only [setVal, List.map_cons]
      rw [show kvOf (AV.str s, u', b) = (AV.str s, u') from rfl, repP_hit, map_repP_miss]
      · rfl
      · intro p hp hh
        exact hnd.1 (List.mem_map.2 ⟨p, hp, hh⟩)
    · rename_i hst
      obtain ⟨hle, _⟩ := findA_at h
      rw [show i - j = (i - (j + 1)) + 1 by omega]
      simp only [setVal, List.map_cons]
      rw [setVal_kv ⟨fun p hp => hK.1 p (List.mem_cons_of_mem _ hp), hnd.2⟩ h, repP_miss (p := kvOf (AV.str t, u', b)) (by simp [kvOf]; exact fun hh => hst hh.symm)]
theorem setVal_born {k v : AV} : ∀ {es : List EN} {i : Nat}, (setVal i k v es).map (fun x => x.2.2) = es.map fun x => x.2.2
  | [], 0 => rfl
  | [], _ + 1 => rfl
  | _ :: _, 0 => rfl
  | x :: es, i + 1 => by simp only [setVal, List.map_cons]; rw [setVal_born]
theorem births_iff {c : Nat} {es : List EN} : Births c es ↔ (∀ b ∈ es.map (fun x => x.2.2), b < c) ∧ (es.map fun x => x.2.2).Nodup := by
  unfold Births
  simp only [List.mem_map, forall_exists_index, and_imp, forall_apply_eq_imp_iff₂]
theorem setVal_births {c i : Nat} {k v : AV} {es : List EN} (h : Births c es) : Births c (setVal i k v es) := by
  rw [births_iff] at h ⊢
  rw [setVal_born]; exact h
theorem snoc_births {c : Nat} {k v : AV} {es : List EN} (h : Births c es) : Births (c + 1) (es ++ [(k, v, c)]) := by
  rw [births_iff] at h ⊢
  rw [List.map_append, List.map_cons, List.map_nil]
  refine ⟨fun b hb => ?_, List.nodup_append.2 ⟨h.2, by simp, fun a ha b hb => ?_⟩⟩
  · rcases List.mem_append.1 hb with hb | hb
    · have := h.1 b hb; omega
    · rw [List.mem_singleton] at hb; have hb : b = c := hb; omega
  · rw [List.mem_singleton] at hb
    have hb : b = c := hb
    have := h.1 a ha; omega
theorem mapUpdateB_run {P : Program} {φ : List Emb} {h h' : Heap} {w0 w : World} (hR : R P φ h w0 w) {t : TypeId} {m k v : AV} (hu : mapUpdateB P h t m k v = some h') {m' k' v' : Value} (hm : V φ m m') (hk : V φ k k') (hv : V φ v v') :
    ∃ w', (Instr.mapUpdate t m' k' v').run P w = .ok () w' ∧ R P φ h' w0 w' := by
  unfold mapUpdateB at hu
  split at hu
  · rename_i kt el i s hty
    split at hu
    · rename_i kvs c hkt hg
      rw [cond_eq_ite] at hu
      split at hu
      · rename_i hrise
        obtain ⟨es, hp, hbi, hR1⟩ := hR.unbag hg
        have hKB := riseB_keys hrise
        have hKE := hKB.perm hp.symm
        rw [findBF_eq] at hu
        have fin : ∀ (es' : List EN) (kvs' : List (AV × AV)) (c' : Nat), (es'.map kvOf).Perm kvs' → Births c' es' → mapUpdateA P (h.set i (.map es c)) t (.map (some i)) (.str s) v = some ((h.set i (.map es c)).set i (.map es' c')) →
            ∃ w', (Instr.mapUpdate t m' k' v').run P w = .ok () w' ∧ R P φ (h.set i (.bag kvs' c')) w0 w' := by
          intro es' kvs' c' hp' hb' ha
          obtain ⟨w', h1, h2⟩ := mapUpdateA_run hR1 ha hm hk hv
          refine ⟨w', h1, (h2.bag (Heap.get_set _ _ _) hp' hb').same rfl fun j => ?_⟩
          by_cases hij : i = j
          · subst hij; rw [Heap.get_set, Heap.get_set]
          · rw [Heap.get_set_ne _ _ hij, Heap.get_set_ne _ _ hij, Heap.get_set_ne _ _ hij, Heap.get_set_ne _ _ hij]
        split at hu
        · rename_i u hf
          cases hu
          obtain ⟨q, hq, hqv⟩ := findA_of_bag hKB hp hf
          cases q with
          | none => cases hqv
          | some q =>
            cases q with
            | mk j u' =>
              refine fin (setVal j (.str s) v es) _ c ?_ (setVal_births hbi) ?_
              · have := setVal_kv (v := v) hKE hq
                rw [Nat.sub_zero] at this
                rw [this, repB_eq hKB]
                exact hp.map _
              · unfold mapUpdateA
                rw [hty]
                simp only [hkt, Heap.get_set, hq]
        · rename_i hf
          cases hu
          obtain ⟨q, hq, hqv⟩ := findA_of_bag hKB hp hf
          cases q with
          | some q => cases hqv
          | none =>
            refine fin (es ++ [(.str s, v, c)]) _ (c + 1) ?_ (snoc_births hbi) ?_
            · rw [List.map_append, List.map_cons, List.map_nil, show kvOf (AV.str s, v, c) = (AV.str s, v) from rfl]
              exact (List.perm_append_singleton _ _).trans ((List.Perm.cons _ hp).trans (insP_perm _ _ _))
            · unfold mapUpdateA
              rw [hty]
              simp only [hkt, Heap.get_set, hq]
        · cases hu
      · cases hu
    · cases hu
  · cases hu

def lookupM (P : Program) (h : Heap) (t : TypeId) (x k : AV) (ok : Bool) : Option AV := match lookupA P h t x k ok with | some r => some r | none => (match lookupB P h t x k ok with | some r => some r | none => lookupG P h t x k ok)
theorem lookupM_run {P : Program} {φ : List Emb} {h : Heap} {w0 w : World} (hR : R P φ h w0 w) {t : TypeId} {x k r : AV} {ok : Bool} (hl : lookupM P h t x k ok = some r) {x' k' : Value} (hx : V φ x x') (hk : V φ k k') :
    ∃ r', (Instr.lookup t x' k' ok).run P w = .ok r' w ∧ V φ r r' := by
  unfold lookupM at hl
  split at hl
  · rename_i r' ha; cases hl; exact lookupA_run hR ha hx hk
  · split at hl
    · rename_i r' ha; cases hl; exact lookupB_run hR ha hx hk
    · exact lookupG_run hR hl hx hk
def mapUpdateM (P : Program) (h : Heap) (t : TypeId) (m k v : AV) : Option Heap := match mapUpdateA P h t m k v with | some r => some r | none => (match mapUpdateB P h t m k v with | some r => some r | none => mapUpdateG P h t m k v)
theorem mapUpdateM_run {P : Program} {φ : List Emb} {h h' : Heap} {w0 w : World} (hR : R P φ h w0 w) {t : TypeId} {m k v : AV} (hu : mapUpdateM P h t m k v = some h') {m' k' v' : Value} (hm : V φ m m') (hk : V φ k k') (hv : V φ v v') :
    ∃ w', (Instr.mapUpdate t m' k' v').run P w = .ok () w' ∧ R P φ h' w0 w' := by
  unfold mapUpdateM at hu
  split at hu
  · rename_i r' ha; cases hu; exact mapUpdateA_run hR ha hm hk hv
  · split at hu
    · rename_i r' ha; cases hu; exact mapUpdateB_run hR ha hm hk hv
    · exact mapUpdateG_run hR hu hm hk hv

/-! ### A map is told as a bag -/

def toB (es : List EN) : List (AV × AV) := List.rec [] (fun x _ ih => insP x.1 x.2.1 ih) es
theorem toB_perm : ∀ es : List EN, (es.map kvOf).Perm (toB es)
  | [] => .refl _
  | x :: es => (List.Perm.cons _ (toB_perm es)).trans (insP_perm _ _ _)
def bornIn (b : Nat) (es : List EN) : Bool := List.rec false (fun x _ ih => Bool.rec ih true (Nat.beq b x.2.2)) es
def bornOk (c : Nat) (es : List EN) : Bool := List.rec true (fun x xs ih => Bool.rec false (Bool.rec ih false (bornIn x.2.2 xs)) (Nat.blt x.2.2 c)) es
theorem bornIn_false {b : Nat} : ∀ {es : List EN}, bornIn b es = false → b ∉ es.map fun x => x.2.2
  | [], _ => by simp
  | x :: es, h => by
    have h1 : (Bool.rec (motive := fun _ => Bool) (bornIn b es) true (Nat.beq b x.2.2)) = false := h
    cases hb : Nat.beq b x.2.2 with
    | true => rw [hb] at h1; cases h1
    | false =>
      rw [hb] at h1
      rw [List.map_cons, List.mem_cons, not_or]
      exact ⟨Nat.ne_of_beq_eq_false hb, bornIn_false h1⟩
theorem bornOk_run {c : Nat} : ∀ {es : List EN}, bornOk c es = true → Births c es
  | [], _ => ⟨by simp, by simp⟩
  | x :: es, h => by
    have h1 : (Bool.rec (motive := fun _ => Bool) false (Bool.rec (motive := fun _ => Bool) (bornOk c es) false (bornIn x.2.2 es)) (Nat.blt x.2.2 c)) = true := h
    cases hb : Nat.blt x.2.2 c with
    | false => rw [hb] at h1; cases h1
    | true =>
      cases hi : bornIn x.2.2 es with
      | true => rw [hb, hi] at h1; cases h1
      | false =>
        rw [hb, hi] at h1
        obtain ⟨g1, g2⟩ := bornOk_run (es := es) h1
        refine ⟨fun y hy => ?_, List.nodup_cons.2 ⟨bornIn_false hi, g2⟩⟩
        rcases List.mem_cons.1 hy with rfl | hy
        · exact (blt_iff _ _).1 hb
        · exact g1 y hy
def bag1 (i : Nat) (h : Heap) : Heap := match h.get i with
  | some (.map es c) => bif riseB (toB es) && bornOk c es then ⟨h.next, h.tr.put i (some (.bag (toB es) c)), h.log⟩ else h
  | _ => h
theorem bag1_run (i : Nat) (h : Heap) : (bag1 i h).next = h.next ∧ (bag1 i h).log = h.log ∧ ∀ j, (bag1 i h).get j = h.get j ∨ (j = i ∧ ∃ es c, Births c es ∧ h.get j = some (.map es c) ∧ (bag1 i h).get j = some (.bag (toB es) c)) := by
  unfold bag1
  split
  · rename_i es c hg
    rw [cond_eq_ite]
    split
    · rename_i hb
      rw [Bool.and_eq_true] at hb
      refine ⟨rfl, rfl, fun j => ?_⟩
      by_cases hij : i = j
      · subst hij; exact .inr ⟨rfl, es, c, bornOk_run hb.2, hg, T16.get_put _ _ _⟩
      · exact .inl (T16.get_put_ne _ hij _)
    · exact ⟨rfl, rfl, fun j => .inl rfl⟩
  · exact ⟨rfl, rfl, fun j => .inl rfl⟩
theorem R.bag1 {P : Program} {φ : List Emb} {h : Heap} {w0 w : World} (hR : R P φ h w0 w) (i : Nat) : R P φ (bag1 i h) w0 w := by
  obtain ⟨h1, _, h3⟩ := bag1_run i h
  rcases h3 i with h4 | ⟨_, es, c, hbi, h4, h5⟩
  · refine hR.same h1 fun j => ?_
    by_cases hij : j = i
    · subst hij; exact h4
    · rcases h3 j with h5 | ⟨h5, _⟩
      · exact h5
      · exact absurd h5 hij
  · refine (hR.bag h4 (toB_perm es) hbi).same h1 fun j => ?_
    by_cases hij : i = j
    · subst hij; rw [h5, Heap.get_set]
    · rw [Heap.get_set_ne _ _ hij]
      rcases h3 j with h6 | ⟨h6, _⟩
      · exact h6
      · exact absurd h6.symm hij
end Go.Am
