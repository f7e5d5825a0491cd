/- Parts of the proof by the abstract machine: Chan, Bag, Rest. -/
import Derived.Test.YteoekjfgihnhaaaGreatDoorHmGRF6
import Derived.Conc.Events
import Derived.Lib.Strings
set_option linter.all false
noncomputable section
namespace Go.Am
open Go.RowKit

def makeChanA (P : Program) (h : Heap) (t : TypeId) (n : AV) : Option (AV × Heap) :=
  match P.underlying t, n with
  | some (.chan _ elem), .int _ 0 => (match P.info? elem with | some _ => some (.chan (some h.next), h.alloc (.chan 0 [] false)) | none => none)
  | _, _ => none
def closeA (h : Heap) (i : Nat) : Option (AV × Heap) :=
  match h.get i with
  | some (.chan cap buf false) => some (.tuple [], h.set i (.chan cap buf true))
  | _ => none

theorem makeChanA_run {P : Program} {φ : List Emb} {h h' : Heap} {w0 w : World} (hR : R P φ h w0 w) {t : TypeId} {n r : AV} (hm : makeChanA P h t n = some (r, h')) {n' : Value} (hn : V φ n n') :
    ∃ r' φ' w', (Instr.makeChan t n').run P w = .ok r' w' ∧ Up φ φ' ∧ R P φ' h' w0 w' ∧ V φ' r r' := by
  unfold makeChanA at hm
  split at hm
  · rename_i dir elem k hu
    split at hm
    · rename_i i hi
      cases hm
      simp only [V] at hn
      subst hn
      refine ⟨.chan (some w.heap.size), _, { w with heap := w.heap.push (.chan 0 #[] false 0 0 false) }, ?_, Up.snoc _ ⟨w.heap.size, 0, 0⟩, ?_, ?_⟩
      · simp [Instr.makeChan, asInt, asIntOf, run_underlying hu, typeInfo, hi]
      · exact R.alloc hR _ _ 0 rfl rfl rfl rfl ⟨#[], 0, 0, by simp, by simp [Vs]⟩
      · simp only [V]
        exact ⟨_, new_V hR _, rfl⟩
    · cases hm
  · cases hm

theorem closeA_run {P : Program} {φ : List Emb} {h h' : Heap} {w0 w : World} (hR : R P φ h w0 w) {i : Nat} {r : AV} (hc : closeA h i = some (r, h')) {x : Value} (hx : V φ (.chan (some i)) x) (ts : Array TypeId) (ty : TypeId) :
    ∃ r' w', (Builtin.close_ ts ty #[x]).run P w = .ok r' w' ∧ R P φ h' w0 w' ∧ V φ r r' := by
  unfold closeA at hc
  split at hc
  · rename_i cap buf hg
    cases hc
    simp only [V] at hx
    obtain ⟨e, he, rfl⟩ := hx
    obtain ⟨e', he', ⟨B, s, rc, h1, h2⟩, hown⟩ := hR.objs _ _ hg
    rw [he] at he'; cases he'
    have hlt := (Array.getElem?_eq_some_iff.1 h1).1
    refine ⟨.tuple #[], { w with heap := w.heap.setIfInBounds e.blk (.chan cap B true s rc false) }, ?_, ?_, by simp only [V]; exact ⟨#[], rfl, by simp [Vs]⟩⟩
    · change (Sem.run P (do
        let .chan room buf closed sent received timer ← getObj e.blk | stuck "close: no channel in this block"
        if closed then runtimePanic (.plain "close of closed channel")
        setObj e.blk (.chan room buf true sent received timer)
        pure (Value.tuple #[])) w) = _
      simp [run_getObj_chan P w h1, run_setObj_chan P w _ h1]
    · refine R.set hR hg rfl he (fun k hk => ?_) (by simp) rfl rfl rfl ⟨B, s, rc, ?_, h2⟩
      · simp [Ne.symm hk]
      · simp [hlt]
  · cases hc
end Go.Am

noncomputable section
namespace Go.Am
open Go.RowKit

abbrev EN := AV × AV × Nat
def kvOf (x : EN) : AV × AV := (x.1, x.2.1)
/-- One object is told in another way. -/
theorem R.retell {P : Program} {φ : List Emb} {h g : Heap} {w0 w : World} (hR : R P φ h w0 w) {i : Nat} {o o' : Obj} (hn : g.next = h.next) (hg : ∀ j, j ≠ i → g.get j = h.get j) (hi : h.get i = some o) (hi' : g.get i = some o') (hown : o'.isOwn = o.isOwn)
    (hO : ∀ e, φ[i]? = some e → O φ e w o → O φ e w o') : R P φ g w0 w := by
  have key : ∀ j p, g.get j = some p → ∃ p', h.get j = some p' ∧ p.isOwn = p'.isOwn ∧ ∀ e, φ[j]? = some e → O φ e w p' → O φ e w p := by
    intro j p hp
    by_cases hj : j = i
    · subst hj
      rw [hi'] at hp; cases hp
      exact ⟨o, hi, hown, hO⟩
    · rw [hg j hj] at hp; exact ⟨p, hp, rfl, fun _ _ h => h⟩
  exact {
    below := hR.below
    len := by rw [hR.len, hn]
    objs := fun j p hp => by
      obtain ⟨p', h4, h5, h6⟩ := key j p hp
      obtain ⟨e, he, hO, hw⟩ := hR.objs j p' h4
      exact ⟨e, he, h6 e he hO, fun hh => hw (by rw [← h5]; exact hh)⟩
    sep := fun a b oa ob ea eb hab ha hb hea heb hown => by
      obtain ⟨oa', h4, h5, _⟩ := key a oa ha
      obtain ⟨ob', h6, _, _⟩ := key b ob hb
      exact hR.sep a b oa' ob' ea eb hab h4 h6 hea heb (by rw [← h5]; exact hown)
    glob := hR.glob }
theorem R.bag {P : Program} {φ : List Emb} {h : Heap} {w0 w : World} (hR : R P φ h w0 w) {i : Nat} {es : List EN} {kvs : List (AV × AV)} {c : Nat} (hi : h.get i = some (.map es c)) (hp : (es.map kvOf).Perm kvs) (hb : Births c es) : R P φ (h.set i (.bag kvs c)) w0 w :=
  hR.retell (i := i) (o := .map es c) (o' := .bag kvs c) rfl (fun _ hj => Heap.get_put_ne _ _ (Ne.symm hj)) hi (Heap.get_put _ _ _) rfl fun _ _ ⟨ES, h1, h2⟩ => ⟨ES, es, h1, h2, hp, hb⟩
theorem R.unbag {P : Program} {φ : List Emb} {h : Heap} {w0 w : World} (hR : R P φ h w0 w) {i : Nat} {kvs : List (AV × AV)} {c : Nat} (hi : h.get i = some (.bag kvs c)) : ∃ es, (es.map kvOf).Perm kvs ∧ Births c es ∧ R P φ (h.set i (.map es c)) w0 w := by
  obtain ⟨e, he, ⟨ES, es, h1, h2, h3, h4⟩, _⟩ := hR.objs i _ hi
  refine ⟨es, h3, h4, hR.retell (i := i) (o := .bag kvs c) (o' := .map es c) rfl (fun _ hj => Heap.get_put_ne _ _ (Ne.symm hj)) hi (Heap.get_put _ _ _) rfl fun e' he' _ => ?_⟩
  rw [he] at he'; cases he'
  exact ⟨ES, h1, h2⟩
end Go.Am

noncomputable section
namespace Go.Am
open Go.RowKit

/-! ### copy -/

def takeA (h : Heap) (size : Nat) (x : AV) (n : Nat) : Option (List AV) :=
  match n with
  | 0 => some []
  | _ + 1 =>
    match x with
    | .slice (some l) m _ => bif Nat.ble n m then readA h l (n * size) else none
    | .str s => bif Nat.beq size 1 then some ((s.take n).map byteA) else none
    | _ => none

def lenOfA : AV → Option Nat
  | .slice _ n _ => some n
  | .str s => some s.length
  | _ => none

theorem lenOfA_run {P : Program} {φ : List Emb} {w : World} {x : AV} {n : Nat} (h : lenOfA x = some n) {x' : Value} (hx : V φ x x') : (Builtin.lenOf x').run P w = .ok n w := by
  cases x with
  | slice l m c =>
    simp only [lenOfA, Option.some.injEq] at h
    subst h
    cases l with
    | none => simp only [V] at hx; obtain ⟨rfl, rfl, _⟩ := hx; rfl
    | some l => simp only [V] at hx; obtain ⟨_, _, _, _, rfl, _⟩ := hx; rfl
  | str s =>
    simp only [lenOfA, Option.some.injEq] at h
    subst h
    simp only [V] at hx; subst hx; simp [Builtin.lenOf, ByteArray.size]
  | _ => simp [lenOfA] at h

theorem takeA_run {P : Program} {φ : List Emb} {h : Heap} {w0 w : World} (hR : R P φ h w0 w) {size : Nat} {x : AV} {n : Nat} {xs : List AV} (ht : takeA h size x n = some xs) (hl : (lenOfA x).isSome = true) {x' : Value} (hx : V φ x x') :
    ∃ vs, (Builtin.firstCells size n x').run P w = .ok vs.toArray w ∧ Vs φ xs vs := by
  cases n with
  | zero =>
    simp only [takeA, Option.some.injEq] at ht
    subst ht
    refine ⟨[], ?_, by simp [Vs]⟩
    cases x with
    | slice l m c =>
      cases l with
      | none => simp only [V] at hx; obtain ⟨rfl, rfl, _⟩ := hx; simp [Builtin.firstCells]
      | some l => simp only [V] at hx; obtain ⟨_, _, _, _, rfl, _⟩ := hx; simp [Builtin.firstCells, loadCells, loadCellsFrom]
    | str s => simp only [V] at hx; subst hx; simp [Builtin.firstCells]
    | _ => simp [lenOfA] at hl
  | succ n =>
    cases x with
    | slice l m c =>
      cases l with
      | none => simp [takeA] at ht
      | some l =>
        simp only [takeA] at ht
        cases hb : Nat.ble (n + 1) m with
        | false => simp [hb] at ht
        | true =>
          simp only [hb, cond_true] at ht
          simp only [V] at hx
          obtain ⟨em, cap, a, he, rfl, hc, hcap, ha⟩ := hx
          have hm := (ble_iff _ _).1 hb
          have ha' : a = ⟨em.blk, em.off + l.off, none⟩ := ha.resolve_right fun hh => by have := hh.1; omega
          subst ha'
          obtain ⟨e', vs, he', hv, hlen, hcell⟩ := read_cells hR ht
          rw [he] at he'; cases he'
          exact ⟨vs, run_firstCells_some w size (n + 1) _ m cap vs hlen hcell, hv⟩
    | str s =>
      simp only [takeA] at ht
      cases hb : Nat.beq size 1 with
      | false => simp [hb] at ht
      | true =>
        simp only [hb, cond_true, Option.some.injEq] at ht
        subst ht
        simp only [V] at hx
        subst hx
        refine ⟨(s.take (n + 1)).map fun b => Value.int .u8 b.toNat, ?_, bytesA_V _⟩
        simp only [Builtin.firstCells, Sem.run_pure]
        congr 1
        apply Array.ext'
        simp [List.map_take]
    | _ => simp [takeA] at ht

def copyA (P : Program) (h : Heap) (dT : TypeId) (d s : AV) : Option (AV × Heap) :=
  match P.underlying dT with
  | some (.slice e) =>
    match sizeA P e, d, lenOfA s with
    | some size, .slice l dLen _, some m =>
      (match takeA h size s (Nat.min m dLen) with
      | some cells =>
        (match l, cells with
        | none, _ => some (.int .i64 (Nat.min m dLen : Nat), h)
        | some _, [] => some (.int .i64 (Nat.min m dLen : Nat), h)
        | some l, cells => bif Nat.ble 1 dLen then (match writeA h l cells with | some h' => some (.int .i64 (Nat.min m dLen : Nat), h') | none => none) else none)
      | none => none)
    | _, _, _ => none
  | _ => none

theorem copyA_run {P : Program} {φ : List Emb} {h h' : Heap} {w0 w : World} (hR : R P φ h w0 w) {dT sT ty : TypeId} {d s r : AV} (hc : copyA P h dT d s = some (r, h')) {d' s' : Value} (hd : V φ d d') (hs : V φ s s') :
    ∃ r' w', (Builtin.copy_ #[dT, sT] ty #[d', s']).run P w = .ok r' w' ∧ R P φ h' w0 w' ∧ V φ r r' := by
  unfold copyA at hc
  split at hc
  rotate_left
  · cases hc
  rename_i e hu
  split at hc
  rotate_left
  · cases hc
  rename_i size l dLen c m hsz hlen
  split at hc
  rotate_left
  · cases hc
  rename_i cells ht
  obtain ⟨vs, hf, hv⟩ := takeA_run hR ht (by rw [hlen]; rfl) hs
  have hl := lenOfA_run (P := P) (w := w) hlen hs
  have hnone : ∀ (x : Nat), V φ (.int .i64 (x : Nat)) (goInt x) := fun x => by simp [V, goInt]
  cases l with
  | none =>
    simp only [Option.some.injEq, Prod.mk.injEq] at hc
    obtain ⟨rfl, rfl⟩ := hc
    simp only [V] at hd
    obtain ⟨rfl, rfl, _⟩ := hd
    refine ⟨goInt (Nat.min m 0 : Nat), w, ?_, hR, hnone _⟩
    simp only [Builtin.copy_, List.getElem?_toArray, List.getElem?_cons_zero, List.getElem?_cons_succ, Sem.run_bind, run_underlying hu, Result.andThen_ok, hl, run_sizeA hsz, hf, Sem.run_pure]
  | some l =>
    simp only [V] at hd
    obtain ⟨em, cap, a, he, rfl, hcl, hcap, ha⟩ := hd
    cases cells with
    | nil =>
      simp only [Option.some.injEq, Prod.mk.injEq] at hc
      obtain ⟨rfl, rfl⟩ := hc
      rw [Vs_nil] at hv
      subst hv
      refine ⟨goInt (Nat.min m dLen : Nat), w, ?_, hR, hnone _⟩
      simp only [Builtin.copy_, List.getElem?_toArray, List.getElem?_cons_zero, List.getElem?_cons_succ, Sem.run_bind, run_underlying hu, Result.andThen_ok, hl, run_sizeA hsz, hf, Sem.run_pure, storeCells]
    | cons x xs =>
      dsimp only at hc
      cases hb : Nat.ble 1 dLen with
      | false => simp [hb] at hc
      | true =>
        simp only [hb, cond_true] at hc
        split at hc
        · rename_i h2 hw
          simp only [Option.some.injEq, Prod.mk.injEq] at hc
          obtain ⟨rfl, rfl⟩ := hc
          have hpos := (ble_iff _ _).1 hb
          have ha' : a = ⟨em.blk, em.off + l.off, none⟩ := ha.resolve_right fun hh => by have := hh.1; omega
          subst ha'
          obtain ⟨e2, w', he2, hst, hR', _⟩ := write_run hR hw hv
          rw [he] at he2; cases he2
          refine ⟨goInt (Nat.min m dLen : Nat), w', ?_, hR', hnone _⟩
          simp only [Builtin.copy_, List.getElem?_toArray, List.getElem?_cons_zero, List.getElem?_cons_succ, Sem.run_bind, run_underlying hu, Result.andThen_ok, hl, run_sizeA hsz, hf, Sem.run_pure, hst]
        · cases hc

/-! ### make -/

def rep (zs : List AV) : Nat → List AV
  | 0 => []
  | n + 1 => zs ++ rep zs n
theorem rep_one (z : AV) (n : Nat) : rep [z] n = List.replicate n z := by
  induction n with
  | zero => rfl
  | succ n ih => simp [rep, ih, List.replicate_succ]
theorem rep_length (zs : List AV) (n : Nat) : (rep zs n).length = n * zs.length := by
  induction n with
  | zero => simp [rep]
  | succ n ih => simp [rep, ih, Nat.add_mul, Nat.add_comm]
theorem rep_V {φ : List Emb} {zs : List AV} {z : List Value} (h : Vs φ zs z) (n : Nat) : Vs φ (rep zs n) ((List.range (n * z.length)).map fun i => z.getD (i % z.length) undef) := by
  induction n with
  | zero => simp [rep, Vs]
  | succ n ih =>
    simp only [rep]
    have : (List.range ((n + 1) * z.length)).map (fun i => z.getD (i % z.length) undef) = z ++ (List.range (n * z.length)).map fun i => z.getD (i % z.length) undef := by
      rw [Nat.add_mul, Nat.one_mul, Nat.add_comm, List.range_add, List.map_append, List.map_map]
      congr 1
      · apply List.ext_getElem?
        intro i
        by_cases hi : i < z.length
        · simp [hi, Nat.mod_eq_of_lt hi, List.getD]
        · simp [hi]
      · apply List.map_congr_left
        intro i _
        simp
    rw [this]
    exact h.append ih

theorem made_toList (z : Array Value) (n : Nat) (hpos : 0 < z.size) : (madeCells z n).toList = (List.range n).map fun i => z.toList.getD (i % z.toList.length) undef := by
  simp only [madeCells, Array.toList_map, Array.toList_range, Array.length_toList]
  apply List.map_congr_left
  intro i _
  have : i % z.size < z.size := Nat.mod_lt _ hpos
  simp [getElem!_pos, this, List.getD]

def makeSliceA (P : Program) (h : Heap) (t : TypeId) (l c : AV) : Option (AV × Heap) :=
  match P.underlying t with
  | some (.slice e) =>
    match P.info? e with
    | none => none
    | some i =>
      match i.zero, l, c with
      | some z, .int _ l, .int _ c =>
        if 0 ≤ l ∧ l ≤ c ∧ (i.bytes : Int) * c ≤ 281474976710656 ∧ c ≤ 9223372036854775807 ∧ z.cells.size = i.size ∧ 0 < i.size then
          match ofValue z with
          | some za => (match cellsA za with
            | some zs => some (.slice (some ⟨h.next, 0⟩) l.toNat (.exact c.toNat), h.alloc (.cells (rep zs c.toNat) (.own (some e))))
            | none => none)
          | none => none
        else none
      | _, _, _ => none
  | _ => none

theorem makeSliceA_run {P : Program} {φ : List Emb} {h h' : Heap} {w0 w : World} (hR : R P φ h w0 w) {t : TypeId} {l c r : AV} (hm : makeSliceA P h t l c = some (r, h')) {l' c' : Value} (hl : V φ l l') (hc : V φ c c') :
    ∃ r' φ' w', (Instr.makeSlice t l' c').run P w = .ok r' w' ∧ Up φ φ' ∧ R P φ' h' w0 w' ∧ V φ' r r' := by
  unfold makeSliceA at hm
  split at hm
  rotate_left
  · cases hm
  rename_i e hu
  split at hm
  · cases hm
  rename_i i hi
  split at hm
  rotate_left
  · cases hm
  rename_i z kl l kc c hz
  split at hm
  rotate_left
  · cases hm
  rename_i hcond
  obtain ⟨h0, hlc, hb, h63, hzs, hpos⟩ := hcond
  split at hm
  rotate_left
  · cases hm
  rename_i za hza
  split at hm
  rotate_left
  · cases hm
  rename_i zs hzc
  simp only [Option.some.injEq, Prod.mk.injEq] at hm
  obtain ⟨rfl, rfl⟩ := hm
  simp only [V] at hl hc
  subst hl hc
  have hrun := run_make (P := P) w t e i z hu hi hz kl kc l c h0 hlc hb h63
  have hcells : Vs φ zs z.cells.toList := cellsA_V hzc (ofValue_V hza)
  have hzl : z.cells.toList.length = i.size := by simp [hzs]
  have hrep := rep_V hcells c.toNat
  have hml := made_toList z.cells (c.toNat * i.size) (by omega)
  rw [hzl] at hrep
  rw [Array.length_toList, hzs] at hml
  rw [← hml] at hrep
  refine ⟨_, _, _, hrun, Up.snoc _ _, alloc_cells hR (cs := rep zs c.toNat) (C := madeCells z.cells (c.toNat * i.size)) (k := .own (some e)) (fr := (0, 0)) (t := e) (OwnOk.mk e _ _ _) (fun hk => by cases hk) rfl rfl rfl rfl ?_ ?_, ?_⟩
  · rw [← hrep.length]; simp
  · rw [← hrep.length, List.take_length]; exact hrep
  · exact V_slice (up_new hR _) rfl (by omega) rfl (.inl (by simp))
end Go.Am
