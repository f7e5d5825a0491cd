/- Parts of the proof by the abstract machine: Mem, Slices, Append. -/
import Derived.Test.YteoekjfgihnhaaaGreatDoorHmGRF5
import Derived.Deep.AppendSrc
import Derived.Laws.MakeOwn
import Derived.Laws.Tables
set_option linter.all false
noncomputable section
namespace Go.Am
open Go.RowKit

/-! ### Rows of cells -/

def over {α : Type} (xs : List α) (o : Nat) (vs : List α) : List α := xs.take o ++ vs ++ xs.drop (o + vs.length)
theorem over_length {α : Type} (xs : List α) (o : Nat) (vs : List α) (h : o + vs.length ≤ xs.length) : (over xs o vs).length = xs.length := by
  simp [over]; omega
theorem over_nil {α : Type} (xs : List α) (o : Nat) : over xs o [] = xs := by simp [over]
theorem over_cons {α : Type} (xs : List α) (o : Nat) (v : α) (vs : List α) (h : o + 1 + vs.length ≤ xs.length) : over xs o (v :: vs) = over (xs.set o v) (o + 1) vs := by
  apply List.ext_getElem?
  intro i
  simp only [over, List.append_assoc, List.getElem?_append, List.getElem?_take, List.getElem?_drop, List.getElem?_set, List.length_take, List.length_set, List.length_cons, List.getElem?_cons]
  repeat' split
  all_goals first
    | rfl
    | omega
    | (congr 1; omega)
    | (symm; apply List.getElem?_eq_none; omega)
    | (apply List.getElem?_eq_none; omega)
theorem Vs.over {φ : List Emb} {as bs : List AV} {us vs : List Value} (h : Vs φ as us) (h' : Vs φ bs vs) (o : Nat) : Vs φ (over as o bs) (over us o vs) := by
  unfold Am.over
  rw [h'.length]
  exact ((h.take o).append h').append (h.drop _)

theorem setCells_block (g : Nat) (t : TypeId) (fr : Nat × Nat) : ∀ (vs : List Value) (o : Nat) (w : World) (C : Array Value), w.heap[g]? = some (.cells C t fr) → o + vs.length ≤ C.size →
    (w.setCells g o vs).heap[g]? = some (.cells (over C.toList o vs).toArray t fr)
  | [], o, w, C, hg, _ => by simp [World.setCells, over_nil, hg]
  | v :: vs, o, w, C, hg, hl => by
    simp only [List.length_cons] at hl
    have h1 : (w.setCell ⟨g, o, none⟩ v).heap[g]? = some (.cells (C.setIfInBounds o v) t fr) := by
      have hlt : g < w.heap.size := (Array.getElem?_eq_some_iff.1 hg).1
      have hv : w.heap[g] = .cells C t fr := (Array.getElem?_eq_some_iff.1 hg).2
      simp [World.setCell, Array.getElem?_modify, Array.getElem?_eq_getElem hlt, hv]
    have ih := setCells_block g t fr vs (o + 1) (w.setCell ⟨g, o, none⟩ v) (C.setIfInBounds o v) h1 (by simp; omega)
    simp only [World.setCells]
    rw [ih, over_cons _ _ _ _ (by simpa [Nat.add_assoc, Nat.add_comm 1] using hl)]
    simp
theorem setCells_rest (g : Nat) : ∀ (vs : List Value) (o : Nat) (w : World), (∀ k, k ≠ g → (w.setCells g o vs).heap[k]? = w.heap[k]?) ∧ (w.setCells g o vs).heap.size = w.heap.size ∧ (w.setCells g o vs).os = w.os ∧ (w.setCells g o vs).tape = w.tape ∧ (w.setCells g o vs).output = w.output
  | [], _, _ => ⟨fun _ _ => rfl, rfl, rfl, rfl, rfl⟩
  | v :: vs, o, w => by
    obtain ⟨h1, h2, h3, h4, h5⟩ := setCells_rest g vs (o + 1) (w.setCell ⟨g, o, none⟩ v)
    simp only [World.setCells]
    exact ⟨fun k hk => (h1 k hk).trans (Below.heap_setCell _ _ _ _ hk), h2.trans (by simp [World.setCell]), h3, h4, h5⟩

/-! ### Reading -/

def readA (h : Heap) (l : Loc) (n : Nat) : Option (List AV) :=
  match h.get l.id with
  | some (.cells cs _) => bif Nat.ble (l.off + n) cs.length then some ((cs.drop l.off).take n) else none
  | _ => none

theorem ble_iff (a b : Nat) : Nat.ble a b = true ↔ a ≤ b := ⟨Nat.le_of_ble_eq_true, Nat.ble_eq_true_of_le⟩

/-- What is read is there in the world. -/
theorem read_cells {P : Program} {φ : List Emb} {h : Heap} {w0 w : World} (hR : R P φ h w0 w) {l : Loc} {n : Nat} {xs : List AV} (hr : readA h l n = some xs) :
    ∃ e vs, φ[l.id]? = some e ∧ Vs φ xs vs ∧ vs.length = n ∧ ∀ j v, vs[j]? = some v → w.cell? ((⟨e.blk, e.off + l.off, none⟩ : Addr).add j) = some v := by
  unfold readA at hr
  split at hr
  · rename_i cs k hg
    obtain ⟨e, he, ⟨C, t, fr, h1, h2, h3, h4, h5, h6⟩, _⟩ := hR.objs _ _ hg
    cases hb : Nat.ble (l.off + n) cs.length with
    | false => simp [hb] at hr
    | true =>
      simp only [hb, cond_true, Option.some.injEq] at hr
      subst hr
      have hle : l.off + n ≤ cs.length := (ble_iff _ _).1 hb
      refine ⟨e, (((C.toList.drop e.off).take cs.length).drop l.off).take n, he, (h6.drop l.off).take n, ?_, ?_⟩
      · simp; omega
      · intro j v hv
        rw [List.getElem?_take] at hv
        split at hv
        · rename_i hj
          rw [List.getElem?_drop, List.getElem?_take, if_pos (by omega), List.getElem?_drop] at hv
          rw [Addr.add_lit]
          simp only [World.cell?, h1]
          simp only [Option.isSome_none, Bool.false_eq_true, if_false]
          rw [← hv, Array.getElem?_toList, Nat.add_assoc]
        · cases hv
    
  · cases hr

def loadA (P : Program) (h : Heap) (t : TypeId) (l : Loc) : Option AV :=
  match aggA P t with
  | some true => (match sizeA P t with
    | some n => (match readA h l n with | some xs => some (.agg xs) | none => none)
    | none => none)
  | some false => (match readA h l 1 with | some [v] => some v | _ => none)
  | none => none

theorem loadA_run {P : Program} {φ : List Emb} {h : Heap} {w0 w : World} (hR : R P φ h w0 w) {t : TypeId} {l : Loc} {v : AV} (hl : loadA P h t l = some v) {a : Value} (ha : V φ (.ptr (some l)) a) :
    ∃ v', (Instr.loadAt t a).run P w = .ok v' w ∧ V φ v v' := by
  simp only [V] at ha
  obtain ⟨e, he, rfl⟩ := ha
  unfold loadA at hl
  split at hl
  · rename_i hagg
    split at hl
    · rename_i n hn
      split at hl
      · rename_i xs hr
        cases hl
        obtain ⟨e', vs, he', hv, hlen, hc⟩ := read_cells hR hr
        rw [he] at he'; cases he'
        refine ⟨.agg vs.toArray, ?_, ?_⟩
        · have := run_loadCells_list (P := P) w ⟨e.blk, e.off + l.off, none⟩ vs hc
          rw [hlen] at this
          simp [Instr.loadAt, Instr.sureAddr, loadVar, run_aggA hagg, run_sizeA hn, this]
        · simp only [V]; exact ⟨_, rfl, by simpa using hv⟩
      · cases hl
    · cases hl
  · rename_i hagg
    split at hl
    · rename_i x hr
      cases hl
      obtain ⟨e', vs, he', hv, hlen, hc⟩ := read_cells hR hr
      rw [he] at he'; cases he'
      match vs, hlen with
      | [u], _ =>
        rw [Vs_cons] at hv
        have := hc 0 u (by simp)
        rw [Addr.add_lit, Nat.add_zero] at this
        exact ⟨u, by simp [Instr.loadAt, Instr.sureAddr, loadVar, run_aggA hagg, this], hv.1⟩
    · cases hl
  · cases hl

/-! ### Writing -/

def writeA (h : Heap) (l : Loc) (vs : List AV) : Option Heap :=
  match h.get l.id with
  | some (.cells cs k) =>
    match k with
    | .ro => none
    | _ => bif cellsOk vs && Nat.ble (l.off + vs.length) cs.length then some (h.set l.id (.cells (over cs l.off vs) k)) else none
  | _ => none

theorem write_aux {P : Program} {φ : List Emb} {h : Heap} {w0 w : World} (hR : R P φ h w0 w) {l : Loc} {as cs : List AV} {k : Kind} (hg : h.get l.id = some (.cells cs k)) (hk : k ≠ .ro) (hok : cellsOk as = true)
    (hle : l.off + as.length ≤ cs.length) {vs : List Value} (hv : Vs φ as vs) :
    ∃ e w', φ[l.id]? = some e ∧ (storeCells ⟨e.blk, e.off + l.off, none⟩ vs).run P w = .ok () w' ∧ R P φ (h.set l.id (.cells (over cs l.off as) k)) w0 w' ∧ w' = w.setCells e.blk (e.off + l.off) vs ∧
      (∀ j, j < vs.length → (w.cell? ⟨e.blk, e.off + l.off + j, none⟩).isSome = true) ∧ (∀ j, j < vs.length → w.frozen? ⟨e.blk, e.off + l.off + j, none⟩ = false) ∧ (∀ v ∈ vs, v.oneCell' = true) := by
  obtain ⟨e, he, ⟨C, t, fr, h1, h2, h3, h4, h5, h6⟩, hown⟩ := hR.objs _ _ hg
  have hth : Thawed fr C.size := h4.thawed hk h5
  have hlen : vs.length = as.length := hv.length
  have hc1 : ∀ j, j < vs.length → (w.cell? ⟨e.blk, e.off + l.off + j, none⟩).isSome = true := by
    intro j hj
    simp only [World.cell?, h1, Option.isSome_none, Bool.false_eq_true, if_false]
    rw [Array.getElem?_eq_getElem (by omega)]
    rfl
  have hc2 : ∀ j, j < vs.length → w.frozen? ⟨e.blk, e.off + l.off + j, none⟩ = false := by
    intro j hj
    have := hth (e.off + l.off + j) (by omega)
    simp only [World.frozen?, h1]
    rw [← Bool.not_eq_true, Bool.and_eq_true, decide_eq_true_eq, decide_eq_true_eq]
    exact this
  have hone := cellsOk_one hok hv
  have hst := run_storeCells_cells (P := P) e.blk (e.off + l.off) vs 0 w (by simpa using hc1) (by simpa using hc2) hone
  simp only [Nat.add_zero] at hst
  obtain ⟨r1, r2, r3, r4, r5⟩ := setCells_rest e.blk vs (e.off + l.off) w
  have hblk := setCells_block e.blk t fr vs (e.off + l.off) w C h1 (by omega)
  have hol : (over C.toList (e.off + l.off) vs).length = C.toList.length := over_length _ _ _ (by simp; omega)
  refine ⟨e, _, he, hst, ?_, rfl, hc1, hc2, hone⟩
  refine R.set hR hg ?_ he r1 r2 r3 r4 r5 ⟨_, t, fr, hblk, ?_, ?_, by rw [over_length _ _ _ hle]; simpa [hol] using h4, ?_, ?_⟩
  · cases k <;> first | rfl | exact absurd rfl hk
  · simp [hol, h2]
  · rw [over_length _ _ _ hle]; exact h3
  · intro hks
    simpa [hol] using hth
  · have e1 : ((over C.toList (e.off + l.off) vs).toArray.toList.drop e.off).take (over cs l.off as).length = over ((C.toList.drop e.off).take cs.length) l.off vs := by
      rw [over_length _ _ _ hle, List.toList_toArray]
      apply List.ext_getElem?
      intro i
      simp only [over, List.append_assoc, List.getElem?_take, List.getElem?_drop, List.getElem?_append, List.length_take, List.length_drop, Array.length_toList]
      repeat' split
      all_goals first
        | rfl
        | omega
        | (congr 1; omega)
        | (symm; apply List.getElem?_eq_none; simp; omega)
        | (apply List.getElem?_eq_none; simp; omega)
    rw [e1]
    exact h6.over hv l.off

theorem write_run {P : Program} {φ : List Emb} {h h' : Heap} {w0 w : World} (hR : R P φ h w0 w) {l : Loc} {as : List AV} (hw : writeA h l as = some h') {vs : List Value} (hv : Vs φ as vs) :
    ∃ e w', φ[l.id]? = some e ∧ (storeCells ⟨e.blk, e.off + l.off, none⟩ vs).run P w = .ok () w' ∧ R P φ h' w0 w' ∧ w' = w.setCells e.blk (e.off + l.off) vs ∧
      (∀ j, j < vs.length → (w.cell? ⟨e.blk, e.off + l.off + j, none⟩).isSome = true) ∧ (∀ j, j < vs.length → w.frozen? ⟨e.blk, e.off + l.off + j, none⟩ = false) ∧ (∀ v ∈ vs, v.oneCell' = true) := by
  unfold writeA at hw
  split at hw
  · rename_i cs k hg
    have key : k ≠ .ro ∧ cellsOk as = true ∧ l.off + as.length ≤ cs.length ∧ h' = h.set l.id (.cells (over cs l.off as) k) := by
      cases hb : cellsOk as && Nat.ble (l.off + as.length) cs.length with
      | false => cases k <;> simp [hb] at hw
      | true =>
        have hb' := hb
        rw [Bool.and_eq_true, ble_iff] at hb'
        cases k with
        | ro => simp at hw
        | own => simp only [hb, cond_true, Option.some.injEq] at hw; exact ⟨by simp, hb'.1, hb'.2, hw.symm⟩
        | var => simp only [hb, cond_true, Option.some.injEq] at hw; exact ⟨by simp, hb'.1, hb'.2, hw.symm⟩
        | str => simp only [hb, cond_true, Option.some.injEq] at hw; exact ⟨by simp, hb'.1, hb'.2, hw.symm⟩
    obtain ⟨hk, hok, hle, rfl⟩ := key
    exact write_aux hR hg hk hok hle hv
  · cases hw

def storeA (P : Program) (h : Heap) (t : TypeId) (l : Loc) (v : AV) : Option Heap :=
  match sizeA P t, cellsA v with
  | some n, some cs => bif Nat.beq cs.length n then writeA h l cs else none
  | _, _ => none

theorem storeA_run {P : Program} {φ : List Emb} {h h' : Heap} {w0 w : World} (hR : R P φ h w0 w) {t : TypeId} {l : Loc} {v : AV} (hs : storeA P h t l v = some h') {a v' : Value} (ha : V φ (.ptr (some l)) a) (hv : V φ v v') :
    ∃ w', (Instr.storeAt t a v').run P w = .ok () w' ∧ R P φ h' w0 w' := by
  simp only [V] at ha
  obtain ⟨e, he, rfl⟩ := ha
  unfold storeA at hs
  split at hs
  · rename_i n cs hn hc
    cases hb : Nat.beq cs.length n with
    | false => simp [hb] at hs
    | true =>
      simp only [hb, cond_true] at hs
      have hln := Nat.eq_of_beq_eq_true hb
      have hcells := cellsA_V hc hv
      obtain ⟨e', w', he', hst, hR', _⟩ := write_run hR hs hcells
      rw [he] at he'; cases he'
      refine ⟨w', ?_, hR'⟩
      have hl : v'.cells.size = n := by rw [← Array.length_toList, hcells.length, hln]
      simp [Instr.storeAt, Instr.sureAddr, storeVar, run_sizeA hn, hl, hst]
  · cases hs

/-! ### New memory -/

theorem alloc_cells {P : Program} {φ : List Emb} {h : Heap} {w0 w w' : World} (hR : R P φ h w0 w) {cs : List AV} {C : Array Value} {t : TypeId} {k : Kind} {fr : Nat × Nat} (hk : OwnOk k t fr 0 C.size cs.length) (hk' : k = .str → Thawed fr C.size)
    (hh : w'.heap = w.heap.push (.cells C t fr)) (hos : w'.os = w.os) (ht : w'.tape = w.tape) (hout : w'.output = w.output)
    (hle : cs.length ≤ C.size) (hv : Vs φ cs (C.toList.take cs.length)) :
    R P (φ ++ [⟨w.heap.size, 0, C.size⟩]) (h.alloc (.cells cs k)) w0 w' := by
  refine R.alloc hR (.cells cs k) _ C.size hh hos ht hout ⟨C, t, fr, ?_, by simp, hle, hk, hk', ?_⟩
  · rw [hh]; simp
  · simp only [List.drop_zero]
    exact Vs.up (Up.snoc _ _) _ _ hv

def newA (t : TypeId) (h : Heap) (cs : List AV) : AV × Heap := (.ptr (some ⟨h.next, 0⟩), h.alloc (.cells cs (.var t)))

theorem new_V {φ : List Emb} {h : Heap} {P : Program} {w0 w : World} (hR : R P φ h w0 w) (e : Emb) : (φ ++ [e])[h.next]? = some e := by
  rw [← hR.len]; simp

def boxA (t : TypeId) (h : Heap) (v : AV) : Option (AV × Heap) := match cellsA v with | some cs => some (newA t h cs) | none => none
theorem boxA_run {P : Program} {φ : List Emb} {h h' : Heap} {w0 w : World} (hR : R P φ h w0 w) {t : TypeId} {v r : AV} (hb : boxA t h v = some (r, h')) {v' : Value} (hv : V φ v v') :
    ∃ r' φ' w', (Instr.box t v').run P w = .ok r' w' ∧ Up φ φ' ∧ R P φ' h' w0 w' ∧ V φ' r r' := by
  unfold boxA at hb
  split at hb
  · rename_i cs hc
    simp only [newA, Option.some.injEq, Prod.mk.injEq] at hb
    obtain ⟨rfl, rfl⟩ := hb
    have hcells := cellsA_V hc hv
    refine ⟨.pointer (some ⟨w.heap.size, 0, none⟩), _, w.alloc (.cells v'.cells t), ?_, Up.snoc _ ⟨w.heap.size, 0, v'.cells.size⟩, alloc_cells hR (k := .var t) (fr := (0, 0)) (t := t) (by rw [← hcells.length, Array.length_toList]; exact OwnOk.whole t _) (fun h => by cases h) rfl rfl rfl rfl ?_ ?_, ?_⟩
    · simp [Instr.box, newVar, newRow]
    · rw [← hcells.length]
      exact Nat.le_refl _
    · rw [← hcells.length, List.take_length]
      exact hcells
    · simp only [V]
      exact ⟨_, new_V hR _, by simp⟩
  · cases hb

def allocA (P : Program) (h : Heap) (t : TypeId) : Option (AV × Heap) := match zeroA P t with | some z => boxA t h z | none => none
theorem allocA_run {P : Program} {φ : List Emb} {h h' : Heap} {w0 w : World} (hR : R P φ h w0 w) {t : TypeId} {r : AV} (hb : allocA P h t = some (r, h')) :
    ∃ r' φ' w', (Instr.alloc t true (.tuple #[])).run P w = .ok r' w' ∧ Up φ φ' ∧ R P φ' h' w0 w' ∧ V φ' r r' := by
  unfold allocA at hb
  split at hb
  · rename_i z hz
    obtain ⟨z', hz', hv⟩ := run_zeroA hz w
    obtain ⟨r', φ', w', h1, h2⟩ := boxA_run hR hb (hv φ)
    refine ⟨r', φ', w', ?_, h2⟩
    simp only [Instr.box] at h1
    simp only [Instr.alloc, Sem.run_bind, hz', Result.andThen_ok]
    exact h1
  · cases hb
end Go.Am

noncomputable section
namespace Go.Am
open Go.RowKit

def fieldAddrA (P : Program) (s : TypeId) (x : AV) (f : Nat) : Option AV :=
  match P.underlying s, x with
  | some (.struct fields), .ptr (some l) =>
    match fields[f]? with
    | some fl => (match sizeA P fl.type with | some (_ + 1) => some (.ptr (some ⟨l.id, l.off + fl.offset⟩)) | _ => none)
    | none => none
  | _, _ => none

theorem fieldAddrA_run {P : Program} {φ : List Emb} {w : World} {s : TypeId} {x r : AV} {f : Nat} (h : fieldAddrA P s x f = some r) {x' : Value} (hx : V φ x x') :
    ∃ r', (Instr.fieldAt s x' f).run P w = .ok r' w ∧ V φ r r' := by
  unfold fieldAddrA at h
  split at h
  · rename_i fields l hu
    split at h
    · rename_i fl hf
      split at h
      · rename_i n hn
        cases h
        simp only [V] at hx
        obtain ⟨e, he, rfl⟩ := hx
        have hne : n.succ ≠ 0 := by omega
        refine ⟨.pointer (some ⟨e.blk, e.off + l.off + fl.offset, none⟩), ?_, ?_⟩
        · simp only [Instr.fieldAt, Sem.run_bind, run_underlying hu, Result.andThen_ok, hf, Instr.sureAddr, Sem.run_pure, fieldPlace, run_sizeA hn]
          rw [if_neg hne]
          simp [Addr.add_lit]
        · simp only [V]; exact ⟨e, he, by simp [Nat.add_assoc]⟩
      · cases h
    · cases h
  · cases h

/-- Where element i of what is indexed lies. -/
def indexAddrA (P : Program) (t : TypeId) (x i : AV) : Option AV :=
  match i with
  | .int _ n =>
    match P.underlying t, x with
    | some (.array len e), .ptr (some l) =>
      if 0 ≤ n ∧ n < (len : Int) then (match sizeA P e with | some s => some (.ptr (some ⟨l.id, l.off + n.toNat * s⟩)) | none => none) else none
    | some (.slice e), .slice (some l) len _ =>
      if 0 ≤ n ∧ n < (len : Int) then (match sizeA P e with | some s => some (.ptr (some ⟨l.id, l.off + n.toNat * s⟩)) | none => none) else none
    | _, _ => none
  | _ => none

theorem indexAddrA_run {P : Program} {φ : List Emb} {w : World} {t : TypeId} {x i r : AV} (h : indexAddrA P t x i = some r) {x' i' : Value} (hx : V φ x x') (hi : V φ i i') :
    ∃ r', (Instr.indexAt t x' i').run P w = .ok r' w ∧ V φ r r' := by
  unfold indexAddrA at h
  split at h
  · rename_i k n
    simp only [V] at hi
    subst hi
    split at h
    · rename_i len e l hu
      split at h
      · rename_i hb
        split at h
        · rename_i s hs
          cases h
          simp only [V] at hx
          obtain ⟨em, he, rfl⟩ := hx
          refine ⟨.pointer (some ⟨em.blk, em.off + l.off + n.toNat * s, none⟩), ?_, ?_⟩
          · simp [Instr.indexAt, asIntOf, run_underlying hu, Instr.sureAddr, hb.1, hb.2, run_sizeA hs, Addr.add_lit]
          · simp only [V]; exact ⟨em, he, by simp [Nat.add_assoc]⟩
        · cases h
      · cases h
    · rename_i e l len c hu
      split at h
      · rename_i hb
        split at h
        · rename_i s hs
          cases h
          simp only [V] at hx
          obtain ⟨em, cap, a, he, rfl, hc, hcap, ha⟩ := hx
          have hlen : len ≠ 0 := by omega
          have ha' : a = ⟨em.blk, em.off + l.off, none⟩ := ha.resolve_right fun hh => hlen hh.1
          subst ha'
          refine ⟨.pointer (some ⟨em.blk, em.off + l.off + n.toNat * s, none⟩), ?_, ?_⟩
          · simp [Instr.indexAt, asIntOf, run_underlying hu, hb.1, hb.2, run_sizeA hs, Addr.add_lit]
          · simp only [V]; exact ⟨em, he, by simp [Nat.add_assoc]⟩
        · cases h
      · cases h
    · cases h
  · cases h

theorem V_slice {φ : List Emb} {l : Loc} {n : Nat} {c : Cap} {v : Value} {e : Emb} {cap : Nat} {a : Addr} (he : φ[l.id]? = some e) (hv : v = .slice (some a) n cap) (h1 : n ≤ cap) (h2 : CapOk e l.off cap c)
    (h3 : a = ⟨e.blk, e.off + l.off, none⟩ ∨ (n = 0 ∧ c = .dim)) : V φ (.slice (some l) n c) v := by
  simp only [V]
  exact ⟨e, cap, a, he, hv, h1, h2, h3⟩

/-! ### Slicing -/

/-- A bound: the number, or what stands for it; at most y. -/
def boundA (x : Option AV) (d y : Nat) : Option Nat :=
  match x with
  | none => some d
  | some (.int _ n) => if 0 ≤ n ∧ n ≤ (y : Int) then some n.toNat else none
  | _ => none

def locAdd (l : Loc) (n : Nat) : Loc := ⟨l.id, l.off + n⟩

/-- How far a slice may be cut surely. -/
def Cap.sure (c : Cap) (len : Nat) : Nat := match c with | .exact n => n | _ => len

def sliceOf (P : Program) (e : TypeId) (l : Option Loc) (len : Nat) (c : Cap) (lo hi mx : Option AV) : Option AV :=
  match sizeA P e with
  | none => none
  | some s =>
    match l with
    | none =>
      match mx with
      | some _ => none
      | none =>
        match boundA hi 0 0 with
        | none => none
        | some _ =>
          match boundA lo 0 0 with
          | none => none
          | some _ => some (.slice none 0 (.exact 0))
    | some l =>
      match mx with
      | some _ =>
        match boundA mx 0 (c.sure len), hi with
        | some m, some _ =>
          match boundA hi 0 m with
          | none => none
          | some h =>
            match boundA lo 0 h with
            | none => none
            | some lo =>
              match c, len with
              | .dim, 0 => some (.slice (some l) 0 .dim)
              | _, _ => some (.slice (some (bif Nat.beq m lo then l else locAdd l (lo * s))) (h - lo) (.exact (m - lo)))
        | _, _ => none
      | none =>
        match boundA hi len (c.sure len) with
        | none => none
        | some h =>
          match boundA lo 0 h with
          | none => none
          | some lo =>
            match c with
            | .exact n => some (.slice (some (bif Nat.beq n lo then l else locAdd l (lo * s))) (h - lo) (.exact (n - lo)))
            | .tip e' => bif Nat.beq e' s then (bif Nat.blt lo len then some (.slice (some (locAdd l (lo * s))) (h - lo) (.tip s)) else bif Nat.beq lo 0 then some (.slice (some l) 0 (.tip s)) else some (.slice (some l) 0 .dim)) else none
            | .dim => bif Nat.blt lo len then some (.slice (some (locAdd l (lo * s))) (h - lo) .dim) else some (.slice (some l) 0 .dim)

theorem boundA_run {P : Program} {φ : List Emb} {w : World} {x : AV} {y d n : Nat} (h : boundA (some x) d y = some n) {x' : Value} (hx : V φ x x') (code : BoundsCode) (y' : Nat) (hy : y ≤ y') :
    (Instr.sliceBound x' y' code).run P w = .ok n w := by
  unfold boundA at h
  split at h
  · rename_i hh; cases hh
  · rename_i k m hh
    cases hh
    split at h
    · rename_i hb
      cases h
      simp only [V] at hx
      subst hx
      have : m ≤ (y' : Int) := by omega
      simp [Instr.sliceBound, asIntOf, hb.1, this]
    · cases h
  · cases h
theorem boundA_le {x : Option AV} {y d n : Nat} (h : boundA x d y = some n) (hd : d ≤ y) : n ≤ y := by
  unfold boundA at h
  split at h
  · cases h; exact hd
  · split at h
    · cases h; omega
    · cases h
  · cases h

/-- An operand that may not be there. -/
def VO (φ : List Emb) : Option AV → Option Value → Prop
  | none, v => v = none
  | some a, v => ∃ x, v = some x ∧ V φ a x

theorem bounds_run {P : Program} {φ : List Emb} {w : World} {lo hi mx : Option AV} {lo' hi' mx' : Option Value} (h1 : VO φ lo lo') (h2 : VO φ hi hi') (h3 : VO φ mx mx') (isS : Bool) {len cap l h m bh bm d : Nat}
    (hm : boundA mx cap bm = some m) (hbm : bm ≤ cap) (hh : boundA hi d bh = some h) (hd : hi = none → d = len) (hbh : bh ≤ m) (hl : boundA lo 0 h = some l) (hmx : mx.isSome = true → hi.isSome = true) :
    (Instr.sliceBounds isS len cap lo' hi' mx').run P w = .ok (l, h, m) w := by
  have e3 : (mx' = none ∧ mx = none ∧ m = cap) ∨ ∃ x, mx' = some x ∧ mx.isSome = true ∧ ∀ code, (Instr.sliceBound x cap code).run P w = .ok m w := by
    cases mx with
    | none => simp only [VO] at h3; subst h3; simp [boundA] at hm; exact .inl ⟨rfl, rfl, hm.symm⟩
    | some a => simp only [VO] at h3; obtain ⟨x, rfl, hx⟩ := h3; exact .inr ⟨x, rfl, rfl, fun code => boundA_run hm hx code cap hbm⟩
  have e2 : (hi' = none ∧ hi = none ∧ h = len) ∨ ∃ x, hi' = some x ∧ hi.isSome = true ∧ ∀ code, (Instr.sliceBound x m code).run P w = .ok h w := by
    cases hi with
    | none => simp only [VO] at h2; subst h2; simp [boundA] at hh; exact .inl ⟨rfl, rfl, by rw [← hh]; exact hd rfl⟩
    | some a => simp only [VO] at h2; obtain ⟨x, rfl, hx⟩ := h2; exact .inr ⟨x, rfl, rfl, fun code => boundA_run hh hx code m hbh⟩
  have e1 : (lo' = none ∧ l = 0) ∨ ∃ x, lo' = some x ∧ ∀ code, (Instr.sliceBound x h code).run P w = .ok l w := by
    cases lo with
    | none => simp only [VO] at h1; subst h1; simp [boundA] at hl; exact .inl ⟨rfl, hl.symm⟩
    | some a => simp only [VO] at h1; obtain ⟨x, rfl, hx⟩ := h1; exact .inr ⟨x, rfl, fun code => boundA_run hl hx code h (Nat.le_refl _)⟩
  unfold Instr.sliceBounds
  rcases e3 with ⟨rfl, rfl, rfl⟩ | ⟨x3, rfl, hs3, r3⟩ <;> rcases e2 with ⟨rfl, rfl, rfl⟩ | ⟨x2, rfl, hs2, r2⟩ <;> rcases e1 with ⟨rfl, rfl⟩ | ⟨x1, rfl, r1⟩
  all_goals first
    | (simp only [Sem.run_bind, Sem.run_pure, Result.andThen_ok, *]; done)
    | (have := hmx hs3; simp at this; done)

theorem blt_iff (a b : Nat) : Nat.blt a b = true ↔ a < b := by
  unfold Nat.blt; rw [ble_iff]; omega

theorem sliceOf_run {P : Program} {φ : List Emb} {w : World} {t e : TypeId} (hu : P.underlying t = some (.slice e)) {l : Option Loc} {len : Nat} {c : Cap} {lo hi mx : Option AV} {r : AV} (h : sliceOf P e l len c lo hi mx = some r)
    {x' : Value} (hx : V φ (.slice l len c) x') {lo' hi' mx' : Option Value} (h1 : VO φ lo lo') (h2 : VO φ hi hi') (h3 : VO φ mx mx') :
    ∃ r', (Instr.sliceAt t x' lo' hi' mx').run P w = .ok r' w ∧ V φ r r' := by
  have start : ∀ (a : Option Addr) (len cap L H M s : Nat), sizeA P e = some s → (Instr.sliceBounds true len cap lo' hi' mx').run P w = .ok (L, H, M) w →
      (Instr.sliceAt t (.slice a len cap) lo' hi' mx').run P w = .ok (.slice (if M = L then a else a.map (·.add (L * s))) (H - L) (M - L)) w := by
    intro a len cap L H M s hs hb
    simp [Instr.sliceAt, Instr.slice, run_underlying hu, hb, run_sizeA hs]
  unfold sliceOf at h
  split at h
  · cases h
  rename_i s hs
  cases l with
  | none =>
    simp only [V] at hx
    obtain ⟨rfl, rfl, hcc⟩ := hx
    dsimp only at h
    split at h
    · cases h
    · split at h
      · cases h
      · rename_i n1 b2
        split at h
        · cases h
        · rename_i n2 b3
          cases h
          have z1 := boundA_le b2 (Nat.le_refl 0)
          have z2 := boundA_le b3 (Nat.le_refl 0)
          obtain rfl := Nat.le_zero.1 z1
          obtain rfl := Nat.le_zero.1 z2
          refine ⟨_, start none 0 0 0 0 0 s hs (bounds_run h1 h2 h3 true (m := 0) (bm := 0) (by simp [boundA]) (Nat.le_refl _) b2 (fun _ => rfl) (Nat.le_refl _) b3 (by simp)), ?_⟩
          simp [V]
  | some l =>
    simp only [V] at hx
    obtain ⟨em, cap, a, he, rfl, hlc, hcap, ha⟩ := hx
    have hsure : c.sure len ≤ cap := by
      cases c with
      | exact n => simp only [CapOk] at hcap; simp only [Cap.sure]; omega
      | tip n => simp only [Cap.sure]; omega
      | dim => simp only [Cap.sure]; omega
    have hsure2 : len ≤ c.sure len := by
      cases c with
      | exact n => simp only [CapOk] at hcap; simp only [Cap.sure]; omega
      | tip n => exact Nat.le_refl _
      | dim => exact Nat.le_refl _
    dsimp only at h
    split at h
    · rename_i mxv
      split at h
      · rename_i m hiv hm
        split at h
        · cases h
        · rename_i hh hh'
          split at h
          · cases h
          · rename_i ll hl
            have hm2 : boundA (some mxv) cap (c.sure len) = some m := by
              rw [← hm]; cases mxv <;> rfl
            have hb := bounds_run (P := P) (w := w) h1 h2 h3 true hm2 hsure hh' (by simp) (Nat.le_refl _) hl (by simp) (len := len)
            have hmc := boundA_le hm (Nat.zero_le _)
            have hhm := boundA_le hh' (Nat.zero_le _)
            have hlh := boundA_le hl (Nat.zero_le _)
            refine ⟨_, start (some a) len cap ll hh m s hs hb, ?_⟩
            split at h
            · cases h
              simp only [Cap.sure] at hmc
              have : m = 0 := by omega
              have : hh = 0 := by omega
              have : ll = 0 := by omega
              subst m hh ll
              exact V_slice (cap := 0) (a := a) he (by simp) (Nat.zero_le _) trivial (.inr ⟨rfl, rfl⟩)
            · rename_i hno
              cases h
              have ha' : a = ⟨em.blk, em.off + l.off, none⟩ := ha.resolve_right fun hx => hno hx.2 hx.1
              subst ha'
              by_cases hml : m = ll
              · subst hml
                simp only [beq1, decide_true, cond_true, if_true]
                exact V_slice he rfl (by omega) rfl (.inl rfl)
              · simp only [beq1, hml, decide_false, cond_false, if_false, Option.map_some, Addr.add_lit]
                exact V_slice he rfl (by omega) rfl (.inl (by simp [locAdd, Nat.add_assoc]))
      · cases h
    · split at h
      · cases h
      · rename_i hh hh'
        split at h
        · cases h
        · rename_i ll hl
          have hlh := boundA_le hl (Nat.zero_le _)
          have hhs := boundA_le hh' hsure2
          have hb := bounds_run (P := P) (w := w) h1 h2 h3 true (m := cap) (bm := 0) (mx := none) rfl (Nat.zero_le _) hh' (fun _ => rfl) hsure hl (by simp) (len := len)
          refine ⟨_, start (some a) len cap ll hh cap s hs hb, ?_⟩
          cases c with
          | exact n =>
            dsimp only at h
            cases h
            have ha' : a = ⟨em.blk, em.off + l.off, none⟩ := ha.resolve_right fun hx => by cases hx.2
            simp only [CapOk] at hcap
            simp only [Cap.sure] at hhs
            subst ha' hcap
            by_cases hml : cap = ll
            · subst hml
              simp only [beq1, decide_true, cond_true, if_true]
              exact V_slice he rfl (by omega) rfl (.inl rfl)
            · simp only [beq1, hml, decide_false, cond_false, if_false, Option.map_some, Addr.add_lit]
              exact V_slice he rfl (by omega) rfl (.inl (by simp [locAdd, Nat.add_assoc]))
          | tip e' =>
            simp only [Cap.sure] at hhs
            have ha' : a = ⟨em.blk, em.off + l.off, none⟩ := ha.resolve_right fun hx => by cases hx.2
            subst ha'
            simp only [CapOk] at hcap
            dsimp only at h
            cases hes : Nat.beq e' s with
            | false => simp [hes] at h
            | true =>
              have := Nat.eq_of_beq_eq_true hes
              subst this
              simp only [hes, cond_true] at h
              cases hlt : Nat.blt ll len with
              | true =>
                have hlt' := (blt_iff _ _).1 hlt
                simp only [hlt, cond_true, Option.some.injEq] at h
                subst h
                rw [if_neg (by omega)]
                simp only [Option.map_some, Addr.add_lit]
                refine V_slice he rfl (by omega) ⟨hcap.1, ?_⟩ (.inl (by simp [locAdd, Nat.add_assoc]))
                simp only [locAdd]
                rw [Nat.sub_mul]
                have := Nat.mul_le_mul_right e' (show ll ≤ cap by omega)
                omega
              | false =>
                have hlt' : ¬ ll < len := fun hh => by rw [(blt_iff _ _).2 hh] at hlt; cases hlt
                simp only [hlt, cond_false] at h
                cases h0 : Nat.beq ll 0 with
                | true =>
                  have := Nat.eq_of_beq_eq_true h0
                  subst this
                  simp only [h0, cond_true, Option.some.injEq] at h
                  subst h
                  have : hh = 0 := by omega
                  subst this
                  exact V_slice he (by simp [Addr.add_lit]) (by omega) hcap (.inl rfl)
                | false =>
                  simp only [h0, cond_false, Option.some.injEq] at h
                  subst h
                  have : hh - ll = 0 := by omega
                  rw [this]
                  by_cases hcl : cap = ll
                  · rw [if_pos hcl]; exact V_slice he rfl (by omega) trivial (.inr ⟨rfl, rfl⟩)
                  · rw [if_neg hcl]; exact V_slice he rfl (by omega) trivial (.inr ⟨rfl, rfl⟩)
          | dim =>
            simp only [Cap.sure] at hhs
            dsimp only at h
            cases hlt : Nat.blt ll len with
            | true =>
              have hlt' := (blt_iff _ _).1 hlt
              simp only [hlt, cond_true, Option.some.injEq] at h
              subst h
              rw [if_neg (by omega)]
              have ha' : a = ⟨em.blk, em.off + l.off, none⟩ := ha.resolve_right fun hx => by have := hx.1; omega
              subst ha'
              simp only [Option.map_some, Addr.add_lit]
              exact V_slice he rfl (by omega) trivial (.inl (by simp [locAdd, Nat.add_assoc]))
            | false =>
              have hlt' : ¬ ll < len := fun hh => by rw [(blt_iff _ _).2 hh] at hlt; cases hlt
              simp only [hlt, cond_false, Option.some.injEq] at h
              subst h
              have : hh - ll = 0 := by omega
              rw [this]
              by_cases hcl : cap = ll
              · rw [if_pos hcl]; exact V_slice he rfl (by omega) trivial (.inr ⟨rfl, rfl⟩)
              · rw [if_neg hcl]; exact V_slice he rfl (by omega) trivial (.inr ⟨rfl, rfl⟩)
end Go.Am

noncomputable section
namespace Go.Am
open Go.RowKit

def byteA (b : UInt8) : AV := .int .u8 b.toNat
theorem bytesA_V {φ : List Emb} : ∀ (s : List UInt8), Vs φ (s.map byteA) (s.map fun b => Value.int .u8 b.toNat)
  | [] => by simp [Vs]
  | b :: s => by simp only [List.map_cons, Vs_cons]; exact ⟨by simp [byteA, V], bytesA_V s⟩

/-- What an append or a copy takes: how many elements, which cells. -/
def srcA (P : Program) (h : Heap) (size : Nat) (tx : TypeId) (x : AV) : Option (Nat × List AV) :=
  match P.underlying tx, x with
  | some (.slice _), .slice none _ _ => some (0, [])
  | some (.slice _), .slice (some l) n _ =>
    (match n with
    | 0 => some (0, [])
    | n + 1 => (match readA h l ((n + 1) * size) with
      | some xs => bif cellsOk xs then some (n + 1, xs) else none
      | none => none))
  | some .string, .str s => bif Nat.beq size 1 then some (s.length, s.map byteA) else none
  | _, _ => none

theorem srcA_src {P : Program} {φ : List Emb} {h : Heap} {w0 w : World} (hR : R P φ h w0 w) {size : Nat} {tx : TypeId} {x : AV} {n : Nat} {xs : List AV} (hs : srcA P h size tx x = some (n, xs)) {x' : Value} (hx : V φ x x') :
    ∃ news, Vs φ xs news ∧ _root_.Go.Src P size tx x' n news w := by
  unfold srcA at hs
  split at hs
  · rename_i e hu
    cases hs
    simp only [V] at hx
    obtain ⟨rfl, rfl, _⟩ := hx
    exact ⟨[], by simp [Vs], _root_.Go.Src.ofNil w hu 0⟩
  · rename_i e l m c hu
    simp only [V] at hx
    obtain ⟨em, cap, a, he, rfl, hc, hcap, ha⟩ := hx
    split at hs
    · cases hs
      exact ⟨[], by simp [Vs], _root_.Go.Src.ofSlice w hu a 0 cap [] (by simp) (by simp) (by simp)⟩
    · rename_i m
      split at hs
      · rename_i ys hr
        cases hok : cellsOk ys with
        | false => simp [hok] at hs
        | true =>
          simp only [hok, cond_true, Option.some.injEq, Prod.mk.injEq] at hs
          obtain ⟨rfl, rfl⟩ := hs
          obtain ⟨e', vs, he', hv, hlen, hcell⟩ := read_cells hR hr
          rw [he] at he'; cases he'
          have ha' : a = ⟨em.blk, em.off + l.off, none⟩ := ha.resolve_right fun hh => by have := hh.1; omega
          subst ha'
          exact ⟨vs, hv, _root_.Go.Src.ofSlice w hu _ (m + 1) cap vs hlen hcell (cellsOk_one hok hv)⟩
      · cases hs
  · rename_i s hu
    simp only [V] at hx
    subst hx
    cases hb : Nat.beq size 1 with
    | false => simp [hb] at hs
    | true =>
      have := Nat.eq_of_beq_eq_true hb
      subst this
      simp only [hb, cond_true, Option.some.injEq, Prod.mk.injEq] at hs
      obtain ⟨rfl, rfl⟩ := hs
      have := _root_.Go.Src.ofString (P := P) w hu ⟨s.toArray⟩
      simp only [byteCells] at this
      exact ⟨_, bytesA_V s, by simpa [ByteArray.size] using this⟩
  · cases hs

def roomA (P : Program) (e : TypeId) (need : Nat) : Bool :=
  match P.info? e with
  | some i => Nat.ble (need * i.bytes) 140737488355328 && Nat.ble need 9223372036854775807 && (match i.zero with | some z => Nat.beq z.cells.size i.size | none => false) && Nat.ble 1 i.size
  | none => false

/-- The kind of a row that may have moved. -/
def growK (k : Kind) (e : TypeId) : Kind :=
  match k with
  | .own (some t) => bif Nat.beq t e then .own (some e) else .own none
  | .var _ => .own none
  | k => k
theorem OwnOk.none {t : TypeId} {fr : Nat × Nat} (h : fr = (0, 0)) (off size len : Nat) : OwnOk (.own none) t fr off size len := ⟨fun u hu => by cases hu; exact ⟨h, fun v hv => by cases hv⟩, fun u hu => by cases hu⟩
theorem growK_in {k : Kind} {t e : TypeId} {fr : Nat × Nat} {off size len : Nat} (h : OwnOk k t fr off size len) (off' size' len' : Nat) : OwnOk (growK k e) t fr off' size' len' := by
  cases k with
  | own u =>
    cases u with
    | none => exact OwnOk.none (h.1 _ rfl).1 _ _ _
    | some t' =>
      simp only [growK]
      cases hb : Nat.beq t' e with
      | true =>
        have := Nat.eq_of_beq_eq_true hb
        subst this
        have h2 := (h.1 _ rfl).2 _ rfl
        subst h2
        rw [(h.1 _ rfl).1]
        exact OwnOk.mk _ _ _ _
      | false => exact OwnOk.none (h.1 _ rfl).1 _ _ _
  | var u => exact OwnOk.none (h.2 _ rfl).1 _ _ _
  | str => exact OwnOk.free (fun _ => by simp [growK]) (fun _ => by simp [growK])
  | ro => exact OwnOk.free (fun _ => by simp [growK]) (fun _ => by simp [growK])
theorem growK_new (k : Kind) (e : TypeId) (off size len : Nat) : OwnOk (growK k e) e (0, 0) off size len := by
  cases k with
  | own u =>
    cases u with
    | none => exact OwnOk.none rfl _ _ _
    | some t' =>
      simp only [growK]
      cases hb : Nat.beq t' e with
      | true => exact OwnOk.mk _ _ _ _
      | false => exact OwnOk.none rfl _ _ _
  | var u => exact OwnOk.none rfl _ _ _
  | str => exact OwnOk.free (fun _ => by simp [growK]) (fun _ => by simp [growK])
  | ro => exact OwnOk.free (fun _ => by simp [growK]) (fun _ => by simp [growK])
def appendCore (P : Program) (h : Heap) (e : TypeId) (size n : Nat) (news : List AV) (s : AV) : Option (AV × Heap) :=
  match s with
  | .slice l len c =>
    match n with
    | 0 => some (.slice l len c, h)
    | _ + 1 =>
      bif roomA P e (len + n) then
        match l with
        | none => some (.slice (some ⟨h.next, 0⟩) (len + n) (.tip size), h.alloc (.cells news (.own (some e))))
        | some l =>
          match c with
          | .exact cap =>
            bif Nat.ble (len + n) cap then
              (match writeA h (locAdd l (len * size)) news with | some h' => some (.slice (some l) (len + n) (.exact cap), h') | none => none)
            else
              (match readA h l (len * size) with | some olds => some (.slice (some ⟨h.next, 0⟩) (len + n) (.tip size), h.alloc (.cells (olds ++ news) (.own (some e)))) | none => none)
          | .tip e' =>
            bif Nat.beq e' size then
              match h.get l.id with
              | some (.cells cs k) =>
                bif Nat.ble (l.off + (len + n) * size) cs.length then
                  (match writeA h (locAdd l (len * size)) news with | some h' => some (.slice (some l) (len + n) (.tip size), h') | none => none)
                else bif Nat.beq (l.off + len * size) cs.length && cellsOk news then
                  (match k with
                  | .ro => none
                  | _ => some (.slice (some ⟨h.next, 0⟩) (len + n) (.tip size), (h.del l.id).alloc (.cells (cs.drop l.off ++ news) (growK k e))))
                else none
              | _ => none
            else none
          | .dim => none
      else none
  | _ => none
def appendA (P : Program) (h : Heap) (ts tx : TypeId) (s x : AV) : Option (AV × Heap) :=
  match P.underlying ts with
  | some (.slice e) =>
    match sizeA P e with
    | none => none
    | some size =>
      match srcA P h size tx x with
      | none => none
      | some (n, news) => appendCore P h e size n news s
  | _ => none

theorem up_new {φ : List Emb} {h : Heap} {P : Program} {w0 w : World} (hR : R P φ h w0 w) (e : Emb) : (φ ++ [e])[h.next]? = some e := by
  rw [← hR.len]; simp

theorem zeroCells_size (z : Array Value) (n : Nat) : (Builtin.zeroCells z n).size = n * z.size := by simp [Builtin.zeroCells]

/-- What an append's second argument brings, whatever it is. -/
structure App (P : Program) (ts tx ty e : TypeId) (i : TypeInfo) (x' : Value) (n : Nat) (nv : List Value) (w : World) : Prop where
  newsLen : nv.length = n * i.size
  nothing : n = 0 → ∀ base len cap, len ≤ cap → (Builtin.append_ #[ts, tx] ty #[.slice base len cap, x']).run P w = .ok (.slice base len cap) w
  grow : ∀ z, i.zero = some z → ∀ base sLen sCap olds, (Builtin.firstCells i.size sLen (.slice base sLen sCap)).run P w.drew = .ok (List.toArray olds) w.drew → 0 < n → sCap < sLen + n → ((sLen + n : Nat) : Int) ≤ 9223372036854775807 → Builtin.nextslicecap (sLen + n) sCap * i.bytes ≤ 281474976710656 → (sLen + n) * i.bytes ≤ 140737488355328 →
    (Builtin.append_ #[ts, tx] ty #[.slice base sLen sCap, x']).run P w = .ok (.slice (some ⟨w.heap.size, 0, none⟩) (sLen + n) (grownCap w (sLen + n) sCap e))
      (w.drew.alloc (.cells ((olds ++ nv).toArray ++ Builtin.zeroCells z.cells (grownCap w (sLen + n) sCap e - (sLen + n))) e))
  room : ∀ b off sLen sCap, 0 < n → sLen + n ≤ sCap → (∀ j, j < nv.length → (w.cell? ⟨b, off + sLen * i.size + j, none⟩).isSome = true) → (∀ j, j < nv.length → w.frozen? ⟨b, off + sLen * i.size + j, none⟩ = false) →
    (Builtin.append_ #[ts, tx] ty #[.slice (some ⟨b, off, none⟩) sLen sCap, x']).run P w = .ok (.slice (some ⟨b, off, none⟩) (sLen + n) sCap) (w.setCells b (off + sLen * i.size) nv)
theorem App.ofSrc {P : Program} {ts tx ty e : TypeId} {i : TypeInfo} (hu : P.underlying ts = some (.slice e)) (hi : P.info? e = some i) {x' : Value} {n : Nat} {nv : List Value} {w : World} (hS : _root_.Go.Src P i.size tx x' n nv w) : App P ts tx ty e i x' n nv w where
  newsLen := hS.newsLen
  nothing := fun hn base len cap hle => by
    subst hn
    have hnv : nv = [] := List.eq_nil_of_length_eq_zero (by have := hS.newsLen; simpa using this)
    subst hnv
    cases base with
    | none => rcases hS.kind with ⟨e', hk⟩ | hk <;> simp [Builtin.append_, run_underlying hu, run_underlying hk, sizeOf, typeInfo, hi, hS.len, hS.cells, hle]
    | some a => rcases hS.kind with ⟨e', hk⟩ | hk <;> simp [Builtin.append_, run_underlying hu, run_underlying hk, sizeOf, typeInfo, hi, hS.len, hS.cells, hle, storeCells]
  grow := fun z hz base sLen sCap olds hold _ hg h63 hfit _ => run_append_grow_src (P := P) w ts tx ty e i z hu hi hz base sLen sCap olds hold x' n nv hS hg h63 hfit
  room := fun b off sLen sCap _ hroom hc hf => run_append_room_src (P := P) w ts tx ty e i hu hi b off sLen sCap x' n nv hS hroom hc hf

theorem appendCore_run {P : Program} {φ : List Emb} {h h' : Heap} {w0 w : World} (hR : R P φ h w0 w) {ts tx ty e : TypeId} {i : TypeInfo} (hi : P.info? e = some i) {n : Nat} {news : List AV} {s r : AV} (ha : appendCore P h e i.size n news s = some (r, h')) {s' x' : Value} (hs : V φ s s') {nv : List Value} (hnv : Vs φ news nv) (hS : App P ts tx ty e i x' n nv w) :
    ∃ r' φ' w', (Builtin.append_ #[ts, tx] ty #[s', x']).run P w = .ok r' w' ∧ Up φ φ' ∧ R P φ' h' w0 w' ∧ V φ' r r' := by
  unfold appendCore at ha
  split at ha
  rotate_left
  · cases ha
  rename_i l len c
  split at ha
  · -- nothing is appended
    cases ha
    have hn0 : nv = [] := List.eq_nil_of_length_eq_zero (by have := hS.newsLen; simpa using this)
    subst hn0
    refine ⟨s', φ, w, ?_, Up.refl _, hR, hs⟩
    cases l with
    | none =>
      simp only [V] at hs
      obtain ⟨rfl, rfl, _⟩ := hs
      exact hS.nothing rfl none 0 0 (Nat.le_refl _)
    | some l =>
      simp only [V] at hs
      obtain ⟨em, cap, a, he, rfl, hc, hcap, ha⟩ := hs
      exact hS.nothing rfl (some a) len cap hc
  rename_i n
  cases hroom : roomA P e (len + (n + 1)) with
  | false => simp [hroom] at ha
  | true =>
  simp only [hroom, cond_true] at ha
  simp only [roomA, hi, Bool.and_eq_true, ble_iff] at hroom
  obtain ⟨⟨⟨hb, h63⟩, hz⟩, hpos⟩ := hroom
  have hz' : ∃ z, i.zero = some z ∧ z.cells.size = i.size := by
    split at hz
    · rename_i z hzz; exact ⟨z, hzz, Nat.eq_of_beq_eq_true hz⟩
    · cases hz
  obtain ⟨z, hz, hzs⟩ := hz'
  have hnl : nv.length = (n + 1) * i.size := hS.newsLen
  have hfit : ∀ cap, cap < len + (n + 1) → Builtin.nextslicecap (len + (n + 1)) cap * i.bytes ≤ 281474976710656 := fun cap hcap => growslice_fits hcap hb
  -- the arm that makes a new row
  have grow : ∀ (base : Option Addr) (cap : Nat) (ol : List AV) (olds : List Value), Vs φ ol olds → olds.length = len * i.size → (Builtin.firstCells i.size len (.slice base len cap)).run P w.drew = .ok olds.toArray w.drew → cap < len + (n + 1) →
      ∃ r' w', (Builtin.append_ #[ts, tx] ty #[.slice base len cap, x']).run P w = .ok r' w' ∧
        w'.heap = w.heap.push (.cells ((olds ++ nv).toArray ++ Builtin.zeroCells z.cells (grownCap w (len + (n + 1)) cap e - (len + (n + 1)))) e (0, 0)) ∧ w'.os = w.os ∧ w'.tape = w.tape ∧ w'.output = w.output ∧
        r' = .slice (some ⟨w.heap.size, 0, none⟩) (len + (n + 1)) (grownCap w (len + (n + 1)) cap e) ∧
        ((olds ++ nv).toArray ++ Builtin.zeroCells z.cells (grownCap w (len + (n + 1)) cap e - (len + (n + 1)))).size = grownCap w (len + (n + 1)) cap e * i.size ∧ len + (n + 1) ≤ grownCap w (len + (n + 1)) cap e := by
    intro base cap ol olds hol hollen hfirst hcap
    have hr := hS.grow z hz base len cap olds hfirst (Nat.succ_pos _) hcap (by omega) (hfit cap hcap) hb
    refine ⟨_, _, hr, rfl, rfl, rfl, rfl, rfl, ?_, grownCap_ge _ _ _ _⟩
    have hge := grownCap_ge w (len + (n + 1)) cap e
    simp only [Array.size_append, List.size_toArray, List.length_append, zeroCells_size, hzs, hollen, hnl, ← Nat.add_mul]
    congr 1
    omega
  split at ha
  · -- onto nil
    simp only [V] at hs
    obtain ⟨rfl, rfl, _⟩ := hs
    cases ha
    obtain ⟨r', w', hrun, hh, ho, ht, hout, rfl, hsize, hge⟩ := grow none 0 [] [] (by simp [Vs]) (by simp) (run_firstCells_none w.drew i.size 0 0 0) (by omega)
    refine ⟨_, _, w', hrun, Up.snoc _ _, alloc_cells hR (k := .own (some e)) (OwnOk.mk e _ _ _) (fun hk => by cases hk) hh ho ht hout ?_ ?_, ?_⟩
    · rw [← hnv.length]; simp
    · rw [← hnv.length]; simpa using hnv
    · refine V_slice (up_new hR _) rfl hge ⟨hpos, ?_⟩ (.inl (by simp))
      rw [Nat.zero_add]
      exact hsize.symm
  · rename_i l
    have hs0 := hs
    simp only [V] at hs
    obtain ⟨em, cap, a, he, rfl, hc, hcap, haddr⟩ := hs
    split at ha
    · -- the capacity is known
      rename_i k
      simp only [CapOk] at hcap
      subst hcap
      have ha' : a = ⟨em.blk, em.off + l.off, none⟩ := haddr.resolve_right fun hx => by cases hx.2
      subst ha'
      cases hble : Nat.ble (len + (n + 1)) cap with
      | true =>
        simp only [hble, cond_true] at ha
        split at ha
        · rename_i h2 hw
          cases ha
          obtain ⟨e2, w', he2, hst, hR', hw', hc1, hc2, hone⟩ := write_run hR hw hnv
          simp only [locAdd] at he2
          rw [he] at he2; cases he2
          have hr := hS.room em.blk (em.off + l.off) len cap (Nat.succ_pos _) ((ble_iff _ _).1 hble)
            (by simpa [locAdd, Nat.add_assoc] using hc1) (by simpa [locAdd, Nat.add_assoc] using hc2)
          refine ⟨_, φ, _, hr, Up.refl _, ?_, V_slice he rfl ((ble_iff _ _).1 hble) rfl (.inl rfl)⟩
          have : em.off + l.off + len * i.size = em.off + (locAdd l (len * i.size)).off := by simp [locAdd, Nat.add_assoc]
          rw [this, ← hw']
          exact hR'
        · cases ha
      | false =>
        have hlt : cap < len + (n + 1) := by
          rcases Nat.lt_or_ge cap (len + (n + 1)) with h | h
          · exact h
          · rw [(ble_iff _ _).2 h] at hble; cases hble
        simp only [hble, cond_false] at ha
        split at ha
        · rename_i olds hrd
          cases ha
          obtain ⟨e2, ov, he2, hov, hlen, hcell⟩ := read_cells hR hrd
          rw [he] at he2; cases he2
          obtain ⟨r', w', hrun, hh, ho, ht, hout, rfl, hsize, hge⟩ := grow (some ⟨em.blk, em.off + l.off, none⟩) cap olds ov hov hlen (run_firstCells_some w.drew i.size len _ len cap ov hlen (by simpa using hcell)) hlt
          have hboth := hov.append hnv
          refine ⟨_, _, w', hrun, Up.snoc _ _, alloc_cells hR (k := .own (some e)) (OwnOk.mk e _ _ _) (fun hk => by cases hk) hh ho ht hout ?_ ?_, ?_⟩
          · rw [← hboth.length]; simp
          · rw [← hboth.length]
            simp only [Array.toList_append]
            rw [List.take_left]
            exact hboth
          · refine V_slice (up_new hR _) rfl hge ⟨hpos, ?_⟩ (.inl (by simp))
            rw [Nat.zero_add]
            exact hsize.symm
        · cases ha
    · -- the block's end
      rename_i e'
      have ha' : a = ⟨em.blk, em.off + l.off, none⟩ := haddr.resolve_right fun hx => by cases hx.2
      subst ha'
      cases hee : Nat.beq e' i.size with
      | false => simp [hee] at ha
      | true =>
      have := Nat.eq_of_beq_eq_true hee
      subst this
      simp only [hee, cond_true] at ha
      simp only [CapOk] at hcap
      split at ha
      · rename_i cs k hg
        obtain ⟨e2, he2, ⟨C, t, fr, h1, h2, h3, h4, h5, h6⟩, hown⟩ := hR.objs _ _ hg
        rw [he] at he2; cases he2
        cases hin : Nat.ble (l.off + (len + (n + 1)) * i.size) cs.length with
        | true =>
          simp only [hin, cond_true] at ha
          split at ha
          · rename_i h2' hw
            cases ha
            obtain ⟨e2, w', he2, hst, hR', hw', hc1, hc2, hone⟩ := write_run hR hw hnv
            simp only [locAdd] at he2
            rw [he] at he2; cases he2
            have hcap2 : len + (n + 1) ≤ cap := by
              have := (ble_iff _ _).1 hin
              have h7 : (len + (n + 1)) * i.size ≤ cap * i.size := by omega
              exact Nat.le_of_mul_le_mul_right h7 (by omega)
            have hr := hS.room em.blk (em.off + l.off) len cap (Nat.succ_pos _) hcap2
              (by simpa [locAdd, Nat.add_assoc] using hc1) (by simpa [locAdd, Nat.add_assoc] using hc2)
            refine ⟨_, φ, _, hr, Up.refl _, ?_, V_slice he rfl hcap2 hcap (.inl rfl)⟩
            have : em.off + l.off + len * i.size = em.off + (locAdd l (len * i.size)).off := by simp [locAdd, Nat.add_assoc]
            rw [this, ← hw']
            exact hR'
          · cases ha
        | false =>
          simp only [hin, cond_false] at ha
          cases htip : Nat.beq (l.off + len * i.size) cs.length && cellsOk news with
          | false => simp [htip] at ha
          | true =>
          simp only [htip, cond_true] at ha
          rw [Bool.and_eq_true] at htip
          have hend := Nat.eq_of_beq_eq_true htip.1
          have hok := htip.2
          have hkro : k ≠ .ro := by intro hk; subst hk; simp at ha
          have ha2 : r = .slice (some ⟨h.next, 0⟩) (len + (n + 1)) (.tip i.size) ∧ h' = (h.del l.id).alloc (.cells (cs.drop l.off ++ news) (growK k e)) := by
            cases k with
            | ro => exact absurd rfl hkro
            | own u => simp only [Option.some.injEq, Prod.mk.injEq] at ha; exact ⟨ha.1.symm, ha.2.symm⟩
            | var u => simp only [Option.some.injEq, Prod.mk.injEq] at ha; exact ⟨ha.1.symm, ha.2.symm⟩
            | str => simp only [Option.some.injEq, Prod.mk.injEq] at ha; exact ⟨ha.1.symm, ha.2.symm⟩
          obtain ⟨rfl, rfl⟩ := ha2
          have hdl : (cs.drop l.off).length = len * i.size := by simp; omega
          have hrd : readA h l (len * i.size) = some (cs.drop l.off) := by
            unfold readA
            rw [hg]
            simp only
            rw [(ble_iff _ _).2 (by omega)]
            simp only [cond_true, Option.some.injEq]
            rw [← hdl, List.take_length]
          obtain ⟨e2, ov, he2, hov, hlen, hcell⟩ := read_cells hR hrd
          rw [he] at he2; cases he2
          have hboth := hov.append hnv
          have hRd := R.del hR l.id
          have hbase : w0.heap.size ≤ em.blk := hown (by cases k <;> first | rfl | exact absurd rfl hkro)
          have hth : Thawed fr C.size := h4.thawed hkro h5
          by_cases hcl : len + (n + 1) ≤ cap
          · -- in place
            have htot : l.off + (len + (n + 1)) * i.size ≤ em.tot := by
              have := Nat.mul_le_mul_right i.size hcl
              omega
            have hexp : (len + (n + 1)) * i.size = len * i.size + (n + 1) * i.size := Nat.add_mul _ _ _
            have hc1 : ∀ j, j < nv.length → (w.cell? ⟨em.blk, em.off + l.off + len * i.size + j, none⟩).isSome = true := by
              intro j hj
              simp only [World.cell?, h1, Option.isSome_none, Bool.false_eq_true, if_false]
              rw [Array.getElem?_eq_getElem (by omega)]
              rfl
            have hc2 : ∀ j, j < nv.length → w.frozen? ⟨em.blk, em.off + l.off + len * i.size + j, none⟩ = false := by
              intro j hj
              have := hth (em.off + l.off + len * i.size + j) (by omega)
              simp only [World.frozen?, h1]
              rw [← Bool.not_eq_true, Bool.and_eq_true, decide_eq_true_eq, decide_eq_true_eq]
              exact this
            have hr := hS.room em.blk (em.off + l.off) len cap (Nat.succ_pos _) hcl hc1 hc2
            obtain ⟨r1, r2, r3, r4, r5⟩ := setCells_rest em.blk nv (em.off + l.off + len * i.size) w
            have hblk := setCells_block em.blk t fr nv (em.off + l.off + len * i.size) w C h1 (by omega)
            have hol : (over C.toList (em.off + l.off + len * i.size) nv).length = C.toList.length := over_length _ _ _ (by simp; omega)
            refine ⟨_, φ ++ [⟨em.blk, em.off + l.off, em.tot - l.off⟩], _, hr, Up.snoc _ _, ?_, ?_⟩
            · refine R.allocAt hRd _ ⟨em.blk, em.off + l.off, em.tot - l.off⟩ ?_ hbase (fun k hk _ => r1 k hk) (by rw [r2]; exact Nat.le_refl _) r3 r4 r5 ⟨_, t, fr, hblk, ?_, ?_, growK_in h4 _ _ _, ?_, ?_⟩
              · intro j oj ej hj hej
                by_cases hjl : l.id = j
                · subst hjl; rw [Heap.get_del] at hj; cases hj
                · rw [Heap.get_del_ne _ hjl] at hj
                  exact Ne.symm (hR.sep l.id j _ oj em ej hjl hg hj he hej (by cases k <;> first | rfl | exact absurd rfl hkro))
              · simp [hol]; omega
              · simp only [List.length_append, hdl]
                have := hnv.length
                omega
              · intro hks; simpa [hol] using hth
              · refine Vs.up (Up.snoc _ _) _ _ ?_
                have e1 : ((over C.toList (em.off + l.off + len * i.size) nv).toArray.toList.drop (em.off + l.off)).take (cs.drop l.off ++ news).length = ov ++ nv := by
                  have hovl : ov = ((C.toList.drop em.off).take cs.length).drop l.off := by
                    apply List.ext_getElem?
                    intro j
                    by_cases hj : j < ov.length
                    · have := hcell j ov[j] (by simp)
                      rw [Addr.add_lit] at this
                      simp only [World.cell?, h1, Option.isSome_none, Bool.false_eq_true, if_false] at this
                      rw [List.getElem?_eq_getElem hj, ← this, List.getElem?_drop, List.getElem?_take, if_pos (by omega), List.getElem?_drop, Array.getElem?_toList]
                      congr 1
                      omega
                    · rw [List.getElem?_eq_none (by omega), List.getElem?_eq_none]
                      simp
                      omega
                  rw [hovl, List.toList_toArray, List.length_append, hdl, ← hnv.length]
                  apply List.ext_getElem?
                  intro j
                  simp only [over, List.append_assoc, List.getElem?_take, List.getElem?_drop, List.getElem?_append, List.length_take, List.length_drop, Array.length_toList]
                  repeat' split
                  all_goals first
                    | rfl
                    | omega
                    | (congr 1; omega)
                    | (symm; apply List.getElem?_eq_none; omega)
                    | (apply List.getElem?_eq_none; omega)
                    | (symm; apply List.getElem?_eq_none; simp; omega)
                    | (apply List.getElem?_eq_none; simp; omega)
                rw [e1]
                exact hboth
            · refine V_slice (e := ⟨em.blk, em.off + l.off, em.tot - l.off⟩) (up_new hRd _) rfl hcl ⟨hcap.1, ?_⟩ (.inl (by simp))
              simp only [Nat.zero_add]
              omega
          · -- a new row
            obtain ⟨r', w', hrun, hh, ho, ht, hout, rfl, hsize, hge⟩ := grow (some ⟨em.blk, em.off + l.off, none⟩) cap _ ov hov hlen (run_firstCells_some w.drew i.size len _ len cap ov hlen (by simpa using hcell)) (by omega)
            refine ⟨_, _, w', hrun, Up.snoc _ _, alloc_cells hRd (k := growK k e) (growK_new k e _ _ _) (fun _ => Thawed.zero _) hh ho ht hout ?_ ?_, ?_⟩
            · rw [← hboth.length]; simp
            · rw [← hboth.length]
              simp only [Array.toList_append]
              rw [List.take_left]
              exact hboth
            · refine V_slice (up_new hRd _) rfl hge ⟨hpos, ?_⟩ (.inl (by simp))
              rw [Nat.zero_add]
              exact hsize.symm
      · cases ha
    · cases ha

theorem appendA_run {P : Program} {φ : List Emb} {h h' : Heap} {w0 w : World} (hR : R P φ h w0 w) {ts tx ty : TypeId} {s x r : AV} (ha : appendA P h ts tx s x = some (r, h')) {s' x' : Value} (hs : V φ s s') (hx : V φ x x') :
    ∃ r' φ' w', (Builtin.append_ #[ts, tx] ty #[s', x']).run P w = .ok r' w' ∧ Up φ φ' ∧ R P φ' h' w0 w' ∧ V φ' r r' := by
  unfold appendA at ha
  split at ha
  rotate_left
  · cases ha
  rename_i e hu
  split at ha
  · cases ha
  rename_i size hsz
  have hinfo : ∃ i, P.info? e = some i ∧ i.size = size := by
    unfold sizeA at hsz
    split at hsz
    · rename_i i hi; cases hsz; exact ⟨i, hi, rfl⟩
    · cases hsz
  obtain ⟨i, hi, rfl⟩ := hinfo
  split at ha
  · cases ha
  rename_i n news hsrc
  obtain ⟨nv, hnv, hS⟩ := srcA_src hR hsrc hx
  exact appendCore_run hR hi ha hs hnv (App.ofSrc hu hi hS)
end Go.Am
