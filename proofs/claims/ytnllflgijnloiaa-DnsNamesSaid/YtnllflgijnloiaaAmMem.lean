/- The abstract machine reads and writes memory. -/
import Derived.Test.YtnllflgijnloiaaAmBinSound
import Derived.Deep.AppendSrc
import Derived.Laws.MakeOwn
import Derived.Laws.Tables
namespace Go.Am
open Go.RowKit

/-! ### Rows of cells -/

def over {α : Type} (xs : List α) (o : Nat) (vs : List α) : List α := xs.take o ++ vs ++ xs.drop (o + vs.length)
theorem over_length {α : Type} (xs : List α) (o : Nat) (vs : List α) (h : o + vs.length ≤ xs.length) : (over xs o vs).length = xs.length := by
  simp [over]; omega
theorem over_nil {α : Type} (xs : List α) (o : Nat) : over xs o [] = xs := by simp [over]
theorem over_cons {α : Type} (xs : List α) (o : Nat) (v : α) (vs : List α) (h : o + 1 + vs.length ≤ xs.length) : over xs o (v :: vs) = over (xs.set o v) (o + 1) vs := by
  apply List.ext_getElem?
  intro i
  simp only [over, List.append_assoc, List.getElem?_append, List.getElem?_take, List.getElem?_drop, List.getElem?_set, List.length_take, List.length_set, List.length_cons, List.getElem?_cons]
  repeat' split
  all_goals first
    | rfl
    | omega
    | (congr 1; omega)
    | (symm; apply List.getElem?_eq_none; omega)
    | (apply List.getElem?_eq_none; omega)
theorem Vs.over {φ : List Emb} {as bs : List AV} {us vs : List Value} (h : Vs φ as us) (h' : Vs φ bs vs) (o : Nat) : Vs φ (over as o bs) (over us o vs) := by
  unfold Am.over
  rw [h'.length]
  exact ((h.take o).append h').append (h.drop _)

theorem setCells_block (g : Nat) (t : TypeId) (fr : Nat × Nat) : ∀ (vs : List Value) (o : Nat) (w : World) (C : Array Value), w.heap[g]? = some (.cells C t fr) → o + vs.length ≤ C.size →
    (w.setCells g o vs).heap[g]? = some (.cells (over C.toList o vs).toArray t fr)
  | [], o, w, C, hg, _ => by simp [World.setCells, over_nil, hg]
  | v :: vs, o, w, C, hg, hl => by
    simp only [List.length_cons] at hl
    have h1 : (w.setCell ⟨g, o, none⟩ v).heap[g]? = some (.cells (C.setIfInBounds o v) t fr) := by
      have hlt : g < w.heap.size := (Array.getElem?_eq_some_iff.1 hg).1
      have hv : w.heap[g] = .cells C t fr := (Array.getElem?_eq_some_iff.1 hg).2
      simp [World.setCell, Array.getElem?_modify, Array.getElem?_eq_getElem hlt, hv]
    have ih := setCells_block g t fr vs (o + 1) (w.setCell ⟨g, o, none⟩ v) (C.setIfInBounds o v) h1 (by simp; omega)
    simp only [World.setCells]
    rw [ih, over_cons _ _ _ _ (by simpa [Nat.add_assoc, Nat.add_comm 1] using hl)]
    simp
theorem setCells_rest (g : Nat) : ∀ (vs : List Value) (o : Nat) (w : World), (∀ k, k ≠ g → (w.setCells g o vs).heap[k]? = w.heap[k]?) ∧ (w.setCells g o vs).heap.size = w.heap.size ∧ (w.setCells g o vs).os = w.os ∧ (w.setCells g o vs).tape = w.tape ∧ (w.setCells g o vs).output = w.output
  | [], _, _ => ⟨fun _ _ => rfl, rfl, rfl, rfl, rfl⟩
  | v :: vs, o, w => by
    obtain ⟨h1, h2, h3, h4, h5⟩ := setCells_rest g vs (o + 1) (w.setCell ⟨g, o, none⟩ v)
    simp only [World.setCells]
    exact ⟨fun k hk => (h1 k hk).trans (Below.heap_setCell _ _ _ _ hk), h2.trans (by simp [World.setCell]), h3, h4, h5⟩

/-! ### Reading -/

def readA (h : Heap) (l : Loc) (n : Nat) : Option (List AV) :=
  match h.get l.id with
  | some (.cells cs _) => bif Nat.ble (l.off + n) cs.length then some ((cs.drop l.off).take n) else none
  | _ => none

theorem ble_iff (a b : Nat) : Nat.ble a b = true ↔ a ≤ b := ⟨Nat.le_of_ble_eq_true, Nat.ble_eq_true_of_le⟩

/-- What is read is there in the world. -/
theorem read_cells {P : Program} {φ : List Emb} {h : Heap} {w0 w : World} (hR : R P φ h w0 w) {l : Loc} {n : Nat} {xs : List AV} (hr : readA h l n = some xs) :
    ∃ e vs, φ[l.id]? = some e ∧ Vs φ xs vs ∧ vs.length = n ∧ ∀ j v, vs[j]? = some v → w.cell? ((⟨e.blk, e.off + l.off, none⟩ : Addr).add j) = some v := by
  unfold readA at hr
  split at hr
  · rename_i cs k hg
    obtain ⟨e, he, ⟨C, t, fr, h1, h2, h3, h4, h5, h6⟩, _⟩ := hR.objs _ _ hg
    cases hb : Nat.ble (l.off + n) cs.length with
    | false => simp [hb] at hr
    | true =>
      simp only [hb, cond_true, Option.some.injEq] at hr
      subst hr
      have hle : l.off + n ≤ cs.length := (ble_iff _ _).1 hb
      refine ⟨e, (((C.toList.drop e.off).take cs.length).drop l.off).take n, he, (h6.drop l.off).take n, ?_, ?_⟩
      · simp; omega
      · intro j v hv
        rw [List.getElem?_take] at hv
        split at hv
        · rename_i hj
          rw [List.getElem?_drop, List.getElem?_take, if_pos (by omega), List.getElem?_drop] at hv
          rw [Addr.add_lit]
          simp only [World.cell?, h1]
          simp only [Option.isSome_none, Bool.false_eq_true, if_false]
          rw [← hv, Array.getElem?_toList, Nat.add_assoc]
        · cases hv
    
  · cases hr

def loadA (P : Program) (h : Heap) (t : TypeId) (l : Loc) : Option AV :=
  match aggA P t with
  | some true => (match sizeA P t with
    | some n => (match readA h l n with | some xs => some (.agg xs) | none => none)
    | none => none)
  | some false => (match readA h l 1 with | some [v] => some v | _ => none)
  | none => none

theorem loadA_run {P : Program} {φ : List Emb} {h : Heap} {w0 w : World} (hR : R P φ h w0 w) {t : TypeId} {l : Loc} {v : AV} (hl : loadA P h t l = some v) {a : Value} (ha : V φ (.ptr (some l)) a) :
    ∃ v', (Instr.loadAt t a).run P w = .ok v' w ∧ V φ v v' := by
  simp only [V] at ha
  obtain ⟨e, he, rfl⟩ := ha
  unfold loadA at hl
  split at hl
  · rename_i hagg
    split at hl
    · rename_i n hn
      split at hl
      · rename_i xs hr
        cases hl
        obtain ⟨e', vs, he', hv, hlen, hc⟩ := read_cells hR hr
        rw [he] at he'; cases he'
        refine ⟨.agg vs.toArray, ?_, ?_⟩
        · have := run_loadCells_list (P := P) w ⟨e.blk, e.off + l.off, none⟩ vs hc
          rw [hlen] at this
          simp [Instr.loadAt, Instr.sureAddr, loadVar, run_aggA hagg, run_sizeA hn, this]
        · simp only [V]; exact ⟨_, rfl, by simpa using hv⟩
      · cases hl
    · cases hl
  · rename_i hagg
    split at hl
    · rename_i x hr
      cases hl
      obtain ⟨e', vs, he', hv, hlen, hc⟩ := read_cells hR hr
      rw [he] at he'; cases he'
      match vs, hlen with
      | [u], _ =>
        rw [Vs_cons] at hv
        have := hc 0 u (by simp)
        rw [Addr.add_lit, Nat.add_zero] at this
        exact ⟨u, by simp [Instr.loadAt, Instr.sureAddr, loadVar, run_aggA hagg, this], hv.1⟩
    · cases hl
  · cases hl

/-! ### Writing -/

def writeA (h : Heap) (l : Loc) (vs : List AV) : Option Heap :=
  match h.get l.id with
  | some (.cells cs k) =>
    match k with
    | .ro => none
    | _ => bif cellsOk vs && Nat.ble (l.off + vs.length) cs.length then some (h.set l.id (.cells (over cs l.off vs) k)) else none
  | _ => none

theorem write_aux {P : Program} {φ : List Emb} {h : Heap} {w0 w : World} (hR : R P φ h w0 w) {l : Loc} {as cs : List AV} {k : Kind} (hg : h.get l.id = some (.cells cs k)) (hk : k ≠ .ro) (hok : cellsOk as = true)
    (hle : l.off + as.length ≤ cs.length) {vs : List Value} (hv : Vs φ as vs) :
    ∃ e w', φ[l.id]? = some e ∧ (storeCells ⟨e.blk, e.off + l.off, none⟩ vs).run P w = .ok () w' ∧ R P φ (h.set l.id (.cells (over cs l.off as) k)) w0 w' ∧ w' = w.setCells e.blk (e.off + l.off) vs ∧
      (∀ j, j < vs.length → (w.cell? ⟨e.blk, e.off + l.off + j, none⟩).isSome = true) ∧ (∀ j, j < vs.length → w.frozen? ⟨e.blk, e.off + l.off + j, none⟩ = false) ∧ (∀ v ∈ vs, v.oneCell' = true) := by
  obtain ⟨e, he, ⟨C, t, fr, h1, h2, h3, h4, h5, h6⟩, hown⟩ := hR.objs _ _ hg
  have hth : Thawed fr C.size := by
    cases k with
    | own => rw [h4 rfl]; exact Thawed.zero _
    | str => exact h5 rfl
    | ro => exact absurd rfl hk
  have hlen : vs.length = as.length := hv.length
  have hc1 : ∀ j, j < vs.length → (w.cell? ⟨e.blk, e.off + l.off + j, none⟩).isSome = true := by
    intro j hj
    simp only [World.cell?, h1, Option.isSome_none, Bool.false_eq_true, if_false]
    rw [Array.getElem?_eq_getElem (by omega)]
    rfl
  have hc2 : ∀ j, j < vs.length → w.frozen? ⟨e.blk, e.off + l.off + j, none⟩ = false := by
    intro j hj
    have := hth (e.off + l.off + j) (by omega)
    simp only [World.frozen?, h1]
    rw [← Bool.not_eq_true, Bool.and_eq_true, decide_eq_true_eq, decide_eq_true_eq]
    exact this
  have hone := cellsOk_one hok hv
  have hst := run_storeCells_cells (P := P) e.blk (e.off + l.off) vs 0 w (by simpa using hc1) (by simpa using hc2) hone
  simp only [Nat.add_zero] at hst
  obtain ⟨r1, r2, r3, r4, r5⟩ := setCells_rest e.blk vs (e.off + l.off) w
  have hblk := setCells_block e.blk t fr vs (e.off + l.off) w C h1 (by omega)
  have hol : (over C.toList (e.off + l.off) vs).length = C.toList.length := over_length _ _ _ (by simp; omega)
  refine ⟨e, _, he, hst, ?_, rfl, hc1, hc2, hone⟩
  refine R.set hR hg ?_ he r1 r2 r3 r4 r5 ⟨_, t, fr, hblk, ?_, ?_, h4, ?_, ?_⟩
  · cases k <;> first | rfl | exact absurd rfl hk
  · simp [hol, h2]
  · rw [over_length _ _ _ hle]; exact h3
  · intro hks
    simpa [hol] using hth
  · have e1 : ((over C.toList (e.off + l.off) vs).toArray.toList.drop e.off).take (over cs l.off as).length = over ((C.toList.drop e.off).take cs.length) l.off vs := by
      rw [over_length _ _ _ hle, List.toList_toArray]
      apply List.ext_getElem?
      intro i
      simp only [over, List.append_assoc, List.getElem?_take, List.getElem?_drop, List.getElem?_append, List.length_take, List.length_drop, Array.length_toList]
      repeat' split
      all_goals first
        | rfl
        | omega
        | (congr 1; omega)
        | (symm; apply List.getElem?_eq_none; simp; omega)
        | (apply List.getElem?_eq_none; simp; omega)
    rw [e1]
    exact h6.over hv l.off

theorem write_run {P : Program} {φ : List Emb} {h h' : Heap} {w0 w : World} (hR : R P φ h w0 w) {l : Loc} {as : List AV} (hw : writeA h l as = some h') {vs : List Value} (hv : Vs φ as vs) :
    ∃ e w', φ[l.id]? = some e ∧ (storeCells ⟨e.blk, e.off + l.off, none⟩ vs).run P w = .ok () w' ∧ R P φ h' w0 w' ∧ w' = w.setCells e.blk (e.off + l.off) vs ∧
      (∀ j, j < vs.length → (w.cell? ⟨e.blk, e.off + l.off + j, none⟩).isSome = true) ∧ (∀ j, j < vs.length → w.frozen? ⟨e.blk, e.off + l.off + j, none⟩ = false) ∧ (∀ v ∈ vs, v.oneCell' = true) := by
  unfold writeA at hw
  split at hw
  · rename_i cs k hg
    have key : k ≠ .ro ∧ cellsOk as = true ∧ l.off + as.length ≤ cs.length ∧ h' = h.set l.id (.cells (over cs l.off as) k) := by
      cases hb : cellsOk as && Nat.ble (l.off + as.length) cs.length with
      | false => cases k <;> simp [hb] at hw
      | true =>
        have hb' := hb
        rw [Bool.and_eq_true, ble_iff] at hb'
        cases k with
        | ro => simp at hw
        | own => simp only [hb, cond_true, Option.some.injEq] at hw; exact ⟨by simp, hb'.1, hb'.2, hw.symm⟩
        | str => simp only [hb, cond_true, Option.some.injEq] at hw; exact ⟨by simp, hb'.1, hb'.2, hw.symm⟩
    obtain ⟨hk, hok, hle, rfl⟩ := key
    exact write_aux hR hg hk hok hle hv
  · cases hw

def storeA (P : Program) (h : Heap) (t : TypeId) (l : Loc) (v : AV) : Option Heap :=
  match sizeA P t, cellsA v with
  | some n, some cs => bif Nat.beq cs.length n then writeA h l cs else none
  | _, _ => none

theorem storeA_run {P : Program} {φ : List Emb} {h h' : Heap} {w0 w : World} (hR : R P φ h w0 w) {t : TypeId} {l : Loc} {v : AV} (hs : storeA P h t l v = some h') {a v' : Value} (ha : V φ (.ptr (some l)) a) (hv : V φ v v') :
    ∃ w', (Instr.storeAt t a v').run P w = .ok () w' ∧ R P φ h' w0 w' := by
  simp only [V] at ha
  obtain ⟨e, he, rfl⟩ := ha
  unfold storeA at hs
  split at hs
  · rename_i n cs hn hc
    cases hb : Nat.beq cs.length n with
    | false => simp [hb] at hs
    | true =>
      simp only [hb, cond_true] at hs
      have hln := Nat.eq_of_beq_eq_true hb
      have hcells := cellsA_V hc hv
      obtain ⟨e', w', he', hst, hR', _⟩ := write_run hR hs hcells
      rw [he] at he'; cases he'
      refine ⟨w', ?_, hR'⟩
      have hl : v'.cells.size = n := by rw [← Array.length_toList, hcells.length, hln]
      simp [Instr.storeAt, Instr.sureAddr, storeVar, run_sizeA hn, hl, hst]
  · cases hs

/-! ### New memory -/

theorem alloc_cells {P : Program} {φ : List Emb} {h : Heap} {w0 w w' : World} (hR : R P φ h w0 w) {cs : List AV} {C : Array Value} {t : TypeId} {k : Kind} {fr : Nat × Nat} (hk : k = .own → fr = (0, 0)) (hk' : k = .str → Thawed fr C.size)
    (hh : w'.heap = w.heap.push (.cells C t fr)) (hos : w'.os = w.os) (ht : w'.tape = w.tape) (hout : w'.output = w.output)
    (hle : cs.length ≤ C.size) (hv : Vs φ cs (C.toList.take cs.length)) :
    R P (φ ++ [⟨w.heap.size, 0, C.size⟩]) (h.alloc (.cells cs k)) w0 w' := by
  refine R.alloc hR (.cells cs k) _ C.size hh hos ht hout ⟨C, t, fr, ?_, by simp, hle, hk, hk', ?_⟩
  · rw [hh]; simp
  · simp only [List.drop_zero]
    exact Vs.up (Up.snoc _ _) _ _ hv

def newA (h : Heap) (cs : List AV) : AV × Heap := (.ptr (some ⟨h.next, 0⟩), h.alloc (.cells cs .own))

theorem new_V {φ : List Emb} {h : Heap} {P : Program} {w0 w : World} (hR : R P φ h w0 w) (e : Emb) : (φ ++ [e])[h.next]? = some e := by
  rw [← hR.len]; simp

def boxA (h : Heap) (v : AV) : Option (AV × Heap) := match cellsA v with | some cs => some (newA h cs) | none => none
theorem boxA_run {P : Program} {φ : List Emb} {h h' : Heap} {w0 w : World} (hR : R P φ h w0 w) {t : TypeId} {v r : AV} (hb : boxA h v = some (r, h')) {v' : Value} (hv : V φ v v') :
    ∃ r' φ' w', (Instr.box t v').run P w = .ok r' w' ∧ Up φ φ' ∧ R P φ' h' w0 w' ∧ V φ' r r' := by
  unfold boxA at hb
  split at hb
  · rename_i cs hc
    simp only [newA, Option.some.injEq, Prod.mk.injEq] at hb
    obtain ⟨rfl, rfl⟩ := hb
    have hcells := cellsA_V hc hv
    refine ⟨.pointer (some ⟨w.heap.size, 0, none⟩), _, w.alloc (.cells v'.cells t), ?_, Up.snoc _ ⟨w.heap.size, 0, v'.cells.size⟩, alloc_cells hR (k := .own) (fr := (0, 0)) (t := t) (fun _ => rfl) (fun h => by cases h) rfl rfl rfl rfl ?_ ?_, ?_⟩
    · simp [Instr.box, newVar, newRow]
    · rw [← hcells.length]
      exact Nat.le_refl _
    · rw [← hcells.length, List.take_length]
      exact hcells
    · simp only [V]
      exact ⟨_, new_V hR _, by simp⟩
  · cases hb

def allocA (P : Program) (h : Heap) (t : TypeId) : Option (AV × Heap) := match zeroA P t with | some z => boxA h z | none => none
theorem allocA_run {P : Program} {φ : List Emb} {h h' : Heap} {w0 w : World} (hR : R P φ h w0 w) {t : TypeId} {r : AV} (hb : allocA P h t = some (r, h')) :
    ∃ r' φ' w', (Instr.alloc t true (.tuple #[])).run P w = .ok r' w' ∧ Up φ φ' ∧ R P φ' h' w0 w' ∧ V φ' r r' := by
  unfold allocA at hb
  split at hb
  · rename_i z hz
    obtain ⟨z', hz', hv⟩ := run_zeroA hz w
    obtain ⟨r', φ', w', h1, h2⟩ := boxA_run (t := t) hR hb (hv φ)
    refine ⟨r', φ', w', ?_, h2⟩
    simp only [Instr.box] at h1
    simp only [Instr.alloc, Sem.run_bind, hz', Result.andThen_ok]
    exact h1
  · cases hb
end Go.Am
