/- The seat: what schema.kinds holds, and what a row's list of laid variables says of it. -/
import Derived.Test.YteoekjfgihnhaaaGreatDoorHmGRB32
import Derived.Test.YteoekjfgihnhaaaGreatDoorHmGRB28
import Derived.Test.YteoekjfgihnhaaaGreatDoorRows
import Derived.Lib.LaidU8
import Derived.FnData
set_option linter.all false
noncomputable section
namespace Go.Am
open Go.RowKit Go.Proofs

def kindB (i : Nat) : List UInt8 := match i with | 0 => [] | 1 => [116, 101, 120, 116] | 2 => [110, 117, 109] | _ => [108, 105, 115, 116]
theorem kinds_R {W : World} (h : ∀ i, i < 4 → W.cell? ⟨1, i, none⟩ = some (.string ⟨(kindB i).toArray⟩)) : ∃ φ, R Tryz.prog φ hHeap W W := by
  have h0 := h 0 (by omega)
  obtain ⟨C, t, fr, hC⟩ : ∃ C t fr, W.heap[1]? = some (.cells C t fr) := by
    simp only [World.cell?] at h0
    split at h0
    · rename_i c t fr hc; exact ⟨c, t, fr, hc⟩
    · cases h0
  have hcell : ∀ i, i < 4 → C[i]? = some (.string ⟨(kindB i).toArray⟩) := by
    intro i hi
    have := h i hi
    simpa [World.cell?, hC] using this
  have h3 : 4 ≤ C.size := by
    have := hcell 3 (by omega)
    have := (Array.getElem?_eq_some_iff.1 this).1
    omega
  refine ⟨(List.range 10).map (fun g => if g = 1 then ⟨1, 0, C.size⟩ else ⟨g, 0, 0⟩), Below.refl _ _, ?_, ?_, ?_, ?_⟩
  · show _ = Tryz.prog.globals.size
    rw [globs]; rfl
  · intro i o hi
    obtain ⟨rfl, rfl⟩ := hHeap_get hi
    refine ⟨⟨1, 0, C.size⟩, rfl, ⟨C, t, fr, hC, by simp, h3, OwnOk.free (by simp) (by simp), (fun hh => by cases hh), ?_⟩, fun hh => by cases hh⟩
    have hl : C.toList.take 4 = [.string ⟨(kindB 0).toArray⟩, .string ⟨(kindB 1).toArray⟩, .string ⟨(kindB 2).toArray⟩, .string ⟨(kindB 3).toArray⟩] := by
      apply List.ext_getElem?
      intro i
      rw [List.getElem?_take]
      split
      · rename_i hi
        rw [Array.getElem?_toList, hcell i hi]
        match i, hi with
        | 0, _ => rfl
        | 1, _ => rfl
        | 2, _ => rfl
        | 3, _ => rfl
      · symm; apply List.getElem?_eq_none; simp; omega
    show Vs _ _ ((C.toList.drop 0).take 4)
    rw [List.drop_zero, hl]
    simp [Vs, V, kindB]
  · intro i j oi oj ei ej hij hi hj
    obtain ⟨rfl, _⟩ := hHeap_get hi
    obtain ⟨rfl, _⟩ := hHeap_get hj
    exact absurd rfl hij
  · intro g hg
    rw [globs] at hg
    match g, hg with
    | 0, _ => exact ⟨_, rfl⟩
    | 1, _ => exact ⟨_, rfl⟩
    | 2, _ => exact ⟨_, rfl⟩
    | 3, _ => exact ⟨_, rfl⟩
    | 4, _ => exact ⟨_, rfl⟩
    | 5, _ => exact ⟨_, rfl⟩
    | 6, _ => exact ⟨_, rfl⟩
    | 7, _ => exact ⟨_, rfl⟩
    | 8, _ => exact ⟨_, rfl⟩
    | 9, _ => exact ⟨_, rfl⟩
theorem hHeap_noOwn : NoOwn hHeap := fun i o hi => by
  obtain ⟨rfl, rfl⟩ := hHeap_get hi
  rfl
open Go.Proofs.YteoekjfgihnhaaaGreatDoor in
theorem laid_kinds {W : World} {l : List (String × DataW Unit)} (hm : ("muster/schema.kinds", Rows.laid_muster_schema_kinds) ∈ l) (hL : laidMet Tryz.prog l W) : ∃ φ, R Tryz.prog φ hHeap W W := by
  obtain ⟨g, t, cs, fuel, p, h1, h2, h3, h4⟩ := Lib.laidMet.reads hL hm
  have e1 : Tryz.prog.globalNamed "muster/schema.kinds" = some 1 := by kernel_rfl
  have hg : g = 1 := Option.some.inj (h1.symm.trans e1)
  subst hg
  obtain ⟨T, hT, hu⟩ : ∃ T, (Tryz.prog.globals[1]?).map (·.type) = some T ∧ Tryz.prog.underlying T = some (.array 4 9) := ⟨(((Tryz.prog.globals[1]?).map (·.type)).getD 0), by kernel_rfl, by kernel_rfl⟩
  have ht : t = T := Option.some.inj (h2.symm.trans hT)
  subst ht
  have hs9 : Tryz.prog.cellsOf 9 = 1 := by kernel_rfl
  have hu9 : Tryz.prog.underlying 9 = some .string := by kernel_rfl
  refine kinds_R fun i hi => ?_
  rw [World.var?_cell e1 h3 i]
  obtain ⟨f, d, q, hd, hr⟩ := Lib.array_elem hu h4 i hi
  rw [hs9, Nat.mul_one] at hr
  obtain ⟨s, hc, hx, _⟩ := DataW.trod_string hu9 hr
  have hcs : cs[i]? = some (.string s) := by
    have := congrArg (·[0]?) hc
    simpa [List.getElem?_take, List.getElem?_drop] using this
  rw [hcs]
  have hdd : d = .lit (.string s.data.toList) := congrArg Prod.fst hx
  subst hdd
  have hk : s.data.toList = kindB i := by
    match i, hi with
    | 0, _ => exact (Lit.string.inj (DataW.lit.inj (Option.some.inj hd))).symm
    | 1, _ => exact (Lit.string.inj (DataW.lit.inj (Option.some.inj hd))).symm
    | 2, _ => exact (Lit.string.inj (DataW.lit.inj (Option.some.inj hd))).symm
    | 3, _ => exact (Lit.string.inj (DataW.lit.inj (Option.some.inj hd))).symm
  rw [← hk]
end Go.Am
