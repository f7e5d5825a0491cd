/- BlockingFull: the row's laid variables give the first memory. -/
import Derived.Test.YteoekjfgihnhaaaGreatDoorHmGRF31
import Derived.Test.YteoekjfgihnhaaaGreatDoorHmGRF28
set_option linter.all false
set_option maxRecDepth 100000
noncomputable section
namespace Go.Am
open Go.RowKit Go.Proofs

theorem fHeap_noOwn : NoOwn fHeap := fun i o hi => by
  rcases fHeap_get hi with ⟨_, rfl⟩ | ⟨_, rfl⟩ <;> rfl
theorem u33 : Tryz.prog.underlying 33 = some (.interface #[("Error", 103)]) := by kernel_rfl
theorem u526 : Tryz.prog.underlying 526 = some (.pointer 528) := by kernel_rfl
theorem trod_err {W : World} {fuel : Nat} {cs : List Value} {d : DataW Unit} {p : List MemPlace} (h : DataW.trod (fun _ => ()) Tryz.prog W 0 (fun _ => true) false fuel 33 cs = some (.iface "*errors.errorString" (.ptr d), p)) :
    ∃ v a, cs = [.iface 526 v] ∧ v.cells.toList = [.pointer (some a)] := by
  cases fuel with
  | zero => simp [DataW.trod] at h
  | succ n =>
    unfold DataW.trod at h
    rw [u33] at h
    split at h <;> try (simp_all; done)
    rename_i u v hx hy
    split at h
    · rename_i hh; cases hh
    · rename_i name hname
      simp only [Option.map_eq_some_iff, Prod.mk.injEq, DataW.iface.injEq] at h
      obtain ⟨x, h1, ⟨rfl, h2⟩, _⟩ := h
      have hu := onlyErr' hname
      subst hu
      rcases DataW.trod_pointer u526 h1 with ⟨_, rfl⟩ | ⟨a, cs', y, n, _, hc, rfl, h3, _⟩
      · cases h2
      · exact ⟨_, a, rfl, hc⟩
    · cases h
theorem laid_at {P : Program} {W : World} : ∀ {l : List (String × DataW Unit)} {ps : List MemPlace}, DataW.LaidVars P W l ps → ∀ {n : String} {d : DataW Unit}, (n, d) ∈ l →
    ∃ g t cs fuel p, P.globalNamed n = some g ∧ (P.globals[g]?).map (·.type) = some t ∧ W.var? P n = some cs ∧ DataW.trod (fun _ => ()) P W 0 (fun _ => true) false fuel t cs.toList = some (d, p) ∧ ∀ x ∈ MemPlace.row ⟨g, 0, none⟩ cs.size, x ∈ ps
  | (m, c) :: r, ps, h, n, d, hm => by
    obtain ⟨g, t, cs, fuel, p, q, h1, h2, h3, h4, h5, rfl⟩ := h
    rcases List.mem_cons.1 hm with he | he
    · cases he
      exact ⟨g, t, cs, fuel, p, h1, h2, h3, h4, fun x hx => List.mem_append_left _ (List.mem_append_left _ hx)⟩
    · obtain ⟨g', t', cs', fuel', p', k1, k2, k3, k4, k5⟩ := laid_at h5 he
      exact ⟨g', t', cs', fuel', p', k1, k2, k3, k4, fun x hx => List.mem_append_right _ (k5 x hx)⟩
theorem err_cell {W : World} {l : List (String × DataW Unit)} {d : DataW Unit} (he : ("muster/api.ErrFull", .iface "*errors.errorString" (.ptr d)) ∈ l) (hL : laidMet Tryz.prog l W) :
    ∃ b o, W.cell? ⟨0, 0, none⟩ = some (.iface 526 (.pointer (some ⟨b, o, none⟩))) := by
  obtain ⟨ps, hv, _, hp⟩ := hL
  obtain ⟨g, t, cs, fuel, p, h1, h2, h3, h4, h5⟩ := laid_at hv he
  have e1 : Tryz.prog.globalNamed "muster/api.ErrFull" = some 0 := by kernel_rfl
  have hg : g = 0 := Option.some.inj (h1.symm.trans e1)
  subst hg
  have e2 : (Tryz.prog.globals[0]?).map (·.type) = some 33 := by kernel_rfl
  have ht : t = 33 := Option.some.inj (h2.symm.trans e2)
  subst ht
  obtain ⟨v, a, hcs, hv⟩ := trod_err h4
  have hc : W.cell? ⟨0, 0, none⟩ = some (.iface 526 v) := by
    rw [World.var?_cell e1 h3 0, ← Array.getElem?_toList, hcs]; rfl
  have hsz : cs.size = 1 := by rw [← Array.length_toList, hcs]; rfl
  have hm : MemPlace.cell 0 0 ∈ ps := h5 _ (by rw [hsz]; exact List.mem_map.2 ⟨0, by simp, rfl⟩)
  have hk := (hp 0 0 hm).2 526 v hc
  unfold Value.okWide at hk
  rw [u526] at hk
  simp only at hk
  unfold Cell.okWide at hk
  rw [u526] at hk
  cases v with
  | pointer x =>
    cases x with
    | none => simp [Value.cells] at hv
    | some b =>
      simp only [Cell.ok, u526] at hk
      obtain ⟨_, hs, _⟩ := hk
      obtain ⟨b, o, sp⟩ := b
      simp only at hs
      subst hs
      exact ⟨b, o, hc⟩
  | _ => simp [Cell.ok, u526] at hk
theorem full_R {W : World} {b o : Nat} (h : ∀ i, i < 4 → W.cell? ⟨1, i, none⟩ = some (.string ⟨(kindB i).toArray⟩)) (he : W.cell? ⟨0, 0, none⟩ = some (.iface 526 (.pointer (some ⟨b, o, none⟩)))) : ∃ φ, R Tryz.prog φ fHeap W W := by
  obtain ⟨φ, hk⟩ := kinds_R h
  obtain ⟨C, t, fr, hC⟩ : ∃ C t fr, W.heap[0]? = some (.cells C t fr) := by
    simp only [World.cell?] at he
    split at he
    · rename_i c t fr hc; exact ⟨c, t, fr, hc⟩
    · cases he
  have hc0 : C[0]? = some (.iface 526 (.pointer (some ⟨b, o, none⟩))) := by simpa [World.cell?, hC] using he
  have hs0 : 1 ≤ C.size := (Array.getElem?_eq_some_iff.1 hc0).1
  have hlen : φ.length = 10 := by rw [hk.len]; exact globs
  obtain ⟨e1, he1, hO1, _⟩ := hk.objs 1 kindsO (show (T16.put .leaf 1 (some kindsO)).get 1 = _ from T16.get_put _ _ _)
  refine ⟨(φ.set 0 ⟨0, 0, C.size⟩) ++ [⟨b, o, 0⟩], Below.refl _ _, ?_, ?_, ?_, ?_⟩
  · show _ = 11
    simp [hlen]
  · intro i ob hi
    rcases fHeap_get hi with ⟨rfl, rfl⟩ | ⟨rfl, rfl⟩
    · refine ⟨e1, ?_, kinds_O hO1, fun hh => by cases hh⟩
      rw [List.getElem?_append_left (by simp [hlen]), List.getElem?_set_ne (by omega)]
      exact he1
    · refine ⟨⟨0, 0, C.size⟩, ?_, ⟨C, t, fr, hC, by simp, hs0, OwnOk.free (by simp) (by simp), (fun hh => by cases hh), ?_⟩, fun hh => by cases hh⟩
      · rw [List.getElem?_append_left (by simp [hlen]), List.getElem?_set_self (by omega)]
      · have hl : (C.toList.drop 0).take 1 = [.iface 526 (.pointer (some ⟨b, o, none⟩))] := by
          apply List.ext_getElem?
          intro i
          rw [List.drop_zero, List.getElem?_take]
          split
          · have : i = 0 := by omega
            subst this
            rw [Array.getElem?_toList, hc0]; rfl
          · symm; apply List.getElem?_eq_none; simp; omega
        show Vs _ _ ((C.toList.drop 0).take 1)
        rw [hl]
        have h10 : ((φ.set 0 ⟨0, 0, C.size⟩) ++ [(⟨b, o, 0⟩ : Emb)])[10]? = some ⟨b, o, 0⟩ := by
          rw [List.getElem?_append_right (by simp [hlen])]
          simp [hlen]
        simp only [errV, Vs, V]
        exact ⟨_, _, rfl, ⟨_, rfl, _, h10, by simp⟩, rfl⟩
  · intro i j oi oj ei ej hij hi hj _ _ ho
    rcases fHeap_get hi with ⟨_, rfl⟩ | ⟨_, rfl⟩ <;> cases ho
  · intro g hg
    obtain ⟨n, hn⟩ := hk.glob g hg
    rw [globs] at hg
    by_cases h0 : g = 0
    · subst h0
      exact ⟨C.size, by rw [List.getElem?_append_left (by simp [hlen]), List.getElem?_set_self (by omega)]⟩
    · exact ⟨n, by rw [List.getElem?_append_left (by simp [hlen]; omega), List.getElem?_set_ne (by omega)]; exact hn⟩
theorem kinds_cells {W : World} {l : List (String × DataW Unit)} (hm : ("muster/schema.kinds", Go.Proofs.YteoekjfgihnhaaaGreatDoor.Rows.laid_muster_schema_kinds) ∈ l) (hL : laidMet Tryz.prog l W) : ∀ i, i < 4 → W.cell? ⟨1, i, none⟩ = some (.string ⟨(kindB i).toArray⟩) := by
  obtain ⟨g, t, cs, fuel, p, h1, h2, h3, h4⟩ := Lib.laidMet.reads hL hm
  have e1 : Tryz.prog.globalNamed "muster/schema.kinds" = some 1 := by kernel_rfl
  have hg : g = 1 := Option.some.inj (h1.symm.trans e1)
  subst hg
  obtain ⟨T, hT, hu⟩ : ∃ T, (Tryz.prog.globals[1]?).map (·.type) = some T ∧ Tryz.prog.underlying T = some (.array 4 9) := ⟨(((Tryz.prog.globals[1]?).map (·.type)).getD 0), by kernel_rfl, by kernel_rfl⟩
  have ht : t = T := Option.some.inj (h2.symm.trans hT)
  subst ht
  have hs9 : Tryz.prog.cellsOf 9 = 1 := by kernel_rfl
  have hu9 : Tryz.prog.underlying 9 = some .string := by kernel_rfl
  intro i hi
  rw [World.var?_cell e1 h3 i]
  obtain ⟨f, d, q, hd, hr⟩ := Lib.array_elem hu h4 i hi
  rw [hs9, Nat.mul_one] at hr
  obtain ⟨s, hc, hx, _⟩ := DataW.trod_string hu9 hr
  have hcs : cs[i]? = some (.string s) := by
    have := congrArg (·[0]?) hc
    simpa [List.getElem?_take, List.getElem?_drop] using this
  rw [hcs]
  have hdd : d = .lit (.string s.data.toList) := congrArg Prod.fst hx
  subst hdd
  have hk : s.data.toList = kindB i := by
    match i, hi with
    | 0, _ => exact (Lit.string.inj (DataW.lit.inj (Option.some.inj hd))).symm
    | 1, _ => exact (Lit.string.inj (DataW.lit.inj (Option.some.inj hd))).symm
    | 2, _ => exact (Lit.string.inj (DataW.lit.inj (Option.some.inj hd))).symm
    | 3, _ => exact (Lit.string.inj (DataW.lit.inj (Option.some.inj hd))).symm
  rw [← hk]
theorem laid_full {W : World} {l : List (String × DataW Unit)} {d : DataW Unit} (hm : ("muster/schema.kinds", Go.Proofs.YteoekjfgihnhaaaGreatDoor.Rows.laid_muster_schema_kinds) ∈ l) (he : ("muster/api.ErrFull", .iface "*errors.errorString" (.ptr d)) ∈ l) (hL : laidMet Tryz.prog l W) : ∃ φ, R Tryz.prog φ fHeap W W := by
  obtain ⟨b, o, hc⟩ := err_cell he hL
  exact full_R (kinds_cells hm hL) hc
end Go.Am
