/- Parts of the proof by the abstract machine: FMain, FChk, FRef. -/
import Derived.Test.YteoekjfgihnhaaaGreatDoorHmGRF28
import Derived.Test.YteoekjfgihnhaaaGreatDoorHmGRF27
import Derived.Test.YteoekjfgihnhaaaGreatDoorHmGRF15
set_option linter.all false
noncomputable section
namespace Go.Am
open Go.RowKit Go.Proofs

theorem fc1 : CallMOk Tryz.prog (piecesM [FSt.p1]) := piecesM_ok hCall_ok FSt.r1 fun p hp => by
  simp only [List.mem_cons, List.mem_nil_iff, or_false] at hp
  rcases hp with rfl
  exact FSt.pb1
def fCall : CallM := callM Tryz.prog (drawX Tryz.prog hPlan) (natCall hNat) (orM (piecesM [FSt.p1]) hOv) hDov 100000 200
theorem fCall_ok : CallMOk Tryz.prog fCall := callM_ok fns_ok mixed_ok (natM_ok nats_ok) (orM_ok fc1 hOv_ok) (hDov_ok fns_ok) _
end Go.Am

noncomputable section
namespace Go.Am
open Go.RowKit Go.Proofs

def quV (min : Int) : AV := .agg [.int .i64 1, .str [], .str [], .bool false, .int .i64 0, .int .u64 min, .int .u64 0]
def isErr (h : Heap) : Bool := match h.get 0 with | some o => eqObj o errO | none => false
/-- The engine has so many queries open, and may have so many. -/
def opens (l : Loc) (h : Heap) (open' most : Nat) : Bool := match h.get l.id with
  | some (.cells [_, _, .int .i64 m, .int .i64 o, _, _] (.var _)) => Nat.beq l.off 0 && !(Nat.beq l.id 0) && decide (o = open') && decide (m = most)
  | _ => false
def one (r : Option (List (AV × Heap))) : Option (AV × Heap) := match r with | some [x] => some x | _ => none
def asks : Nat → Nat → Loc → Heap → (Heap → Bool) → Bool
  | 0, _, _, h, k => k h
  | n + 1, i, l, h, k => match one (fCall 11 [.ptr (some l), quV 5] h) with
    | some (.tuple [.int .i64 j, .nilIface], h') => bif decide (j = (i : Int)) then asks n (i + 1) l h' k else false
    | _ => false
def tail (m : Nat) (l : Loc) (h : Heap) : Bool := match one (fCall 13 [.ptr (some l), .int .i64 1] h) with
  | some (.bool true, h1) => match one (fCall 14 [.ptr (some l), .int .i64 1] h1) with
    | some (.int .i64 x, h2) => bif decide (x = 2) then (match one (fCall 14 [.ptr (some l), .int .i64 1] h2) with
      | some (.int .i64 y, h3) => bif decide (y = 4) && opens l h3 (m - 1) m then (match one (fCall 11 [.ptr (some l), quV 0] h3) with
        | some (.tuple [.int .i64 j, .nilIface], h4) => decide (j = (m : Int) + 1) && opens l h4 m m && isErr h4
        | _ => false) else false
      | _ => false) else false
    | _ => false
  | _ => false
def chk (m : Nat) : Bool := match one (fCall 10 [.int .i64 m] fHeap) with
  | some (.tuple [_, .ptr (some l)], h) => asks m 1 l h fun h => opens l h m m && isErr h && tail m l h
  | _ => false
end Go.Am

set_option linter.unusedSimpArgs false
noncomputable section
namespace Go.Am
open Go.RowKit Go.Proofs

theorem ag3 : aggA Tryz.prog 3 = some false := by kernel_rfl
theorem ag33 : aggA Tryz.prog 33 = some false := by kernel_rfl
theorem fa81_2 {l : Loc} : fieldAddrA Tryz.prog 81 (.ptr (some l)) 2 = some (.ptr (some ⟨l.id, l.off + 2⟩)) := by kernel_rfl
theorem fa81_3 {l : Loc} : fieldAddrA Tryz.prog 81 (.ptr (some l)) 3 = some (.ptr (some ⟨l.id, l.off + 3⟩)) := by kernel_rfl
theorem blt11 : Nat.blt 11 Tryz.prog.funcs.size = true := by kernel_rfl
theorem blt12 : Nat.blt 12 Tryz.prog.funcs.size = true := by kernel_rfl

theorem ev_glob0 {e : List AV} : evalA Tryz.prog e (.global 0) = .ptr (some ⟨0, 0⟩) := by kernel_rfl
section
variable {ov : CallF}
theorem open_ok (hov : ∀ a h, ov 12 a h = none) {h : Heap} {i : Nat} {w c x y : AV} {m o : Int} {k : Kind} (hg : h.get i = some (.cells [w, c, .int .i64 m, .int .i64 o, x, y] k)) :
    callT ov Tryz.prog 12 [.ptr (some ⟨i, 0⟩)] h = some (.ret (.int .i64 o) h) := by
  have main : ∃ u g, callT ov Tryz.prog 12 [.ptr (some ⟨i, 0⟩)] h = some (.ret u g) ∧ u = .int .i64 o ∧ g = h := by
    refine callT_wp (fn := Tryz.f12) (hov _ _) (by kernel_rfl) rfl ?_
    have hl : (frameA Tryz.f12 [.ptr (some ⟨i, 0⟩)]).length = 7 := frameA_length (Nat.le_of_ble_eq_true rfl)
    have h0 : nth (frameA Tryz.f12 [.ptr (some ⟨i, 0⟩)]) 0 = .ptr (some ⟨i, 0⟩) := frameA_nth (Nat.le_of_ble_eq_true rfl)
    generalize frameA Tryz.f12 [.ptr (some ⟨i, 0⟩)] = e at hl h0
    have x3 : loadA Tryz.prog h 3 ⟨i, 3⟩ = some (.int .i64 o) := load_cell ag3 hg rfl
    apply WP.seq; apply WP.region; simp [hl]
    repeat apply WP.seq
    apply WP.region; simp [hl, h0, fa81_3, x3]
    apply WP.ret
    simp [hl, resultsA, resultA, single]
  obtain ⟨_, _, h1, rfl, rfl⟩ := main
  exact h1
set_option maxHeartbeats 4000000 in
set_option maxRecDepth 100000 in
theorem refused (hov : ∀ a h, ov 11 a h = none) {h : Heap} (hw : Wf h) {i : Nat} {w c x y : AV} {m o : Int} {k : Kind} (hg : h.get i = some (.cells [w, c, .int .i64 m, .int .i64 o, x, y] k)) (he : h.get 0 = some errO) (hmo : m ≤ o) (min : Int) :
    ∃ h', callT ov Tryz.prog 11 [.ptr (some ⟨i, 0⟩), quV min] h = some (.ret (.tuple [.int .i64 0, errV]) h') := by
  have main : ∃ u g, callT ov Tryz.prog 11 [.ptr (some ⟨i, 0⟩), quV min] h = some (.ret u g) ∧ u = .tuple [.int .i64 0, errV] := by
    refine callT_wp (fn := Tryz.f11) (hov _ _) (by kernel_rfl) rfl ?_
    have hl : (frameA Tryz.f11 [.ptr (some ⟨i, 0⟩), quV min]).length = 65 := frameA_length (Nat.le_of_ble_eq_true rfl)
    have h0 : nth (frameA Tryz.f11 [.ptr (some ⟨i, 0⟩), quV min]) 0 = .ptr (some ⟨i, 0⟩) := frameA_nth (Nat.le_of_ble_eq_true rfl)
    have h1 : nth (frameA Tryz.f11 [.ptr (some ⟨i, 0⟩), quV min]) 1 = quV min := frameA_nth (Nat.le_of_ble_eq_true rfl)
    generalize frameA Tryz.f11 [.ptr (some ⟨i, 0⟩), quV min] = e at hl h0 h1
    obtain ⟨g, hb, hk⟩ : ∃ g, boxA 38 h (quV min) = some (.ptr (some ⟨h.next, 0⟩), g) ∧ Keep [] h g := ⟨h.alloc (.cells [.int .i64 1, .str [], .str [], .bool false, .int .i64 0, .int .u64 min, .int .u64 0] (.var 38)), rfl, (Keep.refl (ex := []) hw).alloc _⟩
    have hg' := hk.get _ _ hg (by simp)
    have he' := hk.get _ _ he (by simp)
    have x2 : loadA Tryz.prog g 3 ⟨i, 2⟩ = some (.int .i64 m) := load_cell ag3 hg' rfl
    have x3 : loadA Tryz.prog g 3 ⟨i, 3⟩ = some (.int .i64 o) := load_cell ag3 hg' rfl
    have x0 : loadA Tryz.prog g 33 ⟨0, 0⟩ = some errV := load_cell ag33 he' rfl
    apply WP.seq; apply WP.region; simp [hl, h1, hb]
    repeat apply WP.seq
    apply WP.draw (by kernel_rfl) (by kernel_rfl)
    simp [hl, h0, fa81_2, fa81_3, x2, x3]
    apply WP.cond (by simp [hl]; rfl)
    · intro _
      repeat apply WP.seq
      apply WP.draw (by kernel_rfl) (by kernel_rfl)
      simp [hl, ev_glob0, x0]
      apply WP.ret
      simp [hl, resultsA, resultA, single]
      exact ⟨_, rfl, rfl⟩
    · intro hf
      have hf : ¬ m ≤ o := by simpa using hf
      exact absurd hmo hf
  obtain ⟨_, g, h1, rfl⟩ := main
  exact ⟨g, h1⟩
end
/-- The engine's object and ErrFull alone, told as what is there already. -/
def roHeap (h : Heap) (i : Nat) (cs : List AV) : Heap := ((⟨h.next, .leaf, []⟩ : Heap).set 0 errO).set i (.cells cs .ro)
theorem roHeap_get {h : Heap} {i j : Nat} {cs : List AV} {o : Obj} (hi : i ≠ 0) (hj : (roHeap h i cs).get j = some o) : j = i ∧ o = .cells cs .ro ∨ j = 0 ∧ o = errO := by
  have hj : (T16.put (T16.put .leaf 0 (some errO)) i (some (.cells cs .ro))).get j = some o := hj
  by_cases h1 : j = i
  · subst h1; rw [T16.get_put] at hj; exact .inl ⟨rfl, (Option.some.inj hj).symm⟩
  · rw [T16.get_put_ne _ (Ne.symm h1)] at hj
    by_cases h2 : j = 0
    · subst h2; rw [T16.get_put] at hj; exact .inr ⟨rfl, (Option.some.inj hj).symm⟩
    · rw [T16.get_put_ne _ (Ne.symm h2), show T16.leaf.get j = none from T16.get_leaf j] at hj; cases hj
theorem roHeap_at {h : Heap} {i : Nat} {cs : List AV} : (roHeap h i cs).get i = some (.cells cs .ro) := T16.get_put _ _ _
theorem roHeap_err {h : Heap} {i : Nat} {cs : List AV} (hi : i ≠ 0) : (roHeap h i cs).get 0 = some errO := by
  show (T16.put (T16.put .leaf 0 (some errO)) i (some (.cells cs .ro))).get 0 = some errO
  rw [T16.get_put_ne _ hi, T16.get_put]
theorem R.ro {P : Program} {φ : List Emb} {h : Heap} {w0 w : World} (hR : R P φ h w0 w) {i : Nat} {cs : List AV} {k : Kind} (hi : i ≠ 0) (hg : h.get i = some (.cells cs k)) (he : h.get 0 = some errO) : R P φ (roHeap h i cs) w w where
  below := Below.refl _ _
  len := hR.len
  objs := fun j o hj => by
    rcases roHeap_get hi hj with ⟨rfl, rfl⟩ | ⟨rfl, rfl⟩
    · obtain ⟨e, h1, ⟨C, t, fr, h2, h3, h4, _, _, h6⟩, _⟩ := hR.objs _ _ hg
      exact ⟨e, h1, ⟨C, t, fr, h2, h3, h4, OwnOk.free (by simp) (by simp), (fun hh => by cases hh), h6⟩, fun hh => by cases hh⟩
    · obtain ⟨e, h1, h2, _⟩ := hR.objs _ _ he
      exact ⟨e, h1, h2, fun hh => by cases hh⟩
  sep := fun a b oa ob ea eb hab ha hb h1 h2 ho => by
    rcases roHeap_get hi ha with ⟨rfl, rfl⟩ | ⟨rfl, rfl⟩ <;> cases ho
  glob := hR.glob
theorem roHeap_wf {h : Heap} {i : Nat} {cs : List AV} (hw : Wf h) (hi : i ≠ 0) (hl : i < h.next) (h0 : 0 < h.next) : Wf (roHeap h i cs) := by
  intro j o hj
  show j < h.next
  rcases roHeap_get hi hj with ⟨rfl, _⟩ | ⟨rfl, _⟩ <;> omega
set_option maxRecDepth 100000 in
/-- A refused Ask leaves the memory as it was. -/
theorem refused_ok {h : Heap} {i : Nat} {w c x y : AV} {m o : Int} {k : Kind} (hi : i ≠ 0) (hg : h.get i = some (.cells [w, c, .int .i64 m, .int .i64 o, x, y] k)) (he : h.get 0 = some errO) (hmo : m ≤ o) (min : Int) :
    CallOk Tryz.prog 11 [.ptr (some ⟨i, 0⟩), quV min] h (.ret (.tuple [.int .i64 0, errV]) h) := by
  intro φ w0 W args hR hV
  have hro := hR.ro hi hg he
  have hwf : Wf h := fun j o hj => by
    obtain ⟨e, h1, _⟩ := hR.objs j o hj
    have := (List.getElem?_eq_some_iff.1 h1).1
    rw [hR.len] at this
    exact this
  have hl := hwf _ _ hg
  obtain ⟨p10, h10⟩ : ∃ p, φ[10]? = some p := by
    obtain ⟨e, h1, ⟨C, t, fr, h2, h3, h4, _, _, h6⟩, _⟩ := hR.objs _ _ he
    simp only [errV, Vs, V] at h6
    obtain ⟨_, _, _, ⟨_, _, p, hp, _⟩, _⟩ := h6
    exact ⟨p, hp⟩
  obtain ⟨g, hc⟩ := refused (ov := fun _ _ _ => none) (fun _ _ => rfl) (roHeap_wf (cs := [w, c, .int .i64 m, .int .i64 o, x, y]) hwf hi hl (by omega)) roHeap_at (roHeap_err hi) hmo min
  have hp := callT_ok (fun _ _ _ => none) Tryz.prog fns_ok mixed_ok (fun _ _ _ _ hh => by cases hh) _ _ _ _ hc
  have hc := hp φ W W args hro hV
  have hlt : (11 : Nat) < Tryz.prog.funcs.size := (blt_iff _ _).1 blt11
  rw [if_pos hlt] at hc ⊢
  refine hc.mono ?_
  rintro e w' ⟨φ', v', rfl, hu, hR', hv⟩
  have hv : V φ' (.tuple [.int .i64 0, errV]) v' := hv
  refine ⟨φ, v', rfl, Up.refl _, hR.later hR'.below, ?_⟩
  show V φ (.tuple [.int .i64 0, errV]) v'
  simp only [errV, V, Vs] at hv ⊢
  rw [h10]
  obtain ⟨ψ, rfl⟩ := hu
  rw [List.getElem?_append_left (List.getElem?_eq_some_iff.1 h10).1, h10] at hv
  exact hv
end Go.Am
