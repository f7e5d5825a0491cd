/- Parts of the proof by the abstract machine: BAlive, FOv, FWalk, FCall. -/
import Derived.Test.YteoekjfgihnhaaaGreatDoorHmGRF30
import Derived.Test.YteoekjfgihnhaaaGreatDoorHmGRF26
import Derived.Test.YteoekjfgihnhaaaGreatDoorHmGRF22
import Derived.Test.YteoekjfgihnhaaaGreatDoorHmGRF29
set_option linter.all false
noncomputable section
namespace Go.Am
open Go.RowKit Go.Proofs

theorem isTrueM_some {r : Option (List (AV × Heap))} (h : BSt.isTrueM r = true) : ∃ h1, r = some [(.bool true, h1)] := by
  unfold BSt.isTrueM at h
  split at h
  · exact ⟨_, rfl⟩
  · cases h
theorem alive_some : ∃ h1, BSt.hTop 9 [] hHeap = some [(.bool true, h1)] := isTrueM_some BSt.alive
set_option maxRecDepth 100000 in
theorem alive_call {φ : List Emb} {h : Heap} {w0 w : World} (hR : R Tryz.prog φ h w0 w) (hk : h.get 1 = some kindsO) : Goes Tryz.prog 9 #[] w (fun e w' => e = .returned (.bool true) ∧ Below w.heap.size w w') := by
  obtain ⟨h1, hx⟩ := alive_some
  have hp : CallPost Tryz.prog 9 [] hHeap fun φ w0 => LPost Tryz.prog φ w0 [(.bool true, h1)] := BSt.hTop_ok.post 9 [] hHeap [(.bool true, h1)] hx
  have hc := hp (φ.take 10) w w #[] (hR.restrict hk) (Vs_nil.2 rfl)
  have hlt : (9 : Nat) < Tryz.prog.funcs.size := (blt_iff _ _).1 (by kernel_rfl)
  rw [if_pos hlt] at hc
  refine hc.mono ?_
  rintro e w' ⟨q, hq, φ', v', rfl, _, hR', hv⟩
  rw [List.mem_singleton] at hq
  subst hq
  have hv : V φ' (.bool true) v' := hv
  simp only [V] at hv
  subst hv
  exact ⟨rfl, hR'.below⟩

def ovAlive : CallF := fun f a h => match a with
  | [] => bif Nat.beq f 9 then (match h.get 1 with | some o => bif eqObj o kindsO then some (.ret (.bool true) h) else none | none => none) else none
  | _ => none
theorem ovAlive_self {h : Heap} (hk : h.get 1 = some kindsO) : ovAlive 9 [] h = some (.ret (.bool true) h) := by
  have h1 : eqObj kindsO kindsO = true := by kernel_rfl
  simp [ovAlive, hk, h1]
theorem ovAlive_ne {g : FuncId} (hn : Nat.beq g 9 = false) (a : List AV) (h : Heap) : ovAlive g a h = none := by
  cases a <;> simp [ovAlive, hn]
theorem ovAlive_ok : CallsOk Tryz.prog ovAlive := by
  intro g a h r ho
  unfold ovAlive at ho
  split at ho
  · rw [cond_eq_ite] at ho
    split at ho
    · rename_i hg
      have hg := Nat.eq_of_beq_eq_true hg
      subst hg
      split at ho
      · rename_i o hk
        rw [cond_eq_ite] at ho
        split at ho
        · rename_i hb
          cases ho
          have hk0 : o = kindsO := eqObj_eq hb
          subst hk0
          intro φ w0 w args hR hV
          have ha : args = #[] := by rw [Vs_nil] at hV; exact Array.ext' (by simpa using hV)
          subst ha
          have hlt : (9 : Nat) < Tryz.prog.funcs.size := (blt_iff _ _).1 (by kernel_rfl)
          rw [if_pos hlt]
          refine (alive_call hR hk).mono ?_
          rintro e w' ⟨rfl, hb⟩
          exact ⟨φ, _, rfl, Up.refl _, hR.later hb, by simp [V]⟩
        · cases ho
      · cases ho
    · cases ho
  · cases ho
end Go.Am

set_option maxRecDepth 100000
noncomputable section
namespace Go.Am
open Go.RowKit Go.Proofs

def full (l : Loc) (h : Heap) : Bool := match h.get l.id with
  | some (.cells [_, _, .int .i64 m, .int .i64 o, _, _] _) => isErr h && Nat.beq l.off 0 && !(Nat.beq l.id 0) && decide (m ≤ o)
  | _ => false
def refusedA (a : List AV) (h : Heap) : Option CRes := match a with
  | [.ptr (some l), q] => bif eqObj (.cells [q] .ro) (.cells [quV 0] .ro) && full l h then some (.ret (.tuple [.int .i64 0, errV]) h) else none
  | _ => none
def oneCall (f : FuncId) (a : List AV) (h : Heap) : Option CRes := match one (fCall f a h) with
  | some (v, h') => some (.ret v h')
  | none => none
def ovFull : CallF := fun f a h =>
  bif Nat.beq f 9 then ovAlive f a h
  else bif Nat.beq f 11 then (match refusedA a h with | some r => some r | none => oneCall 11 a h)
  else bif Nat.beq f 10 || Nat.beq f 13 || Nat.beq f 14 then oneCall f a h else none
theorem one_some {r : Option (List (AV × Heap))} {x : AV × Heap} (h : one r = some x) : r = some [x] := by
  unfold one at h
  split at h
  · cases h; rfl
  · cases h
theorem isErr_some {h : Heap} (he : isErr h = true) : h.get 0 = some errO := by
  unfold isErr at he
  split at he
  · rename_i o ho; rw [ho, eqObj_eq he]
  · cases he
theorem oneCall_ok {f : FuncId} (hlt : f < Tryz.prog.funcs.size) {a : List AV} {h : Heap} {r : CRes} (ho : oneCall f a h = some r) : CallOk Tryz.prog f a h r := by
  unfold oneCall at ho
  split at ho
  · rename_i v h' h1
    cases ho
    have hp := fCall_ok.post f a h _ (one_some h1)
    intro φ w0 w args hR hV
    have hc := hp φ w0 w args hR hV
    rw [if_pos hlt] at hc ⊢
    refine hc.mono ?_
    rintro e w' ⟨p, hq, hp⟩
    rw [List.mem_singleton] at hq
    subst hq
    exact hp
  · cases ho
theorem refusedA_ok {a : List AV} {h : Heap} {r : CRes} (ho : refusedA a h = some r) : CallOk Tryz.prog 11 a h r := by
  unfold refusedA at ho
  split at ho
  · rename_i l q
    cases hc : (eqObj (.cells [q] .ro) (.cells [quV 0] .ro) && full l h) with
    | false => rw [hc] at ho; cases ho
    | true =>
      rw [hc, cond_true] at ho
      cases ho
      rw [Bool.and_eq_true] at hc
      obtain ⟨c1, c2⟩ := hc
      have hq := eqObj_eq c1
      simp only [Obj.cells.injEq, List.cons.injEq, and_true] at hq
      subst hq
      unfold full at c2
      split at c2
      · rename_i w c m o x y k hg
        simp only [Bool.and_eq_true, Bool.not_eq_true', decide_eq_true_eq] at c2
        obtain ⟨⟨⟨c3, c4⟩, c5⟩, c6⟩ := c2
        have c4 := Nat.eq_of_beq_eq_true c4
        obtain ⟨i, off⟩ := l
        have c4 : off = 0 := c4
        subst c4
        have hi : i ≠ 0 := fun hh => by subst hh; cases c5
        exact refused_ok hi hg (isErr_some c3) c6 0
      · cases c2
  · cases ho
theorem ovFull_ok : CallsOk Tryz.prog ovFull := by
  intro f a h r ho
  unfold ovFull at ho
  cases h9 : Nat.beq f 9 with
  | true => rw [h9, cond_true] at ho; exact ovAlive_ok f a h r ho
  | false =>
    rw [h9, cond_false] at ho
    cases h11 : Nat.beq f 11 with
    | true =>
      rw [h11, cond_true] at ho
      have := Nat.eq_of_beq_eq_true h11
      subst this
      split at ho
      · rename_i r' hr
        cases ho
        exact refusedA_ok hr
      · exact oneCall_ok ((blt_iff _ _).1 blt11) ho
    | false =>
      rw [h11, cond_false] at ho
      cases hx : (Nat.beq f 10 || Nat.beq f 13 || Nat.beq f 14) with
      | false => rw [hx] at ho; cases ho
      | true =>
        rw [hx, cond_true] at ho
        simp only [Bool.or_eq_true] at hx
        refine oneCall_ok ?_ ho
        rcases hx with (hx | hx) | hx <;> (have := Nat.eq_of_beq_eq_true hx; subst this; exact (blt_iff _ _).1 (by kernel_rfl))
end Go.Am

set_option linter.unusedSimpArgs false
set_option maxRecDepth 100000
set_option maxHeartbeats 8000000
noncomputable section
namespace Go.Am
open Go.RowKit Go.Proofs

def askOne (r : Option (AV × Heap)) (i : Nat) (k : Heap → Bool) : Bool := match r with
  | some (.tuple [.int .i64 j, .nilIface], h') => bif decide (j = (i : Int)) then k h' else false
  | _ => false
theorem asks_succ {n i : Nat} {l : Loc} {h : Heap} {k : Heap → Bool} : asks (n + 1) i l h k = askOne (one (fCall 11 [.ptr (some l), quV 5] h)) i (fun h' => asks n (i + 1) l h' k) := rfl
theorem askOne_some {r : Option (AV × Heap)} {i : Nat} {k : Heap → Bool} (ha : askOne r i k = true) : ∃ h', r = some (.tuple [.int .i64 (i : Nat), .nilIface], h') ∧ k h' = true := by
  unfold askOne at ha
  split at ha
  · rename_i j h'
    cases hj : decide (j = (i : Int)) with
    | false => rw [hj] at ha; cases ha
    | true =>
      rw [hj, cond_true] at ha
      have := of_decide_eq_true hj
      subst this
      exact ⟨h', rfl, ha⟩
  · cases ha
theorem asks_zero {i : Nat} {l : Loc} {h : Heap} {k : Heap → Bool} : asks 0 i l h k = k h := rfl
theorem asks_step {n i : Nat} {l : Loc} {h : Heap} {k : Heap → Bool} (ha : asks (n + 1) i l h k = true) : ∃ h', one (fCall 11 [.ptr (some l), quV 5] h) = some (.tuple [.int .i64 (i : Nat), .nilIface], h') ∧ asks n (i + 1) l h' k = true := askOne_some (asks_succ.symm.trans ha)
theorem opens_some {l : Loc} {h : Heap} {a b : Nat} (ho : opens l h a b = true) : ∃ w c x y t, h.get l.id = some (.cells [w, c, .int .i64 (b : Nat), .int .i64 (a : Nat), x, y] (.var t)) ∧ l.off = 0 ∧ Nat.beq l.id 0 = false := by
  unfold opens at ho
  split at ho
  · rename_i w c m o x y t hg
    simp only [Bool.and_eq_true, Bool.not_eq_true', decide_eq_true_eq] at ho
    obtain ⟨⟨⟨h1, h2⟩, rfl⟩, rfl⟩ := ho
    exact ⟨w, c, x, y, t, hg, Nat.eq_of_beq_eq_true h1, h2⟩
  · cases ho
theorem tail_some {m : Nat} {l : Loc} {h : Heap} (ht : tail m l h = true) : ∃ h1 h2 h3 h4, one (fCall 13 [.ptr (some l), .int .i64 1] h) = some (.bool true, h1) ∧ one (fCall 14 [.ptr (some l), .int .i64 1] h1) = some (.int .i64 2, h2) ∧ one (fCall 14 [.ptr (some l), .int .i64 1] h2) = some (.int .i64 4, h3) ∧ opens l h3 (m - 1) m = true ∧
    one (fCall 11 [.ptr (some l), quV 0] h3) = some (.tuple [.int .i64 ((m : Int) + 1), .nilIface], h4) ∧ opens l h4 m m = true ∧ isErr h4 = true := by
  unfold tail at ht
  split at ht
  · rename_i h1 e1
    split at ht
    · rename_i x h2 e2
      cases hx : decide (x = 2) with
      | false => rw [hx] at ht; cases ht
      | true =>
        rw [hx, cond_true] at ht
        have := of_decide_eq_true hx
        subst this
        split at ht
        · rename_i y h3 e3
          cases hy : (decide (y = 4) && opens l h3 (m - 1) m) with
          | false => rw [hy] at ht; cases ht
          | true =>
            rw [hy, cond_true] at ht
            rw [Bool.and_eq_true] at hy
            have := of_decide_eq_true hy.1
            subst this
            split at ht
            · rename_i j h4 e4
              simp only [Bool.and_eq_true] at ht
              have := of_decide_eq_true ht.1.1
              subst this
              exact ⟨h1, h2, h3, h4, e1, e2, e3, hy.2, e4, ht.1.2, ht.2⟩
            · cases ht
        · cases ht
    · cases ht
  · cases ht
theorem ov_one {f : FuncId} (hf : f = 10 ∨ f = 13 ∨ f = 14) {a : List AV} {h h' : Heap} {v : AV} (h1 : one (fCall f a h) = some (v, h')) : callT ovFull Tryz.prog f a h = some (.ret v h') := by
  refine callT_ov _ _ ?_
  have : oneCall f a h = some (.ret v h') := by unfold oneCall; rw [h1]
  rcases hf with rfl | rfl | rfl <;> exact this
theorem ov_ask {a : List AV} {h h' : Heap} {v : AV} (hr : refusedA a h = none) (h1 : one (fCall 11 a h) = some (v, h')) : callT ovFull Tryz.prog 11 a h = some (.ret v h') := by
  refine callT_ov _ _ ?_
  have : oneCall 11 a h = some (.ret v h') := by unfold oneCall; rw [h1]
  show (match refusedA a h with | some r => some r | none => oneCall 11 a h) = _
  rw [hr]; exact this
theorem not5 {l : Loc} {h : Heap} : refusedA [.ptr (some l), quV 5] h = none := by
  unfold refusedA
  have : eqObj (.cells [quV 5] .ro) (.cells [quV 0] .ro) = false := by kernel_rfl
  simp only [this, Bool.false_and, cond_false]
theorem eq0 : eqObj (.cells [quV 0] .ro) (.cells [quV 0] .ro) = true := by kernel_rfl
theorem notFull {l : Loc} {h : Heap} {a b : Nat} (ho : opens l h a b = true) (hab : a < b) : refusedA [.ptr (some l), quV 0] h = none := by
  obtain ⟨w, c, x, y, t, hg, h1, h2⟩ := opens_some ho
  have : full l h = false := by
    unfold full
    rw [hg]
    simp only [Bool.and_eq_false_iff]
    exact .inr (by simp; omega)
  unfold refusedA
  simp only [this, Bool.and_false, cond_false]
theorem isFull {l : Loc} {h : Heap} {m : Nat} (ho : opens l h m m = true) (he : isErr h = true) : callT ovFull Tryz.prog 11 [.ptr (some l), quV 0] h = some (.ret (.tuple [.int .i64 0, errV]) h) := by
  obtain ⟨w, c, x, y, t, hg, h1, h2⟩ := opens_some ho
  have hf : full l h = true := by
    unfold full
    rw [hg]
    simp [he, h1, h2]
  refine callT_ov _ _ ?_
  show (match refusedA [.ptr (some l), quV 0] h with | some r => some r | none => oneCall 11 [.ptr (some l), quV 0] h) = _
  have : refusedA [.ptr (some l), quV 0] h = some (.ret (.tuple [.int .i64 0, errV]) h) := by
    unfold refusedA
    simp only [eq0, hf, Bool.and_self, cond_true]
  rw [this]
theorem openF {l : Loc} {h : Heap} {a b : Nat} (ho : opens l h a b = true) : callT ovFull Tryz.prog 12 [.ptr (some l)] h = some (.ret (.int .i64 (a : Nat)) h) := by
  obtain ⟨w, c, x, y, t, hg, h1, h2⟩ := opens_some ho
  obtain ⟨i, off⟩ := l
  have h1 : off = 0 := h1
  subst h1
  exact open_ok (fun _ _ => rfl) hg
theorem fHeap1 : fHeap.get 1 = some kindsO := by
  show (T16.put (T16.put .leaf 0 (some errO)) 1 (some kindsO)).get 1 = _
  exact T16.get_put _ _ _
theorem alive9 : callT ovFull Tryz.prog 9 [] fHeap = some (.ret (.bool true) fHeap) := callT_ov _ _ (show ovAlive 9 [] fHeap = _ from ovAlive_self fHeap1)
theorem blt9' : Nat.blt 9 Tryz.prog.funcs.size = true := by kernel_rfl
theorem blt10' : Nat.blt 10 Tryz.prog.funcs.size = true := by kernel_rfl
theorem blt13' : Nat.blt 13 Tryz.prog.funcs.size = true := by kernel_rfl
theorem blt14' : Nat.blt 14 Tryz.prog.funcs.size = true := by kernel_rfl
theorem b38_5 : buildA Tryz.prog 38 [(0, .int .i64 1), (5, .int .u64 5)] = some (quV 5) := by kernel_rfl
theorem b38_0 : buildA Tryz.prog 38 [(0, .int .i64 1)] = some (quV 0) := by kernel_rfl
theorem pn29 {h : Heap} {l : Loc} {xo yo : Operand} : binA Tryz.prog h .eql 29 xo yo (.ptr (some l)) (.ptr none) = some (.bool false) := by kernel_rfl
theorem nn33 {h : Heap} {i : Nat} : binA Tryz.prog h .neq 33 (.tmp i) (.const .nilIface) .nilIface .nilIface = some (.bool false) := by kernel_rfl
theorem ne33 {h : Heap} {xo yo : Operand} : binA Tryz.prog h .neq 33 xo yo errV errV = some (.bool false) := by kernel_rfl
theorem eq33 {h : Heap} {xo yo : Operand} : binA Tryz.prog h .eql 33 xo yo errV errV = some (.bool true) := by kernel_rfl
theorem err0 {h : Heap} (he : isErr h = true) : loadA Tryz.prog h 33 ⟨0, 0⟩ = some errV := load_cell ag33 (isErr_some he) rfl

theorem full_walk {a b : Int} (hc : ∀ m : Nat, 1 ≤ m → m ≤ 60 → chk m = true) : ∃ h', callT ovFull Tryz.prog 5 [.int .i64 a, .int .i64 b] fHeap = some (.ret (.bool true) h') := by
  have main : ∃ u g, callT ovFull Tryz.prog 5 [.int .i64 a, .int .i64 b] fHeap = some (.ret u g) ∧ u = .bool true := by
    refine callT_wp (fn := Tryz.f5) rfl (by kernel_rfl) rfl ?_
    have hl : (frameA Tryz.f5 [.int .i64 a, .int .i64 b]).length = 127 := frameA_length (Nat.le_of_ble_eq_true rfl)
    have h0 : nth (frameA Tryz.f5 [.int .i64 a, .int .i64 b]) 0 = .int .i64 a := frameA_nth (Nat.le_of_ble_eq_true rfl)
    have h1 : nth (frameA Tryz.f5 [.int .i64 a, .int .i64 b]) 1 = .int .i64 b := frameA_nth (Nat.le_of_ble_eq_true rfl)
    generalize frameA Tryz.f5 [.int .i64 a, .int .i64 b] = e at hl h0 h1
    apply WP.seq; apply WP.region; simp [hl]
    repeat apply WP.seq
    apply WP.region; simp [hl, callA_eq, blt9', alive9]
    apply WP.cond (by simp [hl]; rfl)
    · intro hf; cases hf
    · intro _
      apply WP.skip; simp
      repeat apply WP.seq
      refine WP.regionS (fun e' g' => e'.length = 127 ∧ g' = fHeap ∧ nth e' 0 = .int .i64 a ∧ nth e' 1 = .int .i64 b ∧ nth e' 30 = .bool (decide (a < 1 ∨ a > 60 ∨ b < 0 ∨ b > 20))) ?_ ?_
      · by_cases c1 : a < 1
        · simp [hl, h0, h1, guardA, c1]
        · by_cases c2 : 60 < a
          · simp [hl, h0, h1, guardA, c1, c2]
          · by_cases c3 : b < 0
            · simp [hl, h0, h1, guardA, c1, c2, c3]
            · simp [hl, h0, h1, guardA, c1, c2, c3]
      · rintro e g ⟨hl, rfl, h0, h1, h30⟩
        apply WP.cond (by rw [ev_tmp]; exact h30)
        · intro _
          repeat apply WP.seq
          apply WP.region; simp [hl]
          apply WP.ret
          simp [hl, resultsA, resultA, single]
        · intro hin
          have hin : ¬ (a < 1 ∨ a > 60 ∨ b < 0 ∨ b > 20) := by simpa only [decide_eq_false_iff_not] using hin
          obtain ⟨m, rfl⟩ : ∃ m : Nat, a = m := ⟨a.toNat, by omega⟩
          have hm1 : 1 ≤ m := by omega
          have hm60 : m ≤ 60 := by omega
          have hchk := hc m hm1 hm60
          unfold chk at hchk
          split at hchk
          · rename_i cv l hh h10
            have c10 := ov_one (.inl rfl) h10
            apply WP.skip; simp
            repeat apply WP.seq
            apply WP.region; simp [hl, h0, callA_eq, blt10', c10, extractA]
            repeat apply WP.seq
            apply WP.region; simp [hl, pn29]
            apply WP.cond (by simp [hl]; rfl)
            · intro hf; cases hf
            · intro _
              apply WP.skip; simp
              repeat apply WP.seq
              apply WP.region; simp [hl]
              repeat apply WP.seq
              refine WP.mono (K := fun o e g => o = .normal ∧ e.length = 127 ∧ nth e 0 = .int .i64 (m : Nat) ∧ nth e 1 = .int .i64 b ∧ nth e 6 = .ptr (some l) ∧ opens l g m m = true ∧ isErr g = true ∧ tail m l g = true) ?_ ?_
              · apply WP.block
                refine WP.loop (fun n e g => e.length = 127 ∧ nth e 0 = .int .i64 (m : Nat) ∧ nth e 1 = .int .i64 b ∧ nth e 6 = .ptr (some l) ∧ ∃ i, i ≤ m ∧ n = m - i ∧ nth e 7 = .int .i64 ((i + 1 : Nat) : Int) ∧ asks (m - i) (i + 1) l g (fun h => opens l h m m && isErr h && tail m l h) = true) ?_ m _ _ ?_
                · rintro n e g ⟨hl, h0, h1, h6, i, hi, rfl, h7, hA⟩
                  repeat apply WP.seq
                  apply WP.region; simp [hl, h0, h7]
                  repeat apply WP.seq
                  apply WP.cond (by simp [hl]; rfl)
                  · intro hlt
                    have hlt : i < m := by
                      have : (i : Int) + 1 ≤ m := by simpa using hlt
                      omega
                    apply WP.skip; simp
                    repeat apply WP.seq
                    apply WP.block
                    obtain ⟨d, hd⟩ : ∃ d, m - i = d + 1 := ⟨m - i - 1, by omega⟩
                    rw [hd] at hA
                    obtain ⟨g2, hask, hA2⟩ := asks_step hA
                    have hcall := ov_ask not5 hask
                    repeat apply WP.seq
                    apply WP.region; simp [hl, h6, b38_5, callA_eq, blt11, hcall, extractA]
                    repeat apply WP.seq
                    apply WP.region; simp [hl, h7, guardA, nn33]
                    apply WP.cond (by simp [hl]; rfl)
                    · intro hf; simp at hf
                    · intro _
                      apply WP.skip; simp
                      repeat apply WP.seq
                      have hwr : IntKind.wrap .i64 ((i : Int) + 1 + 1) = (i : Int) + 1 + 1 := wrap_small (by omega) (by omega)
                      apply WP.region; simp [hl, h7, hwr]
                      refine ⟨m - (i + 1), by omega, h0, h1, h6, i + 1, by omega, rfl, by simp, ?_⟩
                      have : m - (i + 1) = d := by omega
                      rw [this]; exact hA2
                  · intro hge
                    have hi' : i = m := by
                      have : ¬ (i : Int) + 1 ≤ m := by simpa using hge
                      omega
                    have hz : m - i = 0 := by omega
                    rw [hz, asks_zero] at hA
                    rw [Bool.and_eq_true, Bool.and_eq_true] at hA
                    apply WP.exit
                    try simp only [blockK_same]
                    refine ⟨rfl, ?_⟩
                    exact ⟨by simp [hl], by simp [h0], by simp [h1], by simp [h6], hA.1.1, hA.1.2, hA.2⟩
                · exact ⟨by simp [hl], by simp [hl, h0], by simp [hl, h1], by simp [hl], 0, by omega, by omega, by simp [hl], by simpa using hchk⟩
              · rintro o e g ⟨rfl, hl, h0, h1, h6, ho, he, ht⟩
                show WP _ _ _ _ _ _
                repeat apply WP.seq
                apply WP.region; simp [hl]
                repeat apply WP.seq
                have hopen := openF ho
                have hrefuse := isFull ho he
                have herr := err0 he
                refine WP.mono (K := fun o e g' => o = .normal ∧ e.length = 127 ∧ nth e 0 = .int .i64 (m : Nat) ∧ nth e 6 = .ptr (some l) ∧ g' = g) ?_ ?_
                · apply WP.block
                  refine WP.loop (fun n e g' => g' = g ∧ e.length = 127 ∧ nth e 0 = .int .i64 (m : Nat) ∧ nth e 1 = .int .i64 b ∧ nth e 6 = .ptr (some l) ∧ ∃ i : Nat, i ≤ 21 ∧ n = 21 - i ∧ nth e 10 = .int .i64 (i : Nat)) ?_ 21 _ _ ?_
                  · rintro n e g' ⟨rfl, hl, h0, h1, h6, i, hi, rfl, h10⟩
                    repeat apply WP.seq
                    apply WP.region; simp [hl, h1, h10]
                    repeat apply WP.seq
                    apply WP.cond (by simp [hl]; rfl)
                    · intro hlt
                      have hlt : i < 21 := by
                        have : (i : Int) ≤ b := by simpa using hlt
                        omega
                      apply WP.skip; simp
                      repeat apply WP.seq
                      apply WP.block
                      repeat apply WP.seq
                      apply WP.region; simp [hl, h6, b38_0, callA_eq, blt11, hrefuse, extractA]
                      repeat apply WP.seq
                      apply WP.region; simp [hl, h0, h6, guardA, ev_glob0, herr, ne33, callA_eq, blt12, hopen]
                      apply WP.cond (by simp [hl]; rfl)
                      · intro hf; simp at hf
                      · intro _
                        apply WP.skip; simp
                        repeat apply WP.seq
                        have hwr : IntKind.wrap .i64 ((i : Int) + 1) = (i : Int) + 1 := wrap_small (by omega) (by omega)
                        apply WP.region; simp [hl, h10, hwr]
                        exact ⟨21 - (i + 1), by omega, h0, h1, h6, i + 1, by omega, rfl, by simp⟩
                    · intro _
                      apply WP.exit
                      try simp only [blockK_same]
                      exact ⟨rfl, by simp [hl], by simp [h0], by simp [h6], rfl⟩
                  · exact ⟨rfl, by simp [hl], by simp [hl, h0], by simp [hl, h1], by simp [hl, h6], 0, by omega, by omega, by simp [hl]⟩
                · rintro o e g' ⟨rfl, hl, h0, h6, rfl⟩
                  show WP _ _ _ _ _ _
                  obtain ⟨g1, g2, g3, g4, e1, e2, e3, o3, e4, o4, r4⟩ := tail_some ht
                  have k1 := ov_one (.inr (.inl rfl)) e1
                  have k2 := ov_one (.inr (.inr rfl)) e2
                  have k3 := ov_one (.inr (.inr rfl)) e3
                  have k4 := ov_ask (notFull o3 (by omega)) e4
                  have q3 := openF o3
                  have q4 := isFull o4 r4
                  have herr4 := err0 r4
                  have hw1 : IntKind.wrap .i64 ((m : Int) - 1) = ((m - 1 : Nat) : Int) := by rw [wrap_small (by omega) (by omega)]; omega
                  have hw2 : IntKind.wrap .i64 ((m : Int) + 1) = (m : Int) + 1 := wrap_small (by omega) (by omega)
                  repeat apply WP.seq
                  apply WP.region; simp [hl, h0, h6, guardA, callA_eq, blt13', blt14', blt12, k1, k2, k3, q3, hw1]
                  apply WP.cond (by simp [hl]; rfl)
                  · intro hf; simp at hf
                  · intro _
                    apply WP.skip; simp
                    repeat apply WP.seq
                    apply WP.region; simp [hl, h6, b38_0, callA_eq, blt11, k4, extractA]
                    repeat apply WP.seq
                    apply WP.region; simp [hl, h0, hw2, guardA, nn33]
                    apply WP.cond (by simp [hl]; rfl)
                    · intro hf; simp at hf
                    · intro _
                      apply WP.skip; simp
                      repeat apply WP.seq
                      apply WP.region; simp [hl, h6, b38_0, callA_eq, blt11, q4, extractA]
                      repeat apply WP.seq
                      apply WP.region; simp [hl, guardA, ev_glob0, herr4, eq33]
                      apply WP.ret
                      simp [hl, resultsA, resultA, single]
          · cases hchk
  obtain ⟨_, g, h1, rfl⟩ := main
  exact ⟨g, h1⟩
end Go.Am

set_option maxRecDepth 100000
noncomputable section
namespace Go.Am
open Go.RowKit Go.Proofs

theorem fHeap_get {j : Nat} {o : Obj} (hj : fHeap.get j = some o) : j = 1 ∧ o = kindsO ∨ j = 0 ∧ o = errO := by
  have hj : (T16.put (T16.put .leaf 0 (some errO)) 1 (some kindsO)).get j = some o := hj
  by_cases h1 : j = 1
  · subst h1; rw [T16.get_put] at hj; exact .inl ⟨rfl, (Option.some.inj hj).symm⟩
  · rw [T16.get_put_ne _ (Ne.symm h1)] at hj
    by_cases h2 : j = 0
    · subst h2; rw [T16.get_put] at hj; exact .inr ⟨rfl, (Option.some.inj hj).symm⟩
    · rw [T16.get_put_ne _ (Ne.symm h2), show T16.leaf.get j = none from T16.get_leaf j] at hj; cases hj
theorem err_V {φ : List Emb} {u : Value} (h : V φ errV u) : ∃ p, φ[10]? = some p ∧ ∀ φ' : List Emb, φ'[10]? = some p → V φ' errV u := by
  simp only [errV, V] at h
  obtain ⟨y, h1, p, h2, h3⟩ := h
  refine ⟨p, h2, fun φ' hp => ?_⟩
  simp only [errV, V]
  exact ⟨y, h1, p, hp, h3⟩
theorem err_O {φ : List Emb} {e : Emb} {w : World} (h : O φ e w errO) : ∃ p, φ[10]? = some p ∧ ∀ φ' : List Emb, φ'[10]? = some p → O φ' e w errO := by
  obtain ⟨C, t, fr, h1, h2, h3, h4, h5, h6⟩ := h
  simp only [Vs] at h6
  obtain ⟨y, ys, h7, h8, h9⟩ := h6
  obtain ⟨p, hp, hV⟩ := err_V h8
  exact ⟨p, hp, fun φ' hp' => ⟨C, t, fr, h1, h2, h3, h4, h5, by simp only [Vs]; exact ⟨y, ys, h7, hV φ' hp', h9⟩⟩⟩
theorem R.restrictF {φ : List Emb} {h : Heap} {w0 w : World} (hR : R Tryz.prog φ h w0 w) (hk : h.get 1 = some kindsO) (he : h.get 0 = some errO) : R Tryz.prog (φ.take 11) fHeap w w := by
  obtain ⟨e0, he0, hO0, _⟩ := hR.objs 0 _ he
  obtain ⟨p, hp, hup⟩ := err_O hO0
  have hlen := (List.getElem?_eq_some_iff.1 hp).1
  exact {
    below := Below.refl _ _
    len := by
      show (φ.take 11).length = 11
      rw [List.length_take]; omega
    objs := fun i o hi => by
      rcases fHeap_get hi with ⟨rfl, rfl⟩ | ⟨rfl, rfl⟩
      · obtain ⟨e, he, hO, _⟩ := hR.objs 1 _ hk
        exact ⟨e, by rw [List.getElem?_take, if_pos (by omega)]; exact he, kinds_O hO, fun hh => by cases hh⟩
      · exact ⟨e0, by rw [List.getElem?_take, if_pos (by omega)]; exact he0, hup _ (by rw [List.getElem?_take, if_pos (by omega)]; exact hp), fun hh => by cases hh⟩
    sep := fun i j oi oj ei ej hij hi hj _ _ ho => by
      rcases fHeap_get hi with ⟨_, rfl⟩ | ⟨_, rfl⟩ <;> cases ho
    glob := fun g hg => by
      obtain ⟨n, hn⟩ := hR.glob g hg
      rw [globs] at hg
      exact ⟨n, by rw [List.getElem?_take, if_pos (by omega)]; exact hn⟩ }
theorem blt5' : Nat.blt 5 Tryz.prog.funcs.size = true := by kernel_rfl
/-- The law, over any memory in which the two variables are as the text lays them. -/
theorem full_call (hc : ∀ m : Nat, 1 ≤ m → m ≤ 60 → chk m = true) {a b : Int} {h : Heap} (hk : h.get 1 = some kindsO) (he : h.get 0 = some errO) : CallOk Tryz.prog 5 [.int .i64 a, .int .i64 b] h (.ret (.bool true) h) := by
  intro φ w0 w args hR hV
  obtain ⟨h', hw⟩ := full_walk (a := a) (b := b) hc
  have hp := callT_ok ovFull Tryz.prog fns_ok mixed_ok ovFull_ok _ _ _ _ hw
  have hV' : Vs (φ.take 11) [.int .i64 a, .int .i64 b] args.toList := by
    simp only [Vs, V] at hV ⊢
    exact hV
  have hg := hp (φ.take 11) w w args (hR.restrictF hk he) hV'
  have hlt : (5 : Nat) < Tryz.prog.funcs.size := (blt_iff _ _).1 blt5'
  rw [if_pos hlt] at hg ⊢
  refine hg.mono ?_
  rintro e w' ⟨φ', v', rfl, _, hR', hv⟩
  have hv : V φ' (.bool true) v' := hv
  simp only [V] at hv
  subst hv
  exact ⟨φ, _, rfl, Up.refl _, hR.later hR'.below, by simp [V]⟩
end Go.Am
