/- Parts of the proof by the abstract machine: HAlive, HFacts, HWorst, HWorstL. -/
import Derived.Test.YtcfifjicjpncpaaGreatDoorHmGRHWorst35
import Derived.Test.YtcfifjicjpncpaaGreatDoorHmGRHWorst25
import Derived.Test.YtcfifjicjpncpaaGreatDoorHmGRHWorst34
import Derived.Test.YtcfifjicjpncpaaGreatDoorHmGRHWorst14
import Derived.KernelRfl
set_option linter.all false
noncomputable section
namespace Go.Am
open Go.RowKit Go.Proofs

theorem globs : Tryz.prog.globals.size = 9 := by kernel_rfl
theorem hHeap_get {i : Nat} {o : Obj} (h : hHeap.get i = some o) : i = 0 ∧ o = kindsO := by
  have h : (T16.put .leaf 0 (some kindsO)).get i = some o := h
  by_cases hi : i = 0
  · subst hi; rw [T16.get_put] at h; exact ⟨rfl, (Option.some.inj h).symm⟩
  · rw [T16.get_put_ne _ (Ne.symm hi), show T16.leaf.get i = none from T16.get_leaf i] at h; cases h
theorem kinds_O {φ φ' : List Emb} {e : Emb} {w : World} (h : O φ e w kindsO) : O φ' e w kindsO := by
  obtain ⟨C, t, fr, h1, h2, h3, h4, h5, h6⟩ := h
  refine ⟨C, t, fr, h1, h2, h3, h4, h5, ?_⟩
  simp only [Vs, V] at h6 ⊢
  exact h6
theorem R.restrict {φ : List Emb} {h : Heap} {w0 w : World} (hR : R Tryz.prog φ h w0 w) (hk : h.get 0 = some kindsO) : R Tryz.prog (φ.take 9) hHeap w w where
  below := Below.refl _ _
  len := by
    obtain ⟨n, hn⟩ := hR.glob 8 (by rw [globs]; omega)
    have := (List.getElem?_eq_some_iff.1 hn).1
    show (φ.take 9).length = Tryz.prog.globals.size
    rw [globs, List.length_take]; omega
  objs := fun i o hi => by
    obtain ⟨rfl, rfl⟩ := hHeap_get hi
    obtain ⟨e, he, hO, _⟩ := hR.objs 0 _ hk
    exact ⟨e, by rw [List.getElem?_take, if_pos (by omega)]; exact he, kinds_O hO, fun hh => by cases hh⟩
  sep := fun i j oi oj ei ej hij hi hj => by
    obtain ⟨rfl, _⟩ := hHeap_get hi
    obtain ⟨rfl, _⟩ := hHeap_get hj
    exact absurd rfl hij
  glob := fun g hg => by
    obtain ⟨n, hn⟩ := hR.glob g hg
    rw [globs] at hg
    exact ⟨n, by rw [List.getElem?_take, if_pos hg]; exact hn⟩

theorem isTrueM_some {r : Option (List (AV × Heap))} (h : HSt.isTrueM r = true) : ∃ h1, r = some [(.bool true, h1)] := by
  unfold HSt.isTrueM at h
  split at h
  · exact ⟨_, rfl⟩
  · cases h
theorem alive_some : ∃ h1, HSt.hTop 5 [] hHeap = some [(.bool true, h1)] := isTrueM_some HSt.alive
set_option maxRecDepth 100000 in
theorem alive_call {φ : List Emb} {h : Heap} {w0 w : World} (hR : R Tryz.prog φ h w0 w) (hk : h.get 0 = some kindsO) : Goes Tryz.prog 5 #[] w (fun e w' => e = .returned (.bool true) ∧ Below w.heap.size w w') := by
  obtain ⟨h1, hx⟩ := alive_some
  have hp : CallPost Tryz.prog 5 [] hHeap fun φ w0 => LPost Tryz.prog φ w0 [(.bool true, h1)] := HSt.hTop_ok.post 5 [] hHeap [(.bool true, h1)] hx
  have hc := hp (φ.take 9) w w #[] (hR.restrict hk) (Vs_nil.2 rfl)
  have hlt : (5 : Nat) < Tryz.prog.funcs.size := (blt_iff _ _).1 (by kernel_rfl)
  rw [if_pos hlt] at hc
  refine hc.mono ?_
  rintro e w' ⟨q, hq, φ', v', rfl, _, hR', hv⟩
  rw [List.mem_singleton] at hq
  subst hq
  have hv : V φ' (.bool true) v' := hv
  simp only [V] at hv
  subst hv
  exact ⟨rfl, hR'.below⟩

def ovAlive : CallF := fun f a h => match a with
  | [] => bif Nat.beq f 5 then (match h.get 0 with | some o => bif eqObj o kindsO then some (.ret (.bool true) h) else none | none => none) else none
  | _ => none
theorem ovAlive_self {h : Heap} (hk : h.get 0 = some kindsO) : ovAlive 5 [] h = some (.ret (.bool true) h) := by
  have h1 : eqObj kindsO kindsO = true := by kernel_rfl
  simp [ovAlive, hk, h1]
theorem ovAlive_ne {g : FuncId} (hn : Nat.beq g 5 = false) (a : List AV) (h : Heap) : ovAlive g a h = none := by
  cases a <;> simp [ovAlive, hn]
theorem ovAlive_ok : CallsOk Tryz.prog ovAlive := by
  intro g a h r ho
  unfold ovAlive at ho
  split at ho
  · rw [cond_eq_ite] at ho
    split at ho
    · rename_i hg
      have hg := Nat.eq_of_beq_eq_true hg
      subst hg
      split at ho
      · rename_i o hk
        rw [cond_eq_ite] at ho
        split at ho
        · rename_i hb
          cases ho
          have hk0 : o = kindsO := eqObj_eq hb
          subst hk0
          intro φ w0 w args hR hV
          have ha : args = #[] := by rw [Vs_nil] at hV; exact Array.ext' (by simpa using hV)
          subst ha
          have hlt : (5 : Nat) < Tryz.prog.funcs.size := (blt_iff _ _).1 (by kernel_rfl)
          rw [if_pos hlt]
          refine (alive_call hR hk).mono ?_
          rintro e w' ⟨rfl, hb⟩
          exact ⟨φ, _, rfl, Up.refl _, hR.later hb, by simp [V]⟩
        · cases ho
      · cases ho
    · cases ho
  · cases ho
end Go.Am

noncomputable section
namespace Go.Am
open Go.RowKit Go.Proofs

attribute [simp] sim_nil sim_cons stepR_ret stepR_none sim_guard gstep_true gstep_false ev_tmp ev_func ev_int ev_bool ev_nilptr ev_nilslice ev_nilIface ev_nilFunc ev_nilmap op_move op_assign op_pick pickA_bool op_alloc op_box op_build op_buildSlice op_load loadR_ptr op_store op_nilCheck op_binOp op_unOp op_convert op_makeInterface op_makeFunc op_makeSlice op_slice op_fieldAddr op_field op_indexAddr op_index op_typeAssert op_extract op_builtin bi_len bi_append bi_copy bi_max2 bi_min2 maxA_two minA_two op_callv valR_func evals_nil evals_cons parts_nil parts_cons evalO_none evalO_some withH_ret toRet_ret toRet_withH bin_add bin_sub bin_mul bin_eql bin_neq bin_lss bin_leq bin_gtr bin_geq un_not nilCheck_ptr nilCheck_iface nilCheck_func
attribute [simp] W_some seqK_normal seqK_exit seqK_ret blockK_same blockK_normal blockK_ret loopK_normal loopK_exit loopK_ret nth_set_eq nth_set_ne

theorem frameA_length {fn : Func} {args : List AV} (h : args.length ≤ fn.ntmps) : (frameA fn args).length = fn.ntmps := by
  simp only [frameA, List.length_append, List.length_replicate]; omega
theorem nth_append_left : ∀ {xs ys : List AV} {i : Nat}, i < xs.length → nth (xs ++ ys) i = nth xs i
  | _ :: _, _, 0, _ => rfl
  | _ :: xs, ys, i + 1, h => by simp only [List.cons_append, nth]; exact nth_append_left (by simpa using h)
theorem frameA_nth {fn : Func} {args : List AV} {i : Nat} (h : i < args.length) : nth (frameA fn args) i = nth args i := nth_append_left h
theorem u22 : Tryz.prog.underlying 22 = some (.slice 56) := by kernel_rfl
theorem u3 : Tryz.prog.underlying 3 = some (.int .i64) := by kernel_rfl
theorem u4 : Tryz.prog.underlying 4 = some .bool := by kernel_rfl
theorem sz3 : sizeA Tryz.prog 3 = some 1 := by kernel_rfl
theorem ag3 : aggA Tryz.prog 3 = some false := by kernel_rfl
theorem sz56 : sizeA Tryz.prog 56 = some 7 := by kernel_rfl
theorem ag56 : aggA Tryz.prog 56 = some true := by kernel_rfl
theorem fa56 {l : Loc} : fieldAddrA Tryz.prog 56 (.ptr (some l)) 3 = some (.ptr (some ⟨l.id, l.off + 3⟩)) := by kernel_rfl
def zero56 : List AV := [.str [], .str [], .str [], .int .i64 0, .str [], .int .u64 0, .int .u64 0]
theorem alloc56 {h : Heap} : allocA Tryz.prog h 56 = some (.ptr (some ⟨h.next, 0⟩), h.alloc (.cells zero56 (.var 56))) := by kernel_rfl
theorem build22 {h : Heap} : buildSliceA Tryz.prog h 22 0 [] = some (.slice (some ⟨h.next, 0⟩) 0 (.exact 0), h.alloc (.cells [] (.own (some 56)))) := by kernel_rfl
theorem room56 {n : Nat} (hn : n * 88 ≤ 140737488355328) : roomA Tryz.prog 56 n = true := by
  have h1 : roomA Tryz.prog 56 n = (Nat.ble (n * 88) 140737488355328 && Nat.ble n 9223372036854775807 && true && true) := by kernel_rfl
  rw [h1, (ble_iff _ _).2 hn, (ble_iff _ _).2 (by omega)]; rfl
theorem blt5 : Nat.blt 5 Tryz.prog.funcs.size = true := by kernel_rfl
theorem blt6 : Nat.blt 6 Tryz.prog.funcs.size = true := by kernel_rfl
theorem blt7 : Nat.blt 7 Tryz.prog.funcs.size = true := by kernel_rfl
theorem store_agg {P : Program} {h : Heap} {t : TypeId} {i n : Nat} {cs r : List AV} {k : Kind} (hs : sizeA P t = some n) (hg : h.get i = some (.cells cs k)) (hk : k ≠ .ro) (hr : r.length = n) (hc : cs.length = n) (hok : cellsOk r = true) : storeA P h t ⟨i, 0⟩ (.agg r) = some (h.set i (.cells r k)) := by
  have hov : over cs 0 r = r := by
    unfold over
    rw [List.take_zero, List.nil_append, List.drop_eq_nil_of_le (by omega), List.append_nil]
  have hb : (cellsOk r && Nat.ble (0 + r.length) cs.length) = true := by
    rw [Bool.and_eq_true, ble_iff]
    exact ⟨hok, by omega⟩
  have hbb : Nat.beq r.length n = true := by rw [hr]; exact Nat.beq_refl n
  simp only [storeA, hs, cellsA, hbb, cond_true, writeA, hg]
  cases k with
  | ro => exact absurd rfl hk
  | own => simp only [hb, cond_true, hov]
  | var => simp only [hb, cond_true, hov]
  | str => simp only [hb, cond_true, hov]
end Go.Am

set_option linter.unusedSimpArgs false
noncomputable section
namespace Go.Am
open Go.RowKit Go.Proofs

theorem int_wrap {n : Nat} (h : n < 9223372036854775807) : IntKind.wrap .i64 ((n : Int) + 1) = ((n + 1 : Nat) : Int) := by
  rw [wrap_small (by omega) (by omega)]; rfl
/-- Checks as rows of seven cells, the fourth the status. -/
def IsCheck (r : List AV) : Prop := r.length = 7 ∧ cellsOk r = true ∧ ∃ s, r[3]? = some (.int .i64 s)
def stOf (r : List AV) : Int := match (r[3]? : Option AV) with | some (.int _ s) => s | _ => 0
theorem IsCheck.st {r : List AV} (h : IsCheck r) : r[3]? = some (.int .i64 (stOf r)) := by
  obtain ⟨_, _, s, hs⟩ := h
  rw [hs]; simp [stOf, hs]
def worse (m : Int) (r : List AV) : Int := if stOf r > m then stOf r else m
def worst (rows : List (List AV)) : Int := rows.foldl worse 1
theorem worst_next {rows : List (List AV)} {i : Nat} {r : List AV} (h : rows[i]? = some r) : worst (rows.take (i + 1)) = worse (worst (rows.take i)) r := by
  unfold worst
  rw [List.take_add_one, h, List.foldl_append]
  rfl
theorem flat_ok : ∀ {rows : List (List AV)}, (∀ r ∈ rows, cellsOk r = true) → cellsOk rows.flatten = true
  | [], _ => rfl
  | r :: rows, h => by
    have h1 := h r List.mem_cons_self
    have h2 := flat_ok (fun r hr => h r (List.mem_cons_of_mem _ hr))
    rw [List.flatten_cons]
    clear h
    induction r with
    | nil => exact h2
    | cons a r ih =>
      simp only [cellsOk, Bool.and_eq_true] at h1
      simp only [List.cons_append, cellsOk, Bool.and_eq_true]
      exact ⟨h1.1, ih h1.2⟩

section
variable {ov : CallF}

theorem worst_ok (hov : ∀ a h, ov 6 a h = none) {h : Heap} (hw : Wf h) {v : AV} {rows : List (List AV)} (hs : Slr h 7 v rows) (hc : ∀ r ∈ rows, IsCheck r) (hn : rows.length ≤ 1000000000000000) :
    ∃ h', callT ov Tryz.prog 6 [v] h = some (.ret (.int .i64 (worst rows)) h') ∧ Keep [] h h' := by
  have main : ∃ u g, callT ov Tryz.prog 6 [v] h = some (.ret u g) ∧ u = .int .i64 (worst rows) ∧ Keep [] h g := by
    refine callT_wp (fn := Tryz.f6) (hov _ _) (by kernel_rfl) rfl ?_
    have hl : (frameA Tryz.f6 [v]).length = 18 := frameA_length (Nat.le_of_ble_eq_true rfl)
    have h0 : nth (frameA Tryz.f6 [v]) 0 = v := frameA_nth (Nat.le_of_ble_eq_true rfl)
    generalize frameA Tryz.f6 [v] = e at hl h0
    have hlen := hs.len (P := Tryz.prog) h u22
    apply WP.seq; apply WP.region; simp [hl]
    repeat apply WP.seq
    apply WP.region; simp [hl]
    repeat apply WP.seq
    apply WP.region; simp [hl, h0, hlen]
    repeat apply WP.seq
    apply WP.block
    refine WP.loop (fun n e g => Keep [] h g ∧ e.length = 18 ∧ nth e 6 = v ∧ nth e 7 = .int .i64 rows.length ∧ ∃ i, i ≤ rows.length ∧ n = rows.length - i ∧ nth e 8 = .int .i64 (i : Nat) ∧ nth e 3 = .int .i64 (worst (rows.take i))) ?_ rows.length _ _ ?_
    · rintro n e g ⟨hk, hl, h6, h7, i, hi, rfl, h8, h3⟩
      have hs' : Slr g 7 v rows := hs.keep' hk (by simp)
      repeat apply WP.seq
      apply WP.region; simp [hl, h7, h8]
      repeat apply WP.seq
      apply WP.cond (by simp [hl]; rfl)
      · intro hlt1
        have hlt1 : i < rows.length := by simpa using hlt1
        apply WP.skip; simp
        repeat apply WP.seq
        apply WP.block
        obtain ⟨r, hr⟩ : ∃ r, rows[i]? = some r := ⟨rows[i], by simp [hlt1]⟩
        have hcr := hc r (List.mem_of_getElem? hr)
        obtain ⟨l1, hl1, hl1', _⟩ := hs'.at u22 sz56 ag56 hr (k := .i64)
        have hg0 : (g.alloc (.cells zero56 (.var 56))).get g.next = some (.cells zero56 (.var 56)) := Heap.get_alloc _ _
        have hst := store_agg sz56 hg0 (by simp) hcr.1 rfl hcr.2.1
        have hk1 := hk.alloc (.cells zero56 (.var 56))
        have hk2 := hk1.set (i := g.next) (.cells r (.var 56)) (by simp [Heap.next_alloc]) (.inr hk.le)
        have hg1 : ((g.alloc (.cells zero56 (.var 56))).set g.next (.cells r (.var 56))).get g.next = some (.cells r (.var 56)) := Heap.get_set _ _ _
        have hld : loadA Tryz.prog ((g.alloc (.cells zero56 (.var 56))).set g.next (.cells r (.var 56))) 3 ⟨g.next, 3⟩ = some (.int .i64 (stOf r)) := load_cell ag3 hg1 hcr.st
        repeat apply WP.seq
        apply WP.region; simp [hl, h6, h8, hl1, hl1', alloc56, storeR_ptr hst]
        apply WP.region; simp [hl, h3, fa56, hld]
        repeat apply WP.seq
        apply WP.region; simp [hl, h8, int_wrap (show i < 9223372036854775807 by omega)]
        refine ⟨rows.length - (i + 1), by omega, hk2, h6, h7, i + 1, by omega, rfl, by simp, ?_⟩
        rw [worst_next hr]
        rfl
      · intro hge
        have hge : ¬ i < rows.length := by simpa using hge
        have hi' : i = rows.length := by omega
        subst hi'
        apply WP.exit
        simp
        repeat apply WP.seq
        apply WP.region; simp [hl, h3]
        apply WP.ret
        simp [hl, resultsA, resultA, single]
        exact hk
    · refine ⟨Keep.refl hw, by simp [hl], by simp [hl], by simp [hl], 0, by omega, by omega, by simp [hl], by simp [hl, worst]⟩
  obtain ⟨_, g, h1, rfl, h2⟩ := main
  exact ⟨g, h1, h2⟩
theorem worstRef_ok (hov : ∀ a h, ov 7 a h = none) {h : Heap} (hw : Wf h) {v : AV} {rows : List (List AV)} (hs : Slr h 7 v rows) (hc : ∀ r ∈ rows, IsCheck r) (hn : rows.length ≤ 1000000000000000) :
    ∃ h', callT ov Tryz.prog 7 [v] h = some (.ret (.int .i64 (worst rows)) h') ∧ Keep [] h h' := by
  have main : ∃ u g, callT ov Tryz.prog 7 [v] h = some (.ret u g) ∧ u = .int .i64 (worst rows) ∧ Keep [] h g := by
    refine callT_wp (fn := Tryz.f7) (hov _ _) (by kernel_rfl) rfl ?_
    have hl : (frameA Tryz.f7 [v]).length = 20 := frameA_length (Nat.le_of_ble_eq_true rfl)
    have h0 : nth (frameA Tryz.f7 [v]) 0 = v := frameA_nth (Nat.le_of_ble_eq_true rfl)
    generalize frameA Tryz.f7 [v] = e at hl h0
    have hlen := hs.len (P := Tryz.prog) h u22
    apply WP.seq; apply WP.region; simp [hl]
    repeat apply WP.seq
    apply WP.region; simp [hl]
    repeat apply WP.seq
    apply WP.region; simp [hl, h0, hlen]
    repeat apply WP.seq
    apply WP.block
    refine WP.loop (fun n e g => Keep [] h g ∧ e.length = 20 ∧ nth e 6 = v ∧ nth e 7 = .int .i64 rows.length ∧ ∃ i, i ≤ rows.length ∧ n = rows.length - i ∧ nth e 8 = .int .i64 (i : Nat) ∧ nth e 3 = .int .i64 (worst (rows.take i))) ?_ rows.length _ _ ?_
    · rintro n e g ⟨hk, hl, h6, h7, i, hi, rfl, h8, h3⟩
      have hs' : Slr g 7 v rows := hs.keep' hk (by simp)
      repeat apply WP.seq
      apply WP.region; simp [hl, h7, h8]
      repeat apply WP.seq
      apply WP.cond (by simp [hl]; rfl)
      · intro hlt1
        have hlt1 : i < rows.length := by simpa using hlt1
        apply WP.skip; simp
        repeat apply WP.seq
        apply WP.block
        obtain ⟨r, hr⟩ : ∃ r, rows[i]? = some r := ⟨rows[i], by simp [hlt1]⟩
        have hcr := hc r (List.mem_of_getElem? hr)
        obtain ⟨l1, hl1, hl1', _⟩ := hs'.at u22 sz56 ag56 hr (k := .i64)
        have hg0 : (g.alloc (.cells zero56 (.var 56))).get g.next = some (.cells zero56 (.var 56)) := Heap.get_alloc _ _
        have hst := store_agg sz56 hg0 (by simp) hcr.1 rfl hcr.2.1
        have hk1 := hk.alloc (.cells zero56 (.var 56))
        have hk2 := hk1.set (i := g.next) (.cells r (.var 56)) (by simp [Heap.next_alloc]) (.inr hk.le)
        have hg1 : ((g.alloc (.cells zero56 (.var 56))).set g.next (.cells r (.var 56))).get g.next = some (.cells r (.var 56)) := Heap.get_set _ _ _
        have hld : loadA Tryz.prog ((g.alloc (.cells zero56 (.var 56))).set g.next (.cells r (.var 56))) 3 ⟨g.next, 3⟩ = some (.int .i64 (stOf r)) := load_cell ag3 hg1 hcr.st
        repeat apply WP.seq
        apply WP.region; simp [hl, h6, h8, hl1, hl1', alloc56, storeR_ptr hst]
        repeat apply WP.seq
        apply WP.region; simp [hl, h3, fa56, hld]
        have hnx : worst (rows.take (i + 1)) = if stOf r > worst (rows.take i) then stOf r else worst (rows.take i) := worst_next hr
        apply WP.cond (by simp [hl]; rfl)
        · intro hc
          have hc : stOf r > worst (rows.take i) := by simpa using hc
          apply WP.region; simp [hl, fa56, hld]
          repeat apply WP.seq
          apply WP.region; simp [hl, h8, int_wrap (show i < 9223372036854775807 by omega)]
          refine ⟨rows.length - (i + 1), by omega, hk2, h6, h7, i + 1, by omega, rfl, by simp, ?_⟩
          rw [hnx, if_pos hc]
        · intro hc
          have hc : ¬ stOf r > worst (rows.take i) := by simpa using hc
          apply WP.skip; simp
          repeat apply WP.seq
          apply WP.region; simp [hl, h8, int_wrap (show i < 9223372036854775807 by omega)]
          refine ⟨rows.length - (i + 1), by omega, hk2, h6, h7, i + 1, by omega, rfl, by simp, ?_⟩
          rw [hnx, if_neg hc, h3]
      · intro hge
        have hge : ¬ i < rows.length := by simpa using hge
        have hi' : i = rows.length := by omega
        subst hi'
        apply WP.exit
        simp
        repeat apply WP.seq
        apply WP.region; simp [hl, h3]
        apply WP.ret
        simp [hl, resultsA, resultA, single]
        exact hk
    · refine ⟨Keep.refl hw, by simp [hl], by simp [hl], by simp [hl], 0, by omega, by omega, by simp [hl], by simp [hl, worst]⟩
  obtain ⟨_, g, h1, rfl, h2⟩ := main
  exact ⟨g, h1, h2⟩
end
end Go.Am

set_option linter.unusedSimpArgs false
noncomputable section
namespace Go.Am
open Go.RowKit Go.Proofs

theorem worst_law {ov : CallF} (h5 : ∀ h, h.get 0 = some kindsO → ov 5 [] h = some (.ret (.bool true) h)) (h3 : ∀ a h, ov 3 a h = none) (h6 : ∀ a h, ov 6 a h = none) (h7 : ∀ a h, ov 7 a h = none) {h : Heap} (hw : Wf h) (hk0 : h.get 0 = some kindsO)
    {v : AV} {rows : List (List AV)} (hs : Slr h 7 v rows) (hc : ∀ r ∈ rows, IsCheck r) (hn : rows.length * 88 ≤ 140737488355328) : ∃ h', callT ov Tryz.prog 3 [v] h = some (.ret (.bool true) h') := by
  have main : ∃ u g, callT ov Tryz.prog 3 [v] h = some (.ret u g) ∧ u = .bool true := by
    refine callT_wp (fn := Tryz.f3) (h3 _ _) (by kernel_rfl) rfl ?_
    have hl : (frameA Tryz.f3 [v]).length = 13 := frameA_length (Nat.le_of_ble_eq_true rfl)
    have h0 : nth (frameA Tryz.f3 [v]) 0 = v := frameA_nth (Nat.le_of_ble_eq_true rfl)
    generalize frameA Tryz.f3 [v] = e at hl h0
    have c5 : callT ov Tryz.prog 5 [] h = some (.ret (.bool true) h) := callT_ov _ _ (h5 h hk0)
    obtain ⟨v1, g1, ha, hs1, hk1⟩ := Slr.clone (P := Tryz.prog) hw (k := .own (some 56)) u22 sz56 (by omega) hs (flat_ok fun r hr => (hc r hr).2.1) (fun _ => room56 hn)
    have ha' := appA_of ha
    obtain ⟨g2, hc2, hk2⟩ := worst_ok h6 hk1.wf hs1 hc (by omega)
    have hs2 : Slr g2 7 v rows := (hs.keep' hk1 (by simp)).keep' hk2 (by simp)
    obtain ⟨g3, hc3, hk3⟩ := worstRef_ok h7 hk2.wf hs2 hc (by omega)
    apply WP.seq; apply WP.region; simp [hl]
    repeat apply WP.seq
    apply WP.region
    simp [hl, h0, c5, callA_eq, blt5, blt6, blt7, guardA, build22, ha', hc2, hc3]
    apply WP.ret
    simp [hl, resultsA, resultA, single]
  obtain ⟨_, g, h1, rfl⟩ := main
  exact ⟨g, h1⟩
end Go.Am
