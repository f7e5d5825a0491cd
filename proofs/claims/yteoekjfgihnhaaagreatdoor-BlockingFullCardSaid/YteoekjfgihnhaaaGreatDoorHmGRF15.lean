/- Parts of the proof by the abstract machine: SelA, WGen. -/
import Derived.Test.YteoekjfgihnhaaaGreatDoorHmGRF13
import Derived.Conc.LoneSelect
import Derived.KernelRfl
set_option linter.all false
namespace Go.Am
open Go.RowKit Go.Conc

/-- What a piece of code comes to in a frame that is no early one. -/
def wpE (P : Program) (c : Code) (Q : Exit → Act → World → Prop) (a : Act) (w : World) : Prop :=
  ∀ (b : Frame) (k : List Item) (cs : List Frame), b.kind ≠ .early → ∃ e a' w', Q e a' w' ∧ Arrives P (lone (b.at a (.code c :: k)) cs w) b k cs e a' w'

section
variable {P : Program} {Q : Exit → Act → World → Prop} {a : Act} {w : World}
theorem wpE_of {c : Code} (h : c.wp P Q a w) : wpE P c Q a w := fun b k cs _ => h b k cs
theorem wpE_seq {x y : Code} (h : wpE P x (Exit.then (wpE P y Q) Q) a w) : wpE P (.seq x y) Q a w := by
  intro b k cs hb
  obtain ⟨e, a₁, w₁, hq, harr⟩ := h b (.code y :: k) cs hb
  cases e with
  | normal =>
    obtain ⟨e₂, a₂, w₂, hq₂, harr₂⟩ := hq b k cs hb
    exact ⟨e₂, a₂, w₂, hq₂, .of_steps (.head step_seq harr) harr₂⟩
  | exit id => exact ⟨_, a₁, w₁, hq, .of_steps (.one step_seq) (.pass (x := .code y) rfl (fun _ _ => .inl (by simp)) harr)⟩
  | goto l => exact ⟨_, a₁, w₁, hq, .of_steps (.one step_seq) (.pass (x := .code y) rfl (fun _ _ => .inl (by simp)) harr)⟩
  | ret => exact ⟨_, a₁, w₁, hq, .of_steps (.one step_seq) (.pass (x := .code y) rfl (fun _ _ => .inl (by simp)) harr)⟩
  | panic ch => exact ⟨_, a₁, w₁, hq, .of_steps (.one step_seq) (.pass (x := .code y) rfl (fun _ _ => .inl (by simp)) harr)⟩
  | outgrown => exact ⟨_, a₁, w₁, hq, .of_steps (.one step_seq) (.pass (x := .code y) rfl (fun _ _ => .inl (by simp)) harr)⟩

theorem calls_of_wpE {f : FuncId} {fn : Func} {c : Code} {args : Array Value} {R : Ending → World → Prop} (hf : P.funcs[f]? = some fn) (hb : fn.body = some c)
    (h : wpE P c (bodyPostD P fn R) { tmps := args ++ Array.replicate (fn.ntmps - args.size) undef, defers := [] } w) : Calls P f args w R := by
  intro cs
  let b : Frame := { (default : Frame) with fn := f, kind := .normal }
  have henter : Frame.enter P f args .normal =
      b.at { tmps := args ++ Array.replicate (fn.ntmps - args.size) undef, defers := [] } [.code c] := by
    simp [Frame.enter, Frame.at, hf, hb, b]
  obtain ⟨e, a', w', hq, harr⟩ := h b [] cs (by simp [b])
  rw [← henter] at harr
  cases e with
  | normal =>
    obtain ⟨e', w'', fr', hR, hs, hfn, hl⟩ := leaves_steps a'.defers .returning w' { b.at a' [] with mode := .returning } cs rfl rfl rfl hf rfl hq
    exact ⟨e', w'', fr', hR, Comes.of_steps (Steps.trans harr (.one step_end)) hs, hfn, hl⟩
  | ret =>
    obtain ⟨todo, hs₀⟩ := harr
    obtain ⟨e', w'', fr', hR, hs, hfn, hl⟩ := leaves_steps a'.defers .returning w' { b.at a' todo with mode := .returning } cs rfl rfl rfl hf rfl hq
    exact ⟨e', w'', fr', hR, Comes.of_steps hs₀ hs, hfn, hl⟩
  | panic chain =>
    obtain ⟨todo, hs₀⟩ := harr
    obtain ⟨e', w'', fr', hR, hs, hfn, hl⟩ := leaves_steps a'.defers (.panicking chain) w' { b.at a' todo with mode := .panicking chain } cs rfl rfl rfl hf rfl hq
    exact ⟨e', w'', fr', hR, Comes.of_steps hs₀ hs, hfn, hl⟩
  | exit id => exact hq.elim
  | goto l => exact hq.elim
  | outgrown => exact ⟨.outgrown, w', b, hq, harr.resolve_left (by simp [b]), rfl, trivial⟩
end

def QOut (φ : List Emb) (Q : Exit → Act → World → Prop) (o : Out) (a : Act) (w : World) : Prop :=
  match o with
  | .normal => Q .normal a w
  | .exit id => Q (.exit id) a w
  | .ret => Q .ret a w
  | .pan v => ∀ v', V φ v v' → Q (.panic [{ v := v', recovered := false }]) a w
abbrev PostX := Out → List AV → Heap → Prop
def WPX (P : Program) (c : Code) (e : List AV) (h : Heap) (K : PostX) : Prop :=
  ∀ (w0 : World) (φ : List Emb) (w : World) (a : Act) (Q : Exit → Act → World → Prop), R P φ h w0 w → Vs φ e a.tmps.toList →
    (∀ o e' h', K o e' h' → ∀ φ' w' a', Up φ φ' → R P φ' h' w0 w' → Vs φ' e' a'.tmps.toList → a'.defers = a.defers → QOut φ' Q o a' w') → wpE P c Q a w

section
variable {P : Program} {ov : CallF} {e : List AV} {h : Heap} {K : PostX}
theorem WPX.plain (hF : Fns P) (hm : P.follows .mixedOrders = true) (hov : CallsOk P ov) {c : Code} (hw : WP ov P c e h K) : WPX P c e h K := by
  unfold WP at hw
  obtain ⟨o, e', h', ⟨n, hr⟩, hk⟩ := hw
  intro w0 φ w a Q hR he hq
  refine wpE_of (wpIn_wide.1 (execA_wp (ρ := none) hF (drawA_ok hF hm) (callT_ok ov P hF hm hov) c Q φ e h w a _ hR he hr ?_))
  intro φ' w' a' hu hR' he' hd'
  have := hq o e' h' hk φ' w' a' hu hR' he' hd'
  cases o <;> exact this
def seqX (P : Program) (b : Code) (K : PostX) : PostX
  | .normal, e, h => WPX P b e h K
  | o, e, h => K o e h
theorem WPX.seq {a b : Code} (hw : WPX P a e h (seqX P b K)) : WPX P (.seq a b) e h K := by
  intro w0 φ w ac Q hR he hq
  refine wpE_seq (hw w0 φ w ac _ hR he ?_)
  intro o e' h' hk φ' w' a' hu hR' he' hd
  cases o with
  | normal => exact hk w0 φ' w' a' Q hR' he' (fun o e'' h'' hk' φ'' w'' a'' hu' hR'' he'' hd' => hq o e'' h'' hk' φ'' w'' a'' (hu.trans hu') hR'' he'' (hd'.trans hd))
  | exit i => exact hq _ e' h' hk φ' w' a' hu hR' he' hd
  | ret => exact hq _ e' h' hk φ' w' a' hu hR' he' hd
  | pan v => exact hq _ e' h' hk φ' w' a' hu hR' he' hd

theorem WPX.select (hF : Fns P) (hm : P.follows .mixedOrders = true) (hov : CallsOk P ov) {id : Nat} {ops : Array Oper} {rest : List Oper} {d : Tmp} {x : Operand} {t ty : TypeId} {pos : String} {after : Array Edge} {i : Nat} {closed : Bool} {z : AV}
    (hops : ops.toList = ⟨some d, .select #[⟨x, none, t⟩] false, ty, pos, after, none⟩ :: rest) (hx : evalA P e x = .chan (some i)) (hg : h.get i = some (.chan 0 [] closed)) (hz : zeroA P t = some z)
    (hw : W K (opsA (callT ov P) P ops rest (e.set d (.tuple [.int .i64 (bif closed then 0 else -1), .bool false, z])) h)) : WPX P (.region id ops false) e h K := by
  intro w0 φ w a Q hR he hq b k cs hb
  obtain ⟨zv, hzr, hzv⟩ := run_zeroA hz w
  have hxv := evalA_V hR he x
  rw [hx] at hxv
  simp only [V] at hxv
  obtain ⟨em, hem, hxa⟩ := hxv
  obtain ⟨em', hem', ⟨B, s, rc, hc, hB⟩, _⟩ := hR.objs _ _ hg
  rw [hem] at hem'; cases hem'
  have hBe : B = #[] := by rw [Vs_nil] at hB; exact Array.ext' (by simpa using hB)
  subst hBe
  have ho : ops[0]? = some ⟨some d, .select #[⟨x, none, t⟩] false, ty, pos, after, none⟩ := by rw [← Array.getElem?_toList, hops]; rfl
  have hrun : (execOp a.eval ⟨some d, .select #[⟨x, none, t⟩] false, ty, pos, after, none⟩).run P w = .ok (.comm #[rcase em.blk zv] false .select) w := by
    simp [execOp, rcase, hxa, hzr]
  have hsize : ops.size = rest.length + 1 := by rw [← Array.length_toList, hops]; rfl
  have hrange : List.range ops.size = 0 :: List.range' 1 rest.length := by
    rw [List.range_eq_range', hsize, List.range'_succ]
  have hcomm := stepG_comm (P := P) (main := true) (b := b) (k := k) (cs := cs) (rest := List.range' 1 rest.length) ho (by rfl) hb hrun
  have hfin : ∀ v, (b.at a (.inRegion ops (0 :: List.range' 1 rest.length) :: k)).finish v = b.at (a.put (some d) v) (.inRegion ops (List.range' 1 rest.length) :: k) := by
    intro v; rw [Frame.finish_at, ho]; rfl
  have hstep : step P (lone (b.at a (.inRegion ops (0 :: List.range' 1 rest.length) :: k)) cs w) = .next (lone (b.at (a.put (some d) (.tuple #[goInt (bif closed then 0 else -1), .bool false, zv])) (.inRegion ops (List.range' 1 rest.length) :: k)) cs w) := by
    rw [← hfin, lone_eq_solo, lone_eq_solo]
    cases closed with
    | true => exact step_lone_select_recv_shut hcomm hc
    | false => exact step_lone_select_default hcomm hc
  -- the rest
  generalize hr : opsA (callT ov P) P ops rest (e.set d (.tuple [.int .i64 (bif closed then 0 else -1), .bool false, z])) h = r at hw
  cases r with
  | none => rw [W_none] at hw; exact hw.elim
  | some x =>
    obtain ⟨o, e', h'⟩ := x
    rw [W_some] at hw
    have hops' : ops.toList.drop 1 = rest := by rw [hops]; rfl
    have he' : Vs φ (e.set d (.tuple [.int .i64 (bif closed then 0 else -1), .bool false, z])) (a.put (some d) (.tuple #[goInt (bif closed then 0 else -1), .bool false, zv])).tmps.toList := by
      have := putA_V he (some d) (v := .tuple [.int .i64 (bif closed then 0 else -1), .bool false, z]) (v' := .tuple #[goInt (bif closed then 0 else -1), .bool false, zv]) (by
        simp only [V]
        refine ⟨_, rfl, ?_⟩
        simp only [Vs_cons]
        exact ⟨by simp [V, goInt], by simp [V], hzv φ, by simp [Vs]⟩)
      simpa [putA] using this
    have hwp := opsA_wp (ρ := none) hF (callT_ok ov P hF hm hov) (w0 := w0) (Q := Q) rest 1 hops' φ _ h w (a.put (some d) (.tuple #[goInt (bif closed then 0 else -1), .bool false, zv])) _ hR he' hr (by
      intro φ' w' a' hu hR' he'' hd
      have := hq o e' h' hw φ' w' a' hu hR' he'' (by rw [hd, put_defers'])
      cases o <;> exact this)
    obtain ⟨ex, a', w', hQ, harr⟩ := wp_opsIn _ _ _ hwp { b with roundOf := none } k cs rfl trivial (room_wide _)
    have harr := (arrivesIn_iff (b := { b with roundOf := none }) (fun _ _ => stepsIn_wide) rfl).1 harr
    refine ⟨ex, a', w', hQ, .of_steps (.head step_region (.one ?_)) harr⟩
    rw [hrange]
    exact hstep

/-- A function with such a select. -/
theorem callX (hF : Fns P) {f : FuncId} {fn : Func} {c : Code} (hf : P.funcs[f]? = some fn) (hb : fn.body = some c) {args : List AV} {v : AV} {hr : Heap}
    (hw : WPX P c (frameA fn args) h (fun o e h' => (o = .normal ∨ o = .ret) ∧ ∃ vs, resultsA P e h' fn.results.toList = some vs ∧ v = single vs ∧ hr = h')) : CallOk P f args h (.ret v hr) := by
  intro φ w0 w args' hR ha
  rw [if_pos (Array.getElem?_eq_some_iff.1 hf).1]
  refine .inl ⟨callFunc_run hF hf hb _ _, calls_of_wpE hf hb ?_⟩
  have hlen : args'.size = args.length := by rw [← Array.length_toList, ha.length]
  have hframe : Vs φ (frameA fn args) (args' ++ Array.replicate (fn.ntmps - args'.size) undef).toList := by
    simp only [frameA, Array.toList_append, Array.toList_replicate]
    refine ha.append (Vs.of_get (by simp [hlen]) fun i a v h1 h2 => ?_)
    rw [List.getElem?_replicate] at h1 h2
    split at h1
    · cases h1
      split at h2
      · cases h2; exact undef_V φ
      · cases h2
    · cases h1
  refine hw w0 φ w _ _ hR hframe ?_
  rintro o e' h' ⟨ho, vs, hvs, rfl, rfl⟩ φ' w' a' hu hR' he' hd'
  obtain ⟨u, h1, h2⟩ := results_run hR' he' hvs
  have hd' : a'.defers = [] := hd'
  have hl : Leaves P fn a'.tmps (PostC P φ w0 (.ret (single vs) hr)) a'.defers .returning w' := by
    rw [hd']
    exact ⟨u, h1, φ', u, rfl, hu, hR', h2⟩
  rcases ho with rfl | rfl
  · exact hl
  · exact hl
end
end Go.Am

noncomputable section
namespace Go.Am
open Go.RowKit

attribute [simp] sim_nil sim_cons stepR_ret stepR_none sim_guard gstep_true gstep_false ev_tmp ev_func ev_int ev_bool ev_nilptr ev_nilslice ev_nilIface ev_nilFunc ev_nilmap op_move op_assign op_pick pickA_bool op_alloc op_box op_build op_buildSlice op_load loadR_ptr op_store op_nilCheck op_binOp op_unOp op_convert op_makeInterface op_makeFunc op_makeSlice op_slice op_fieldAddr op_field op_indexAddr op_index op_typeAssert op_extract op_builtin bi_len bi_append bi_copy bi_max2 bi_min2 maxA_two minA_two op_callv valR_func evals_nil evals_cons parts_nil parts_cons evalO_none evalO_some withH_ret toRet_ret toRet_withH bin_add bin_sub bin_mul bin_eql bin_neq bin_lss bin_leq bin_gtr bin_geq un_not nilCheck_ptr nilCheck_iface nilCheck_func
attribute [simp] W_some seqK_normal seqK_exit seqK_ret blockK_same blockK_normal blockK_ret loopK_normal loopK_exit loopK_ret nth_set_eq nth_set_ne

theorem frameA_length {fn : Func} {args : List AV} (h : args.length ≤ fn.ntmps) : (frameA fn args).length = fn.ntmps := by
  simp only [frameA, List.length_append, List.length_replicate]; omega
theorem nth_append_left : ∀ {xs ys : List AV} {i : Nat}, i < xs.length → nth (xs ++ ys) i = nth xs i
  | _ :: _, _, 0, _ => rfl
  | _ :: xs, ys, i + 1, h => by simp only [List.cons_append, nth]; exact nth_append_left (by simpa using h)
theorem frameA_nth {fn : Func} {args : List AV} {i : Nat} (h : i < args.length) : nth (frameA fn args) i = nth args i := nth_append_left h
theorem store_agg {P : Program} {h : Heap} {t : TypeId} {i n : Nat} {cs r : List AV} {k : Kind} (hs : sizeA P t = some n) (hg : h.get i = some (.cells cs k)) (hk : k ≠ .ro) (hr : r.length = n) (hc : cs.length = n) (hok : cellsOk r = true) : storeA P h t ⟨i, 0⟩ (.agg r) = some (h.set i (.cells r k)) := by
  have hov : over cs 0 r = r := by
    unfold over
    rw [List.take_zero, List.nil_append, List.drop_eq_nil_of_le (by omega), List.append_nil]
  have hb : (cellsOk r && Nat.ble (0 + r.length) cs.length) = true := by
    rw [Bool.and_eq_true, ble_iff]
    exact ⟨hok, by omega⟩
  have hbb : Nat.beq r.length n = true := by rw [hr]; exact Nat.beq_refl n
  simp only [storeA, hs, cellsA, hbb, cond_true, writeA, hg]
  cases k with
  | ro => exact absurd rfl hk
  | own => simp only [hb, cond_true, hov]
  | var => simp only [hb, cond_true, hov]
  | str => simp only [hb, cond_true, hov]
/-- A region, by what it leaves. -/
theorem WP.regionS {ov : CallF} {P : Program} {id : Nat} {ops : Array Oper} {e : List AV} {h : Heap} {K : Post} (Φ : List AV → Heap → Prop) (hw : W (fun o e h => o = .normal ∧ Φ e h) (opsA (callT ov P) P ops ops.toList e h)) (hk : ∀ e h, Φ e h → K .normal e h) : WP ov P (.region id ops false) e h K := by
  refine WP.mono (WP.region hw) ?_
  rintro o e h ⟨rfl, hp⟩
  exact hk e h hp
@[simp] theorem ev_strc {P : Program} {e : List AV} {b : Array UInt8} : evalA P e (.const (.string ⟨b⟩)) = .str b.toList := by simp [evalA, ofValue, ofScalar]
theorem Sl.clone {P : Program} {h : Heap} (hw : Wf h) {k : Kind} {t el : TypeId} (hu : P.underlying t = some (.slice el)) (h1 : sizeA P el = some 1) {xs : List AV} {y : AV} (hy : Sl h y xs) (hok : cellsOk xs = true) (hroom : xs ≠ [] → roomA P el xs.length = true) :
    ∃ v' h', appendA P (h.alloc (.cells [] k)) t t (.slice (some ⟨h.next, 0⟩) 0 (.exact 0)) y = some (v', h') ∧ Sl h' v' xs ∧ Keep [] h h' := by
  have hk := (Keep.refl (ex := []) hw).alloc (.cells [] k)
  have hy' : Sl (h.alloc (.cells [] k)) y xs := hy.keep' hk (by simp)
  have hsrc := hy'.src (P := P) hu hok
  cases hn2 : xs.length with
  | zero =>
    have : xs = [] := List.length_eq_zero_iff.1 hn2
    subst this
    refine ⟨.slice (some ⟨h.next, 0⟩) 0 (.exact 0), _, ?_, ⟨⟨rfl, Nat.le_refl _⟩, .inl rfl⟩, hk⟩
    simp only [appendA, hu, h1, hsrc, List.length_nil, appendCore]
  | succ m =>
    rw [hn2] at hsrc hroom
    have hne : xs ≠ [] := by intro hh; simp [hh] at hn2
    have hroom := hroom hne
    have hg : (h.alloc (.cells [] k)).get h.next = some (.cells [] k) := Heap.get_alloc _ _
    have hb : Nat.ble (0 + (m + 1)) 0 = false := by simp [Nat.ble]
    have hrd : readA (h.alloc (.cells [] k)) ⟨h.next, 0⟩ (0 * 1) = some [] := by
      simp only [readA, hg, Nat.zero_mul, List.length_nil]; rfl
    refine ⟨.slice (some ⟨h.next + 1, 0⟩) (0 + (m + 1)) (.tip 1), (h.alloc (.cells [] k)).alloc (.cells xs (.own (some el))), ?_, ⟨⟨by simp [hn2], rfl⟩, .inr ⟨_, .own (some el), Heap.get_alloc _ _, ?_, ?_⟩⟩, hk.alloc _⟩
    · simp only [Nat.zero_add] at hroom hb ⊢
      simp only [appendA, hu, h1, hsrc, appendCore, Nat.zero_add, hroom, cond_true, hb, cond_false, hrd, List.nil_append, Heap.next_alloc]
    · show 0 + (0 + (m + 1)) ≤ xs.length; omega
    · rw [List.drop_zero, Nat.zero_add, ← hn2, List.take_length]
end Go.Am
