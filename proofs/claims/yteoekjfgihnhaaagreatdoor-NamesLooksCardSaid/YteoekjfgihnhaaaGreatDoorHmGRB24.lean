/- Parts of the proof by the abstract machine: ExW, ExM, InsM, ExB. -/
import Derived.Test.YteoekjfgihnhaaaGreatDoorHmGRB23
import Derived.Test.YteoekjfgihnhaaaGreatDoorHmGRB22
import Derived.Test.YteoekjfgihnhaaaGreatDoorHmGRB16
import Derived.Laws.AppendOwn
set_option linter.all false
noncomputable section
namespace Go.Am
open Go.RowKit

section
variable {P : Program} {call : CallM} {plan : FuncId → Nat → Option Plan} {n N fid : Nat}

theorem hasBody_some {g : FuncId} (h : hasBody P g = true) : ∃ fn c, P.funcs[g]? = some fn ∧ fn.body = some c := by
  unfold hasBody at h
  cases hf : P.funcs[g]? with
  | none => rw [hf] at h; cases h
  | some fn =>
    rw [hf] at h
    have h1 : fn.body.isSome = true := h
    cases hb : fn.body with
    | none => rw [hb] at h1; cases h1
    | some c => exact ⟨fn, c, rfl, hb⟩
theorem goes_enter (hF : Fns P) {g : FuncId} {fn : Func} {c : Code} (hf : P.funcs[g]? = some fn) (hb : fn.body = some c) {args : Array Value} {w : World} {Post : Ending → World → Prop} (h : Goes P g args w Post) : Calls P g args w Post := by
  rcases h with ⟨_, h2⟩ | ⟨v, w', h1, _⟩
  · exact h2
  · rw [callFunc_run hF hf hb] at h1; cases h1

/-- An own loop's record in the world. -/
theorem loop_obj {φ : List Emb} {h : Heap} {w0 w : World} (hR : R P φ h w0 w) {k : Nat} {st : LoopState} {pend : Option Code} {m : Nat} {e : Env} {ps : Array Tmp} {a b : Code} {d : Nat} (hg : h.get k = some (.loop st pend m e ps a b d)) {ek : Emb} (hk : φ[k]? = some ek) :
    ∃ fn T ed, w.heap[ek.blk]? = some (.loop { state := st, pending := pend, fn, tmps := T, params := ps, assign := a, body := b, defers := ed.blk }) ∧ T.size = m ∧ VE φ e T ∧ φ[d]? = some ed := by
  obtain ⟨e', he', ho, _⟩ := hR.objs k _ hg
  rw [hk] at he'; cases he'
  exact ho

theorem rangeFunc_wp (hF : Fns P) (hcall : CallMOk P call) (hn : n ≤ 256) {f : Operand} {ps : Array Tmp} {x y : Code} {κ : KO} {e : Env} {h : Heap} {ds : List DVM} {L L' : List Res} (hr : rangeM P call n (srcOf P n f) ps x y κ e h ds = some L') (hs : ∀ r ∈ L', r ∈ L)
    {Q : Exit → Act → World → Prop} {φ : List Emb} {w0 w : World} {a : Act} (hR : R P φ h w0 w) (he : Vs φ (envL n e) a.tmps.toList) (hd : DS φ ds a.defers) (hκ : ∀ o, SX P φ w0 n L (QO Q o) (κ o)) : cwp none P (.rangeFunc f ps x y) Q a w := by
  obtain ⟨g, first, cap, l0, hf, hb, hc, hout⟩ := rangeM_inv hr
  obtain ⟨fn0, c0, hfn, hbd⟩ := hasBody_some hb
  have hsz : a.tmps.size = n := by rw [← Array.length_toList, he.length, envL_length]
  have hev := evalA_V hR he f
  rw [hf] at hev
  simp only [V] at hev
  obtain ⟨vx, vy, hfv, hvx, hvy⟩ := hev
  refine wpIn_rangeFunc fun fn _ => ?_
  -- the two blocks
  have hR1 : R P (φ ++ [⟨w.heap.size, 0, 0⟩]) (h.alloc .defs) w0 (w.alloc (.deferred (some []))) :=
    R.alloc hR .defs (.deferred (some [])) 0 rfl rfl rfl rfl (World.alloc_heap_new w _)
  have hsz1 : (w.alloc (.deferred (some []))).heap.size = w.heap.size + 1 := World.size_alloc _ _
  have hu1 : Up φ (φ ++ [⟨w.heap.size, 0, 0⟩]) := Up.snoc _ _
  have hk0 : (φ ++ [⟨w.heap.size, 0, 0⟩])[h.next]? = some ⟨w.heap.size, 0, 0⟩ := by rw [← hR.len]; simp
  have hVE : VE φ e a.tmps := VE_of_Vs hn he
  have hu2 : Up (φ ++ [⟨w.heap.size, 0, 0⟩]) (φ ++ [⟨w.heap.size, 0, 0⟩] ++ [⟨(w.alloc (.deferred (some []))).heap.size, 0, 0⟩]) := Up.snoc _ _
  have hR2 : R P (φ ++ [⟨w.heap.size, 0, 0⟩] ++ [⟨(w.alloc (.deferred (some []))).heap.size, 0, 0⟩]) ((h.alloc .defs).alloc (.loop .ready none n e ps x y h.next)) w0
      ((w.alloc (.deferred (some []))).alloc (.loop { state := .ready, pending := none, fn, tmps := a.tmps, params := ps, assign := x, body := y, defers := w.heap.size })) :=
    R.alloc hR1 (.loop .ready none n e ps x y h.next) (.loop { state := .ready, pending := none, fn, tmps := a.tmps, params := ps, assign := x, body := y, defers := w.heap.size }) 0 rfl rfl rfl rfl
      ⟨fn, a.tmps, ⟨w.heap.size, 0, 0⟩, World.alloc_heap_new _ _, hsz, (hVE.up hu1).up hu2, hu2.get hk0⟩
  have hk1 : (φ ++ [⟨w.heap.size, 0, 0⟩] ++ [⟨(w.alloc (.deferred (some []))).heap.size, 0, 0⟩])[h.next + 1]? = some ⟨w.heap.size + 1, 0, 0⟩ := by
    have : h.next + 1 = (φ ++ [(⟨w.heap.size, 0, 0⟩ : Emb)]).length := by simp [hR.len]
    rw [this, hsz1]; simp
  have huu := hu1.trans hu2
  refine ⟨w.heap.size + 1, [{ target := .collected w.heap.size, args := #[] }], ((w.alloc (.deferred (some []))).alloc (.loop { state := .ready, pending := none, fn, tmps := a.tmps, params := ps, assign := x, body := y, defers := w.heap.size })), { target := .fn (.func g) vy, args := vx ++ #[.func (.yield (w.heap.size + 1)) #[] #[]] }, ((w.alloc (.deferred (some []))).alloc (.loop { state := .ready, pending := none, fn, tmps := a.tmps, params := ps, assign := x, body := y, defers := w.heap.size })), g, (vx ++ #[.func (.yield (w.heap.size + 1)) #[] #[]]) ++ vy, ((w.alloc (.deferred (some []))).alloc (.loop { state := .ready, pending := none, fn, tmps := a.tmps, params := ps, assign := x, body := y, defers := w.heap.size })),
    run_enterLoop_outer fn a.tmps ps x y, ?_, fun _ _ => trivial, ?_, ?_, ?_⟩
  · simp only [resolve, hfv, Deferred.ofValue, Sem.run_pure, Sem.run_bind, Result.andThen_ok]
    simp [Act.eval]
  · simp only [invoke]
    exact callFunc_run hF hfn hbd _ _
  · intro h0; cases h0
  · have hVs : Vs (φ ++ [⟨w.heap.size, 0, 0⟩] ++ [⟨(w.alloc (.deferred (some []))).heap.size, 0, 0⟩]) ((first ++ [.yield (h.next + 1)]) ++ cap) ((vx ++ #[Value.func (.yield (w.heap.size + 1)) #[] #[]]) ++ vy).toList := by
      simp only [Array.toList_append]
      refine ((Vs.up huu _ _ hvx).append ?_).append (Vs.up huu _ _ hvy)
      rw [Vs_cons]
      refine ⟨?_, by simp [Vs]⟩
      simp only [V]
      exact ⟨_, hk1, rfl⟩
    have hgo := hcall.post _ _ _ _ hc _ w0 _ _ hR2 hVs
    rw [if_pos (Array.getElem?_eq_some_iff.1 hfn).1] at hgo
    refine callsR.2 ((goes_enter hF hfn hbd hgo).mono ?_)
    rintro ed w3 ⟨p, hp, φ3, v3, rfl, hu3, hR3, _⟩
    obtain ⟨L'', h5, h6⟩ := hout.1 p hp
    obtain ⟨st, pend, m, e', ps', a', b', d, o, hg, hst, hcase, hkk⟩ := rangeEnd_inv h5
    have hk3 := hu3.get hk1
    obtain ⟨fn', T', ed', hobj, _, _, _⟩ := loop_obj hR3 hg hk3
    have hend := run_endLoop (P := P) hobj hst
    have hR4 : R P φ3 (p.2.del (h.next + 1)) w0 (w3.putObj (w.heap.size + 1) (.loop { state := .exhausted, pending := pend, fn := fn', tmps := T', params := ps', assign := a', body := b', defers := ed'.blk })) :=
      R.forget hR3 hg rfl hk3 (fun k hk => putObj_other hk) (by simp) rfl rfl rfl
    have huT := huu.trans hu3
    have hq := hκ o e _ _ L'' hkk (fun r hr => hs r (h6 r hr)) φ3 _ { a with defers := [{ target := .collected w.heap.size, args := #[] }] ++ a.defers } huT hR4 (Vs.up huT _ _ he)
      ⟨⟨w.heap.size, 0, 0⟩, a.defers, hu3.get (hu2.get hk0), rfl, hd.up huT⟩
    refine ⟨pend, _, hend, ?_⟩
    rcases hcase with ⟨rfl, rfl⟩ | ⟨rfl, rfl⟩ | ⟨i, rfl, rfl⟩
    · exact hq
    · exact wpIn_ret hq
    · exact wpIn_exit hq

theorem exM_wp (hF : Fns P) (hm : P.follows .mixedOrders = true) (hcall : CallMOk P call) (hn : n ≤ 256) {inR : Bool} {ρ : Option Nat} (hro : inR = false → ρ = none) {L : List Res} {w0 : World} : ∀ (c : Code) (κ : KO) (Q : Exit → Act → World → Prop) (φ : List Emb) (e : Env) (h : Heap) (ds : List DVM) (L' : List Res) (w : World) (a : Act),
    exM P (drawX P plan) call inR fid n N c κ e h ds = some L' → (∀ r ∈ L', r ∈ L) → R P φ h w0 w → Vs φ (envL n e) a.tmps.toList → DS φ ds a.defers → (∀ o, SX P φ w0 n L (QO Q o) (κ o)) → cwp ρ P c Q a w
  | .skip, κ, Q, φ, e, h, ds, L', w, a, hr, hs, hR, he, hd, hκ => wpIn_skip (hκ .normal e h ds L' hr hs φ w a (Up.refl _) hR he hd)
  | .label _, κ, Q, φ, e, h, ds, L', w, a, hr, hs, hR, he, hd, hκ => wpIn_label (hκ .normal e h ds L' hr hs φ w a (Up.refl _) hR he hd)
  | .exit i, κ, Q, φ, e, h, ds, L', w, a, hr, hs, hR, he, hd, hκ => wpIn_exit (hκ (.exit i) e h ds L' hr hs φ w a (Up.refl _) hR he hd)
  | .ret, κ, Q, φ, e, h, ds, L', w, a, hr, hs, hR, he, hd, hκ => wpIn_ret (hκ .ret e h ds L' hr hs φ w a (Up.refl _) hR he hd)
  | .region id ops dr, κ, Q, φ, e, h, ds, L', w, a, hr, hs, hR, he, hd, hκ => by
    cases dr with
    | true => exact drawX_wp hF hm hcall hn hr hs hR he hd (hκ .normal)
    | false =>
      have hr1 : opsM call (compOps P inR n ops) (κ .normal) e h ds = some L' := hr
      rw [compOps, mapF_eq] at hr1
      refine wpIn_region ?_
      have := opsM_wp (ops := ops) hF hcall hn hro ops.toList 0 rfl e h ds L' φ w a hr1 hs hR he hd (hκ .normal)
      rw [Array.length_toList] at this
      rw [List.range_eq_range']
      exact this
  | .seq x y, κ, Q, φ, e, h, ds, L', w, a, hr, hs, hR, he, hd, hκ => by
    refine wpIn_seq (exM_wp hF hm hcall hn hro x _ _ φ e h ds L' w a hr hs hR he hd fun o => ?_)
    intro e' h' ds' L'' hk hs' φ' w' a' hu hR' he' hd'
    cases o with
    | normal => exact exM_wp hF hm hcall hn hro y κ Q φ' e' h' ds' L'' w' a' hk hs' hR' he' hd' (fun o => (hκ o).up hu)
    | exit i => exact hκ (.exit i) e' h' ds' L'' hk hs' φ' w' a' hu hR' he' hd'
    | ret => exact hκ .ret e' h' ds' L'' hk hs' φ' w' a' hu hR' he' hd'
    | pan v => trivial
  | .cond c x y, κ, Q, φ, e, h, ds, L', w, a, hr, hs, hR, he, hd, hκ => by
    obtain ⟨t, hc, hr1⟩ := condM_inv (x := exM P (drawX P plan) call inR fid n N x κ) (y := exM P (drawX P plan) call inR fid n N y κ) hr
    have hv := evalA_V hR he c
    rw [hc] at hv
    simp only [V] at hv
    cases t with
    | true => exact wpIn_cond_true hv (exM_wp hF hm hcall hn hro x κ Q φ e h ds L' w a hr1 hs hR he hd hκ)
    | false => exact wpIn_cond_false hv (exM_wp hF hm hcall hn hro y κ Q φ e h ds L' w a hr1 hs hR he hd hκ)
  | .block id b, κ, Q, φ, e, h, ds, L', w, a, hr, hs, hR, he, hd, hκ => by
    refine wpIn_block (exM_wp hF hm hcall hn hro b _ _ φ e h ds L' w a hr hs hR he hd fun o => ?_)
    intro e' h' ds' L'' hk hs' φ' w' a' hu hR' he' hd'
    cases o with
    | normal => exact hκ .normal e' h' ds' L'' hk hs' φ' w' a' hu hR' he' hd'
    | exit i =>
      have hk1 : (Bool.rec (motive := fun _ => KX) (κ (.exit i)) (κ .normal) (Nat.beq i id)) e' h' ds' = some L'' := hk
      cases hb : Nat.beq i id with
      | true =>
        rw [hb] at hk1
        have := Nat.eq_of_beq_eq_true hb
        subst this
        have := hκ .normal e' h' ds' L'' hk1 hs' φ' w' a' hu hR' he' hd'
        simpa [Exit.inBlock, QO] using this
      | false =>
        rw [hb] at hk1
        have hne := Nat.ne_of_beq_eq_false hb
        have := hκ (.exit i) e' h' ds' L'' hk1 hs' φ' w' a' hu hR' he' hd'
        simpa [Exit.inBlock, QO, hne] using this
    | ret => exact hκ .ret e' h' ds' L'' hk hs' φ' w' a' hu hR' he' hd'
    | pan v => trivial
  | .loop b, κ, Q, φ, e, h, ds, L', w, a, hr, hs, hR, he, hd, hκ => by
    have key : ∀ (m : Nat) (S : List LS) (L' : List Res), (∀ s ∈ S, Grows h s.heap) → goL n (killOf (evC b) []) (exM P (drawX P plan) call inR fid n N b) κ h ds m S = some L' → (∀ r ∈ L', r ∈ L) →
        ∀ s ∈ S, ∀ (φ1 : List Emb) (w1 : World) (a1 : Act), Up φ φ1 → R P φ1 s.heap w0 w1 → Vs φ1 (envL n s.env) a1.tmps.toList → DS φ1 s.dvs a1.defers → Code.roundsIn (wideR ρ) 0 P b Q m a1 w1 := by
      intro m
      induction m with
      | zero => intro S L' _ hr; cases hr
      | succ m ih =>
        intro S L' hS hr hs s hsS φ1 w1 a1 hu1 hR1 he1 hd1
        obtain ⟨l, x, y, hl, hx, hy, rfl⟩ := goL_inv hr
        obtain ⟨r1, r2⟩ := runAll_mem hl
        obtain ⟨o1, _⟩ := othersR_mem hx
        obtain ⟨l', hb1, hb2⟩ := r1 s hsS
        rw [roundsIn_succ]
        refine exM_wp hF hm hcall hn hro (L := l) b leaf _ φ1 s.env s.heap s.dvs l' w1 a1 hb1 hb2 hR1 he1 hd1 fun o => leaf_SX fun e' h' ds' hmem φ' w' a' hu hR' he' hd' => ?_
        have other : o ≠ .normal → QO Q o a' w' := fun hne => by
          obtain ⟨L2, h1, h2⟩ := o1 _ _ _ _ hmem hne
          exact hκ o e' h' ds' L2 h1 (fun r hr => hs r (List.mem_append.2 (.inl (h2 r hr)))) φ' w' a' (hu1.trans hu) hR' he' hd'
        cases o with
        | normal =>
          have hlg : ∀ t ∈ normalsR l, Grows h t.heap := fun t ht => by
            obtain ⟨s2, hs2, l2, h1, h2⟩ := r2 _ (normalsR_mem.1 ht)
            exact (hS s2 hs2).trans (leaf_from (exM_from hcall hn b leaf _ _ _ _ h1) _ _ _ _ h2)
          obtain ⟨m1, m2⟩ := mergeF_run (P := P) hn (kill := killOf (evC b) []) (ds0 := ds) hlg
          have hin : LS.mk e' h' ds' ∈ normalsR l := normalsR_mem.2 hmem
          obtain ⟨s', hs', φ2, hu2, hR2, he2, hd2⟩ := m1 _ hin φ w0 w a.defers hR hd φ' w' a'.tmps.toList a'.defers (hu1.trans hu) hR' he' hd'
          rcases contL_inv hy with ⟨hnil, _⟩ | hy
          · rw [hnil] at hs'; cases hs'
          · exact ih _ y m2 hy (fun r hr => hs r (List.mem_append.2 (.inr hr))) s' hs' φ2 w' a' hu2 hR2 he2 hd2
        | exit i => exact other (by simp)
        | ret => exact other (by simp)
        | pan v => trivial
    exact wpIn_loop_rounds N (key N _ L' (fun s hs => by rw [List.mem_singleton] at hs; subst hs; exact Grows.refl _) hr hs (.mk e h ds) (List.mem_singleton.2 rfl) φ w a (Up.refl _) hR he hd)
  | .rangeFunc f ps x y, κ, Q, φ, e, h, ds, L', w, a, hr, hs, hR, he, hd, hκ => by
    cases inR with
    | true => cases hr
    | false =>
      have := hro rfl
      subst this
      exact rangeFunc_wp hF hcall hn hr hs hR he hd hκ
  | .scope .., κ, Q, φ, e, h, ds, L', w, a, hr, hs, hR, he, hd, hκ => by cases hr
  | .goto _, κ, Q, φ, e, h, ds, L', w, a, hr, hs, hR, he, hd, hκ => by cases hr
  | .refuse _, κ, Q, φ, e, h, ds, L', w, a, hr, hs, hR, he, hd, hκ => by cases hr
end
end Go.Am

noncomputable section
namespace Go.Am
open Go.RowKit

/-! ### Frames and results -/

def frPut (args : List AV) : Nat → Env → Env := List.rec (motive := fun _ => Nat → Env → Env) (fun _ e => e) (fun v _ ih i e => ih (Nat.succ i) (Dst.put (dstTab (dig (Nat.div i 16)) (dig (Nat.mod i 16))) v e)) args
theorem frPut_at : ∀ (args : List AV) (i : Nat) (e : Env) (t : Nat), i + args.length ≤ 256 → t < 256 → (frPut args i e).at (refOf t) = if i ≤ t ∧ t < i + args.length then args.getD (t - i) .unk else e.at (refOf t)
  | [], i, e, t, h, ht => by
    rw [if_neg (by rw [List.length_nil]; omega)]; rfl
  | v :: args, i, e, t, h, ht => by
    simp only [List.length_cons] at h
    show (frPut args (i + 1) (Dst.put (dstTab (dig (Nat.div i 16)) (dig (Nat.mod i 16))) v e)).at (refOf t) = _
    rw [frPut_at args (i + 1) _ t (by omega) ht, dstTab_put]
    by_cases h1 : i = t
    · subst h1
      rw [if_neg (by omega), if_pos (by simp)]
      rw [Nat.sub_self]
      exact Env.at_put _ _ _
    · by_cases h2 : i + 1 ≤ t ∧ t < i + 1 + args.length
      · rw [if_pos h2, if_pos (by simp; omega)]
        rw [show t - i = (t - (i + 1)) + 1 by omega]; rfl
      · rw [if_neg h2, if_neg (by simp; omega)]
        exact Env.at_put_ne (s := t) (t := i) ht (by omega) (Ne.symm h1) v e
theorem fits_some {fn : Func} {args : List AV} (h : fits fn args = true) : fn.ntmps ≤ 256 ∧ args.length ≤ fn.ntmps := by
  unfold fits at h
  cases hb : Nat.ble fn.ntmps 256 with
  | false => rw [hb] at h; cases h
  | true =>
    rw [hb] at h
    have h1 : Nat.ble (lenF args) fn.ntmps = true := h
    rw [lenF_eq] at h1
    exact ⟨(ble_iff _ _).1 hb, (ble_iff _ _).1 h1⟩
theorem frame_V {φ : List Emb} {n : Nat} (hn : n ≤ 256) {args : List AV} {args' : Array Value} (hl : args.length ≤ n) (h : Vs φ args args'.toList) : Vs φ (envL n (frameM args)) (args' ++ Array.replicate (n - args'.size) undef).toList := by
  have hs : args'.size = args.length := by rw [← Array.length_toList, h.length]
  refine Vs.of_get (by rw [envL_length]; simp; omega) fun t a v ha hv => ?_
  rw [envL_get] at ha
  split at ha
  · rename_i hlt
    cases ha
    have hat : (frameM args).at (refOf t) = _ := frPut_at args 0 Env.none t (by omega) (by omega)
    rw [hat]
    simp only [Array.toList_append, Array.toList_replicate] at hv
    by_cases ht : t < args.length
    · rw [if_pos ⟨Nat.zero_le _, by omega⟩]
      rw [List.getElem?_append_left (by simp; omega)] at hv
      have hg : args[t]? = some args[t] := List.getElem?_eq_getElem ht
      obtain ⟨u, hu, hV⟩ := h.get t _ hg
      rw [hu] at hv
      cases hv
      rw [List.getD_eq_getElem?_getD, Nat.sub_zero, hg]
      exact hV
    · rw [if_neg (by omega), Env.at_none]
      rw [List.getElem?_append_right (by simp; omega), List.getElem?_replicate] at hv
      split at hv
      · cases hv; exact undef_V φ
      · cases hv
  · cases ha

section
variable {P : Program} {call : CallM} {plan : FuncId → Nat → Option Plan} {n N fid : Nat}

theorem resM_run {φ : List Emb} {h : Heap} {w0 w : World} (hR : R P φ h w0 w) {e : Env} {tmps : Array Value} (he : Vs φ (envL n e) tmps.toList) {r : ResultVar} {v : AV} (hv : resM P n e h r = some v) : ∃ u, (resultOf tmps r).run P w = .ok u w ∧ V φ v u := by
  have hnth : ∀ t, V φ ((tmpS n t).ev e) (tmps.getD t undef) := fun t => by
    rw [tmpS_ev]
    have := nth_V he t
    simpa [Array.getD_eq_getD_getElem?, List.getD_eq_getElem?_getD] using this
  cases r with
  | tmp t =>
    cases hv
    exact ⟨_, rfl, hnth t⟩
  | cell a t =>
    have hh := hnth a
    unfold resM at hv
    simp only at hv
    split at hv
    · rename_i l hl
      rw [hl] at hh
      obtain ⟨u, h5, h6⟩ := loadA_run hR hv hh
      simp only [V] at hh
      obtain ⟨em, _, hx⟩ := hh
      rw [hx] at h5
      simp only [Instr.loadAt, Instr.sureAddr, Sem.run_bind, Sem.run_pure, Result.andThen_ok] at h5
      refine ⟨u, ?_, h6⟩
      simp only [resultOf, Sem.run_bind, hx, asAddr, Sem.run_pure, Result.andThen_ok, h5]
    · cases hv
theorem resL_run {φ : List Emb} {h : Heap} {w0 w : World} (hR : R P φ h w0 w) {e : Env} {tmps : Array Value} (he : Vs φ (envL n e) tmps.toList) : ∀ {rs : List ResultVar} {vs : List AV}, resL P n e h rs = some vs → ∃ us, (rs.mapM (resultOf tmps)).run P w = .ok us w ∧ Vs φ vs us
  | [], vs, hv => by
    cases hv
    exact ⟨[], by simp, by simp [Vs]⟩
  | r :: rs, vs, hv => by
    have hv1 : (Option.rec (motive := fun _ => Option (List AV)) none (fun v => Option.rec (motive := fun _ => Option (List AV)) none (fun vs => some (v :: vs)) (resL P n e h rs)) (resM P n e h r)) = some vs := hv
    cases h1 : resM P n e h r with
    | none => rw [h1] at hv1; cases hv1
    | some v =>
      rw [h1] at hv1
      have hv2 : (Option.rec (motive := fun _ => Option (List AV)) none (fun vs => some (v :: vs)) (resL P n e h rs)) = some vs := hv1
      cases h2 : resL P n e h rs with
      | none => rw [h2] at hv2; cases hv2
      | some vs' =>
        rw [h2] at hv2
        cases hv2
        obtain ⟨u, h3, h4⟩ := resM_run hR he h1
        obtain ⟨us, h5, h6⟩ := resL_run hR he h2
        exact ⟨u :: us, by simp only [List.mapM_cons, Sem.run_bind, h3, h5, Result.andThen_ok, Sem.run_pure], by rw [Vs_cons]; exact ⟨h4, h6⟩⟩
theorem single1_eq (l : List AV) : single1 l = single l := by
  match l with
  | [] => rfl
  | [v] => rfl
  | v :: u :: l => rfl
theorem resL_results {φ : List Emb} {h : Heap} {w0 w : World} (hR : R P φ h w0 w) {fn : Func} {e : Env} {tmps : Array Value} (he : Vs φ (envL fn.ntmps e) tmps.toList) {vs : List AV} (hv : resL P fn.ntmps e h fn.results.toList = some vs) :
    ∃ u, (results fn tmps).run P w = .ok u w ∧ V φ (single1 vs) u := by
  obtain ⟨us, h1, h2⟩ := resL_run hR he hv
  have hm : (fn.results.mapM (resultOf tmps)).run P w = .ok us.toArray w := by
    rw [Array.mapM_eq_mapM_toList, Sem.run_map, h1]
    rfl
  refine ⟨if h : us.toArray.size = 1 then us.toArray[0] else .tuple us.toArray, ?_, ?_⟩
  · rw [results_eq, Sem.run_bind, hm]
    rfl
  · rw [single1_eq]
    match vs, us, h2 with
    | [], us, h2 => rw [Vs_nil] at h2; subst h2; simp [single, V, Vs]
    | [v], us, h2 =>
      simp only [Vs] at h2
      obtain ⟨y, ys, rfl, hy, rfl⟩ := h2
      simpa [single] using hy
    | v :: v2 :: vs, us, h2 =>
      have hl := h2.length
      have : ¬ us.toArray.size = 1 := by simp at hl ⊢; omega
      rw [dif_neg this]
      simp only [single, V]
      exact ⟨_, rfl, by simpa using h2⟩

/-! ### Deferred calls -/

/-- What is said of a deferred call, nobody panicking. -/
def DPost (P : Program) (f : FuncId) (args : List AV) (h : Heap) (L : List (AV × Heap)) : Prop :=
  ∀ φ w0 w (args' : Array Value), R P φ h w0 w → Vs φ args args'.toList → (callFunc f args').run P w = .ok (.enter f args') w ∧
    CallsDIn (wideR none) 0 P f args' .returning w fun e u' w' => u' = .returning ∧ LPost P φ w0 L e w'
structure DCallOk (P : Program) (d : CallM) : Prop where
  post : ∀ f args h L, d f args h = some L → DPost P f args h L
  grow : ∀ f args h L, d f args h = some L → ∀ p ∈ L, Grows h p.2

theorem endDs_mem {fn : Func} : ∀ {l : List Res} {L : List (AV × Heap)}, endDs P fn l = some L → (∀ r ∈ l, ∃ o e h vs, r = .mk o e h [] ∧ (o = .normal ∨ o = .ret) ∧ resL P fn.ntmps e h fn.results.toList = some vs ∧ (single1 vs, h) ∈ L) ∧ ∀ p ∈ L, ∃ o e ds, Res.mk o e p.2 ds ∈ l
  | [], L, h => by cases h; exact ⟨by simp, by simp⟩
  | r :: l, L, h => by
    obtain ⟨o, e, hh, ds⟩ := r
    have h1 : (Option.rec (motive := fun _ => LR) none (fun a => Option.rec (motive := fun _ => LR) none (fun b => some (appF a b)) (endDs P fn l)) (endD P fn (.mk o e hh ds))) = some L := h
    cases h2 : endD P fn (.mk o e hh ds) with
    | none => rw [h2] at h1; cases h1
    | some x =>
      rw [h2] at h1
      have h1' : (Option.rec (motive := fun _ => LR) none (fun b => some (appF x b)) (endDs P fn l)) = some L := h1
      cases h3 : endDs P fn l with
      | none => rw [h3] at h1'; cases h1'
      | some y =>
        rw [h3] at h1'
        have hL : L = x ++ y := by rw [← appF_eq]; exact (Option.some.inj h1').symm
        subst hL
        obtain ⟨g1, g2⟩ := endDs_mem h3
        have hx : ∃ vs, ds = [] ∧ (o = .normal ∨ o = .ret) ∧ resL P fn.ntmps e hh fn.results.toList = some vs ∧ x = [(single1 vs, hh)] := by
          cases ds with
          | cons d ds => cases h2
          | nil =>
            have h4 : (Bool.rec (motive := fun _ => LR) none (Option.rec (motive := fun _ => LR) none (fun vs => some [(single1 vs, hh)]) (resL P fn.ntmps e hh fn.results.toList)) (Out.rec (motive := fun _ => Bool) true (fun _ => false) true (fun _ => false) o)) = some x := h2
            have h5 : (o = .normal ∨ o = .ret) ∧ (Option.rec (motive := fun _ => LR) none (fun vs => some [(single1 vs, hh)]) (resL P fn.ntmps e hh fn.results.toList)) = some x := by
              cases o with
              | normal => exact ⟨.inl rfl, h4⟩
              | ret => exact ⟨.inr rfl, h4⟩
              | exit i => cases h4
              | pan v => cases h4
            obtain ⟨h6, h7⟩ := h5
            cases hv : resL P fn.ntmps e hh fn.results.toList with
            | none => rw [hv] at h7; cases h7
            | some vs => rw [hv] at h7; exact ⟨vs, rfl, h6, rfl, (Option.some.inj h7).symm⟩
        obtain ⟨vs, rfl, ho, hv, rfl⟩ := hx
        refine ⟨fun r hr => ?_, fun p hp => ?_⟩
        · rcases List.mem_cons.1 hr with rfl | hr
          · exact ⟨o, e, hh, vs, rfl, ho, hv, by simp⟩
          · obtain ⟨o', e', h', vs', h6, h7, h8, h9⟩ := g1 r hr
            exact ⟨o', e', h', vs', h6, h7, h8, List.mem_append.2 (.inr h9)⟩
        · rcases List.mem_append.1 hp with hp | hp
          · rw [List.mem_singleton] at hp
            subst hp
            exact ⟨o, e, [], by simp⟩
          · obtain ⟨o', e', ds', h6⟩ := g2 p hp
            exact ⟨o', e', ds', List.mem_cons_of_mem _ h6⟩

theorem dcallM_inv {f : FuncId} {args : List AV} {h : Heap} {L : List (AV × Heap)} (hd : dcallM P (drawX P plan) call N f args h = some L) :
    ∃ fn c l, P.funcs[f]? = some fn ∧ fn.body = some c ∧ fits fn args = true ∧ exM P (drawX P plan) call false f fn.ntmps N c leaf (frameM args) h [] = some l ∧ endDs P fn l = some L := by
  unfold dcallM at hd
  cases hf : P.funcs[f]? with
  | none => rw [hf] at hd; cases hd
  | some fn =>
    rw [hf] at hd
    have hd1 : (Option.rec (motive := fun _ => LR) none (fun c => dbodyM P (drawX P plan) call N f fn c args h) fn.body) = some L := hd
    cases hb : fn.body with
    | none => rw [hb] at hd1; cases hd1
    | some c =>
      rw [hb] at hd1
      have hd2 : (Bool.rec (motive := fun _ => LR) none (Option.rec (motive := fun _ => LR) none (fun l => endDs P fn l) (exM P (drawX P plan) call false f fn.ntmps N c leaf (frameM args) h [])) (fits fn args)) = some L := hd1
      cases hfit : fits fn args with
      | false => rw [hfit] at hd2; cases hd2
      | true =>
        rw [hfit] at hd2
        have hd3 : (Option.rec (motive := fun _ => LR) none (fun l => endDs P fn l) (exM P (drawX P plan) call false f fn.ntmps N c leaf (frameM args) h [])) = some L := hd2
        cases hx : exM P (drawX P plan) call false f fn.ntmps N c leaf (frameM args) h [] with
        | none => rw [hx] at hd3; cases hd3
        | some l =>
          rw [hx] at hd3
          exact ⟨fn, c, l, rfl, hb, hfit, hx, hd3⟩
theorem dcallM_ok (hF : Fns P) (hm : P.follows .mixedOrders = true) (hcall : CallMOk P call) : DCallOk P (dcallM P (drawX P plan) call N) where
  post := fun f args h L hd => by
    obtain ⟨fn, c, l, hf, hb, hfit, hx, he⟩ := dcallM_inv hd
    obtain ⟨hn, hl⟩ := fits_some hfit
    obtain ⟨g1, _⟩ := endDs_mem he
    intro φ w0 w args' hR hv
    refine ⟨callFunc_run hF hf hb _ _, ?_⟩
    have hwp := exM_wp (plan := plan) (fid := f) (N := N) hF hm hcall hn (inR := false) (ρ := none) (fun _ => rfl) (L := l) (w0 := w0) c leaf (bodyPost P fn (LPost P φ w0 L)) φ (frameM args) h [] l w
      { tmps := args' ++ Array.replicate (fn.ntmps - args'.size) undef, defers := [] } hx (fun _ hr => hr) hR (frame_V hn hl hv) rfl fun o => leaf_SX fun e h' ds hmem φ' w' a hu hR' he' hd' => by
        obtain ⟨o1, e1, h1, vs, h2, h3, h4, h5⟩ := g1 _ hmem
        cases h2
        have hdf : a.defers = [] := hd'
        obtain ⟨u, h6, h7⟩ := resL_results hR' he' h4
        have post : LPost P φ w0 L (.returned u) w' := ⟨_, h5, φ', u, rfl, hu, hR', h7⟩
        rcases h3 with rfl | rfl
        · exact ⟨hdf, u, h6, post⟩
        · exact ⟨hdf, u, h6, post⟩
    exact callsDIn_of_wp (F := wideR none) (n := 0) (u := .returning) hf hb trivial hwp
  grow := fun f args h L hd => by
    obtain ⟨fn, c, l, hf, hb, hfit, hx, he⟩ := dcallM_inv hd
    obtain ⟨hn, _⟩ := fits_some hfit
    obtain ⟨_, g2⟩ := endDs_mem he
    intro p hp
    obtain ⟨o, e, ds, h1⟩ := g2 p hp
    exact leaf_from (exM_from hcall hn c leaf _ _ _ _ hx) _ _ _ _ h1

theorem runDs_cons_call {dov dcall : CallM} {f : FuncId} {args : List AV} {ds : List DVM} {h : Heap} {hs : List Heap} (hr : runDs dov dcall (.call f args :: ds) h = some hs) :
    ∃ p, (dov f args h = some [p] ∨ dcall f args h = some [p]) ∧ runDs dov dcall ds p.2 = some hs := by
  have h1 : (Option.rec (motive := fun _ => LH) none (fun l => List.rec (motive := fun _ => LH) none (fun p ps _ => List.rec (motive := fun _ => LH) (Prod.rec (motive := fun _ => LH) (fun _ h' => runDs dov dcall ds h') p) (fun _ _ _ => none) ps) l) (Option.rec (motive := fun _ => Option (List (AV × Heap))) (dcall f args h) some (dov f args h))) = some hs := hr
  have key : ∀ l0 : Option (List (AV × Heap)), (Option.rec (motive := fun _ => LH) none (fun l => List.rec (motive := fun _ => LH) none (fun p ps _ => List.rec (motive := fun _ => LH) (Prod.rec (motive := fun _ => LH) (fun _ h' => runDs dov dcall ds h') p) (fun _ _ _ => none) ps) l) l0) = some hs → ∃ p, l0 = some [p] ∧ runDs dov dcall ds p.2 = some hs := by
    intro l0 hl
    match l0, hl with
    | none, hl => cases hl
    | some [], hl => cases hl
    | some [p], hl => exact ⟨p, rfl, hl⟩
    | some (p :: q :: ps), hl => cases hl
  obtain ⟨p, h2, h3⟩ := key _ h1
  refine ⟨p, ?_, h3⟩
  cases hd : dov f args h with
  | none => rw [hd] at h2; exact .inr h2
  | some l => rw [hd] at h2; exact .inl h2
theorem runDs_cons_mark {dov dcall : CallM} {k : Nat} {ds : List DVM} {h : Heap} {hs : List Heap} (hr : runDs dov dcall (.mark k :: ds) h = some hs) : h.get k = some .defs ∧ runDs dov dcall ds (h.del k) = some hs := by
  have h1 : (match h.get k with | some .defs => runDs dov dcall ds (h.del k) | _ => none) = some hs := hr
  split at h1
  · rename_i hg; exact ⟨hg, h1⟩
  · cases h1
theorem runDs_grows {dov dcall : CallM} (hdo : DCallOk P dov) (hdc : DCallOk P dcall) : ∀ {ds : List DVM} {h : Heap} {hs : List Heap}, runDs dov dcall ds h = some hs → ∃ h', hs = [h'] ∧ Grows h h'
  | [], h, hs, hr => by cases hr; exact ⟨h, rfl, Grows.refl _⟩
  | .call f args :: ds, h, hs, hr => by
    obtain ⟨p, h1, h2⟩ := runDs_cons_call hr
    obtain ⟨h', h3, h4⟩ := runDs_grows hdo hdc h2
    refine ⟨h', h3, Grows.trans ?_ h4⟩
    rcases h1 with h1 | h1
    · exact hdo.grow _ _ _ _ h1 p (List.mem_singleton.2 rfl)
    · exact hdc.grow _ _ _ _ h1 p (List.mem_singleton.2 rfl)
  | .mark k :: ds, h, hs, hr => by
    obtain ⟨_, h2⟩ := runDs_cons_mark hr
    obtain ⟨h', h3, h4⟩ := runDs_grows hdo hdc h2
    exact ⟨h', h3, (Grows.del _ _).trans h4⟩

/-- A frame on its way out. -/
theorem leaves_run {dov dcall : CallM} (hdo : DCallOk P dov) (hdc : DCallOk P dcall) {fn : Func} {tmps : Array Value} {Rp : Ending → World → Prop} {w0 : World} {h' : Heap} : ∀ {ds : List DVM} {h : Heap} {φ : List Emb} {w : World} {dl : List Deferred}, runDs dov dcall ds h = some [h'] → R P φ h w0 w → DS φ ds dl →
    (∀ φ' w', Up φ φ' → R P φ' h' w0 w' → ∃ v, (results fn tmps).run P w' = .ok v w' ∧ Rp (.returned v) w') → LeavesInM (wideR none) 0 P fn tmps Rp dl .returning w
  | [], h, φ, w, dl, hr, hR, hd, hK => by
    cases hr
    have : dl = [] := hd
    subst this
    exact hK φ w (Up.refl _) hR
  | .call f args :: ds, h, φ, w, dl, hr, hR, hd, hK => by
    obtain ⟨p, h1, h2⟩ := runDs_cons_call hr
    obtain ⟨as, cap, xs, rfl, h3, h4⟩ := hd
    have hp : DPost P f args h [p] := by
      rcases h1 with h1 | h1
      · exact hdo.post _ _ _ _ h1
      · exact hdc.post _ _ _ _ h1
    obtain ⟨h5, h6⟩ := hp φ w0 w (as ++ cap) hR h3
    refine ⟨by simp, .inr ⟨fun h0 => (by cases h0), .func f, cap, f, as ++ cap, rfl, by simpa only [invoke] using h5, fun _ _ => trivial, h6.mono ?_⟩⟩
    rintro e u' w' ⟨rfl, q, hq, φ', v', rfl, hu, hR', hv'⟩
    rw [List.mem_singleton] at hq
    subst hq
    exact leaves_run hdo hdc h2 hR' (h4.up hu) (fun φ'' w'' hu' => hK φ'' w'' (hu.trans hu'))
  | .mark k :: ds, h, φ, w, dl, hr, hR, hd, hK => by
    obtain ⟨hg, h2⟩ := runDs_cons_mark hr
    obtain ⟨e, xs, hk, rfl, h4⟩ := hd
    obtain ⟨e', he', ho, _⟩ := hR.objs k _ hg
    rw [hk] at he'; cases he'
    have ho : w.heap[e.blk]? = some (.deferred (some [])) := ho
    refine ⟨by simp, .inl ⟨e.blk, _, rfl, run_takeDeferred ho, ?_⟩⟩
    have hR' : R P φ (h.del k) w0 (w.putObj e.blk (.deferred none)) := R.forget hR hg rfl hk (fun k hk => putObj_other hk) (by simp) rfl rfl rfl
    exact leaves_run hdo hdc h2 hR' h4 hK

/-! ### Merging -/

theorem mrgAll_run {h : Heap} {v : AV} : ∀ {l : List (AV × Heap)} {a A : Heap}, mrgAll h v l a = some A → Like h.next a A ∧ ∀ p ∈ l, ∃ b s, Like h.next a b ∧ mrg h.next [v] (relog h b) [p.1] (relog h p.2) = some s ∧ Less (tidy h.next s b) A
  | [], a, A, hm => by cases hm; exact ⟨Like.refl _ _, by simp⟩
  | (v2, h2) :: l, a, A, hm => by
    have h1 : (Option.rec (motive := fun _ => Option Heap) none (fun s => mrgAll h v l (tidy h.next s a)) (mrg h.next [v] (relog h a) [v2] (relog h h2))) = some A := hm
    cases hs : mrg h.next [v] (relog h a) [v2] (relog h h2) with
    | none => rw [hs] at h1; cases h1
    | some s =>
      rw [hs] at h1
      obtain ⟨g1, g2⟩ := mrgAll_run (l := l) h1
      refine ⟨(Like.tidy _ s a).trans g1, fun p hp => ?_⟩
      rcases List.mem_cons.1 hp with rfl | hp
      · exact ⟨a, s, Like.refl _ _, hs, g1.1⟩
      · obtain ⟨b, s', h3, h4, h5⟩ := g2 p hp
        exact ⟨b, s', (Like.tidy _ s a).trans h3, h4, h5⟩
theorem mergeL_run {h : Heap} {L : List (AV × Heap)} (hg : ∀ p ∈ L, Grows h p.2) : (∀ p ∈ mergeL h L, Grows h p.2) ∧ ∀ φ w0 w, R P φ h w0 w → ∀ e w', LPost P φ w0 L e w' → LPost P φ w0 (mergeL h L) e w' := by
  match L, hg with
  | [], _ => exact ⟨by simp [mergeL], fun φ w0 w _ e w' hp => hp⟩
  | [p], hg => exact ⟨hg, fun φ w0 w _ e w' hp => hp⟩
  | (v, h1) :: q :: ps, hg =>
    have hdef : mergeL h ((v, h1) :: q :: ps) = Option.rec (motive := fun _ => List (AV × Heap)) ((v, h1) :: q :: ps) (fun a => [(v, a)]) (mrgAll h v (q :: ps) h1) := rfl
    rw [hdef]
    cases hm : mrgAll h v (q :: ps) h1 with
    | none => exact ⟨hg, fun φ w0 w _ e w' hp => hp⟩
    | some A =>
      obtain ⟨f1, f2⟩ := mrgAll_run hm
      have hg1 := hg _ List.mem_cons_self
      refine ⟨fun p hp => ?_, fun φ w0 w hR e w' hp => ?_⟩
      · have hp : p ∈ [(v, A)] := hp
        rw [List.mem_singleton] at hp
        subst hp
        exact f1.grows hg1
      · show LPost P φ w0 [(v, A)] e w'
        obtain ⟨p, hpL, φ2, v', rfl, hu, hR2, hv⟩ := hp
        rcases List.mem_cons.1 hpL with rfl | hpl
        · exact ⟨_, List.mem_singleton.2 rfl, φ2, v', rfl, hu, hR2.less f1.1, hv⟩
        · obtain ⟨b, s, hlb, hms, hless⟩ := f2 p hpl
          have hgb := hlb.grows hg1
          have hg2 := hg p hpL
          have hR2' : R P φ2 (relog h p.2) w0 w' := hR2.relog rfl (fun _ => rfl)
          obtain ⟨φ1, hu1, hR1, hv1⟩ := merge_run hms hR hu hR2' (relog_logged hgb) (relog_logged hg2) (show Wfh (relog h b) from hgb.2.2.1 hR.wfh)
          have hR1' : R P φ1 (tidy h.next s b) w0 w' := hR1.relog (by rw [tidy_next, tidy_next]; rfl) (fun i => (tidy_relog i).symm)
          have hvs := hv1 [v'] (by rw [Vs_cons]; exact ⟨hv, by simp [Vs]⟩)
          rw [Vs_cons] at hvs
          exact ⟨_, List.mem_singleton.2 rfl, φ1, v', rfl, hu1, hR1'.less hless, hvs.1⟩
end
end Go.Am

noncomputable section
namespace Go.Am
open Go.RowKit

def ownK (k : Kind) : Bool := match k with | .own _ => true | .var _ => true | _ => false
def insOut (h : Heap) (p n i m : Nat) (cs vs : List AV) : AV × Heap := (.slice (some ⟨h.next, 0⟩) (Nat.add n m) (.tip 1), (h.del p).alloc (.cells (appF (takeF i cs) (appF vs (dropF i cs))) (.own none)))
/-- fs: slices.Insert's numbers. -/
def insM (fs : List FuncId) : CallM := fun f args h =>
  bif fs.any (Nat.beq f) then
    match args with
    | [.slice (some ⟨p, 0⟩) n (.tip 1), .int .i64 (.ofNat i), .slice (some ⟨q, 0⟩) m _] =>
      (match h.get p, h.get q with
      | some (.cells cs k), some (.cells vs k') =>
        bif ownK k && ownK k' && !Nat.beq p q && Nat.blt i n && Nat.ble 1 m && Nat.ble (Nat.add n m) 65535 && hasF n cs && hasF m vs && cellsOkM (takeF n cs) && cellsOkM (takeF m vs)
        then some [insOut h p n i m (takeF n cs) (takeF m vs)] else none
      | _, _ => none)
    | _ => none
  else none

def InsShift (P : Program) (f : FuncId) : Prop :=
  ∀ (b off n c i vb voff m vc : Nat) (cs vs : List Value) (w : World), i < n → 0 < m → n + m ≤ c → n + m ≤ 9223372036854775807 → vb ≠ b → cs.length = n → vs.length = m →
    (∀ j v, cs[j]? = some v → w.cell? ⟨b, off + j, none⟩ = some v) → (∀ j, j < n + m → (w.cell? ⟨b, off + j, none⟩).isSome = true) → (∀ j, j < n + m → w.frozen? ⟨b, off + j, none⟩ = false) →
    (∀ j v, vs[j]? = some v → w.cell? ⟨vb, voff + j, none⟩ = some v) → (∀ v ∈ cs, v.oneCell' = true) → (∀ v ∈ vs, v.oneCell' = true) →
    ∀ (tA tB : TypeId) (kA kB : Nat), w.shape? vb = some (tA, kA) → w.shape? b = some (tB, kB) → kB ≠ 0 → w.frozen? ⟨vb, voff, none⟩ = false → w.frozen? ⟨vb, kA, none⟩ = false →
    Calls P f #[.slice (some ⟨b, off, none⟩) n c, .int .i64 i, .slice (some ⟨vb, voff, none⟩) m vc] w fun e w' =>
      e = .returned (.slice (some ⟨b, off, none⟩) (n + m) c) ∧ w' = (w.drew.setCells b (off + (i + m)) (cs.drop i)).setCells b (off + i) vs
def InsGrow (P : Program) (f : FuncId) (E : TypeId) (z : Value) : Prop :=
  ∀ (b off n c i vb voff m vc : Nat) (cs vs : List Value) (w : World), i < n → 0 < m → n ≤ c → c < n + m → (n + m) * 8 ≤ 140737488355328 → cs.length = n → vs.length = m →
    (∀ j v, cs[j]? = some v → w.cell? ⟨b, off + j, none⟩ = some v) → (∀ j v, vs[j]? = some v → w.cell? ⟨vb, voff + j, none⟩ = some v) → (∀ v ∈ cs, v.oneCell' = true) → (∀ v ∈ vs, v.oneCell' = true) →
    Calls P f #[.slice (some ⟨b, off, none⟩) n c, .int .i64 i, .slice (some ⟨vb, voff, none⟩) m vc] w fun e w' =>
      e = .returned (.slice (some ⟨w.heap.size, 0, none⟩) (n + m) (grownCap w (n + m) c E)) ∧
      w' = (((w.alloc (.cells ((cs.take i).toArray ++ Builtin.zeroCells z.cells (n + m - i) ++ Builtin.zeroCells z.cells (grownCap w (n + m) c E - (n + m))) E)).drew.setCells w.heap.size i vs).drew).setCells w.heap.size (i + m) (cs.drop i)

/-- A row laid anew, in its own block or in a new one. -/
theorem ins_R {P : Program} {φ : List Emb} {h : Heap} {w0 w w' : World} (hR : R P φ h w0 w) {p : Nat} {o : Obj} (hp : h.get p = some o) (hown : o.isOwn = true) {e : Emb} (he : φ[p]? = some e) (g off tot : Nat) (hg : g = e.blk ∨ g = w.heap.size) {C : Array Value} {t : TypeId}
    (hC : w'.heap[g]? = some (.cells C t (0, 0))) (htot : off + tot = C.size) (hrest : ∀ k, k ≠ g → k < w.heap.size → w'.heap[k]? = w.heap[k]?) (hsz : w.heap.size ≤ w'.heap.size) (hos : w'.os = w.os) (htp : w'.tape = w.tape) (hout : w'.output = w.output)
    {cs : List AV} {us : List Value} (hv : Vs φ cs us) (hle : cs.length ≤ tot) (hus : (C.toList.drop off).take cs.length = us) : R P (φ ++ [⟨g, off, tot⟩]) ((h.del p).alloc (.cells cs (.own none))) w0 w' := by
  refine R.allocAt (hR.del p) (.cells cs (.own none)) ⟨g, off, tot⟩ (fun j oj ej hj hej hh => ?_) ?_ (fun k hk hlt => hrest k hk hlt) hsz hos htp hout ?_
  · have hjp : p ≠ j := fun hh => by subst hh; rw [Heap.get_del] at hj; cases hj
    rw [Heap.get_del_ne _ hjp] at hj
    rcases hg with rfl | rfl
    · exact hR.sep p j o oj e ej hjp hp hj he hej hown hh.symm
    · obtain ⟨e2, he2, hO, _⟩ := hR.objs j oj hj
      have : e2 = ej := Option.some.inj (he2.symm.trans hej)
      subst this
      have := hO.lt
      have hh : e2.blk = w.heap.size := hh
      omega
  · rcases hg with rfl | rfl
    · obtain ⟨e2, he2, _, hw⟩ := hR.objs p o hp
      have : e2 = e := Option.some.inj (he2.symm.trans he)
      subst this
      exact hw hown
    · exact hR.below.size
  · refine ⟨C, t, (0, 0), hC, htot, hle, ⟨fun u hu => ?_, (fun u hu => by cases hu)⟩, (fun hh => by cases hh), ?_⟩
    · cases hu; exact ⟨rfl, fun _ hh => by cases hh⟩
    · rw [hus]; exact Vs.up (Up.snoc _ _) _ _ hv

theorem over_at {α : Type} (xs : List α) (o : Nat) (vs : List α) (h : o + vs.length ≤ xs.length) (j : Nat) : (over xs o vs)[j]? = if j < o then xs[j]? else if j < o + vs.length then vs[j - o]? else xs[j]? := by
  simp only [over, List.append_assoc, List.getElem?_append, List.getElem?_take, List.getElem?_drop, List.length_take]
  repeat' split
  all_goals first
    | rfl
    | omega
    | (congr 1; omega)
/-- What the cells are in the end. -/
theorem ins_list {cs vs : List Value} {i n m : Nat} (hi : i < n) (hcl : cs.length = n) (hvl : vs.length = m) {l : List Value} (hl : n + m ≤ l.length) (h1 : ∀ j, j < i → l[j]? = cs[j]?) (h2 : ∀ j, j < m → l[i + j]? = vs[j]?) (h3 : ∀ j, j < n - i → l[i + m + j]? = cs[i + j]?) :
    l.take (n + m) = cs.take i ++ (vs ++ cs.drop i) := by
  apply List.ext_getElem?
  intro j
  simp only [List.getElem?_take, List.getElem?_append, List.getElem?_drop, List.length_take]
  repeat' split
  all_goals first
    | omega
    | (exact h1 j (by omega))
    | (have := h2 (j - i) (by omega); rw [show i + (j - i) = j by omega] at this; rw [this]; congr 1; omega)
    | (have := h3 (j - i - m) (by omega); rw [show i + m + (j - i - m) = j by omega] at this; rw [this]; congr 1; omega)
    | (symm; apply List.getElem?_eq_none; omega)

theorem insM_some {fs : List FuncId} {f : FuncId} {args : List AV} {h : Heap} {L : List (AV × Heap)} (hL : insM fs f args h = some L) :
    ∃ p n i q m cv cs vs k k', f ∈ fs ∧ args = [.slice (some ⟨p, 0⟩) n (.tip 1), .int .i64 (.ofNat i), .slice (some ⟨q, 0⟩) m cv] ∧ h.get p = some (.cells cs k) ∧ h.get q = some (.cells vs k') ∧ ownK k = true ∧ ownK k' = true ∧ p ≠ q ∧ i < n ∧ 1 ≤ m ∧ n + m ≤ 65535 ∧ n ≤ cs.length ∧ m ≤ vs.length ∧ cellsOk (cs.take n) = true ∧ cellsOk (vs.take m) = true ∧
      L = [insOut h p n i m (cs.take n) (vs.take m)] := by
  unfold insM at hL
  rw [cond_eq_ite] at hL
  split at hL
  · rename_i hf
    split at hL
    · rename_i p n i q m cv
      split at hL
      · rename_i cs k vs k' hp hq
        rw [cond_eq_ite] at hL
        split at hL
        · rename_i hb
          cases hL
          simp only [Bool.and_eq_true, Bool.not_eq_true', takeF_eq] at hb
          obtain ⟨⟨⟨⟨⟨⟨⟨⟨⟨b1, b2⟩, b3⟩, b4⟩, b5⟩, b6⟩, b7⟩, b8⟩, b9⟩, b10⟩ := hb
          refine ⟨p, n, i, q, m, cv, cs, vs, k, k', ?_, rfl, hp, hq, b1, b2, Nat.ne_of_beq_eq_false b3, (blt_iff _ _).1 b4, Nat.le_of_ble_eq_true b5, Nat.le_of_ble_eq_true b6, ?_, ?_, by rw [← cellsOkM_eq]; exact b9, by rw [← cellsOkM_eq]; exact b10, by rw [takeF_eq, takeF_eq]⟩
          · obtain ⟨y, hy, he⟩ := List.any_eq_true.1 hf
            rw [Nat.eq_of_beq_eq_true he]; exact hy
          · exact (hasF_iff _ _).1 b7
          · exact (hasF_iff _ _).1 b8
        · cases hL
      · cases hL
    · cases hL
  · cases hL

theorem ownK_free {φ : List Emb} {k : Kind} {t : TypeId} {fr : Nat × Nat} {off size len : Nat} (hk : ownK k = true) (h : OwnOk k t fr off size len) : fr = (0, 0) := by
  cases k with
  | own u => exact (h.1 u rfl).1
  | var u => exact (h.2 u rfl).1
  | str => cases hk
  | ro => cases hk
theorem frozen_free {w : World} {b : Nat} {C : Array Value} {t : TypeId} (hC : w.heap[b]? = some (.cells C t (0, 0))) (o : Nat) : w.frozen? ⟨b, o, none⟩ = false := by
  simp [World.frozen?, hC]
theorem insM_ok {P : Program} {fs : List FuncId} (hc : ∀ f ∈ fs, (f < P.funcs.size ∧ ∀ args w, (callFunc f args).run P w = .ok (.enter f args) w) ∧ InsShift P f ∧ ∃ E z, InsGrow P f E z ∧ z.cells.size = 1) : CallMOk P (insM fs) where
  post := fun f args h L hL => by
    obtain ⟨p, n, i, q, m, cv, acs, avs, k, k', hf, rfl, hp, hq, hk, hk', hpq, hi, hm, hnm, hn, hmv, hok1, hok2, rfl⟩ := insM_some hL
    obtain ⟨⟨hlt, henter⟩, hshift, E, z, hgrow, hz⟩ := hc f hf
    intro φ w0 w args' hR hv
    rw [if_pos hlt]
    have hown : (Obj.cells acs k).isOwn = true := by cases k <;> first | rfl | cases hk
    obtain ⟨e, he, ⟨C, t, fr, hC, htot, hle, hOk, _, hVs⟩, _⟩ := hR.objs p _ hp
    obtain ⟨e2, he2, ⟨C2, t2, fr2, hC2, htot2, hle2, hOk2, _, hVs2⟩, _⟩ := hR.objs q _ hq
    have hfr := ownK_free (φ := φ) hk hOk
    have hfr2 := ownK_free (φ := φ) hk' hOk2
    subst hfr hfr2
    have hne : e2.blk ≠ e.blk := Ne.symm (hR.sep p q _ _ e e2 hpq hp hq he he2 hown)
    -- the arguments
    have hargs : ∃ cap vc, args' = #[.slice (some ⟨e.blk, e.off + 0, none⟩) n cap, .int .i64 i, .slice (some ⟨e2.blk, e2.off + 0, none⟩) m vc] ∧ n ≤ cap ∧ cap = e.tot := by
      simp only [Vs] at hv
      obtain ⟨y, ys, hy, hv1, y2, ys2, rfl, hv2, y3, ys3, rfl, hv3, rfl⟩ := hv
      simp only [V] at hv1 hv2 hv3
      obtain ⟨e', cap, a, he', rfl, hnc, ⟨_, hcap⟩, ha⟩ := hv1
      rw [he] at he'; cases he'
      obtain ⟨e', vc, a2, he', rfl, hmc, _, ha2⟩ := hv3
      rw [he2] at he'; cases he'
      have ha : a = ⟨e.blk, e.off + 0, none⟩ := by
        rcases ha with ha | ⟨h0, _⟩
        · exact ha
        · omega
      have ha2 : a2 = ⟨e2.blk, e2.off + 0, none⟩ := by
        rcases ha2 with ha2 | ⟨h0, _⟩
        · exact ha2
        · omega
      refine ⟨cap, vc, Array.ext' ?_, hnc, by simpa using hcap⟩
      rw [hy, ha, ha2, hv2]
      rfl
    obtain ⟨cap, vc, rfl, hnc, hcap⟩ := hargs
    rw [Nat.add_zero, Nat.add_zero]
    -- the cells
    obtain ⟨cs, hcs⟩ : ∃ cs, cs = ((C.toList.drop e.off).take acs.length).take n := ⟨_, rfl⟩
    obtain ⟨vs, hvs⟩ : ∃ vs, vs = ((C2.toList.drop e2.off).take avs.length).take m := ⟨_, rfl⟩
    have hVc : Vs φ (acs.take n) cs := by rw [hcs]; exact hVs.take n
    have hVv : Vs φ (avs.take m) vs := by rw [hvs]; exact hVs2.take m
    have hcl : cs.length = n := by rw [hVc.length, List.length_take]; omega
    have hvl : vs.length = m := by rw [hVv.length, List.length_take]; omega
    have cell : ∀ (b off lim k : Nat) (D : Array Value) (u : TypeId) (l : List Value), w.heap[b]? = some (.cells D u (0, 0)) → l = ((D.toList.drop off).take lim).take k → ∀ j v, l[j]? = some v → w.cell? ⟨b, off + j, none⟩ = some v := by
      intro b off lim k D u l hD hl j v hj
      subst hl
      rw [List.getElem?_take] at hj
      split at hj
      · rw [List.getElem?_take] at hj
        split at hj
        · rw [List.getElem?_drop, Array.getElem?_toList] at hj
          simp [World.cell?, hD, hj]
        · cases hj
      · cases hj
    have hcc := cell e.blk e.off acs.length n C t cs hC hcs
    have hvc := cell e2.blk e2.off avs.length m C2 t2 vs hC2 hvs
    have h1c := cellsOk_one hok1 hVc
    have h1v := cellsOk_one hok2 hVv
    have hVall : Vs φ ((acs.take n).take i ++ (avs.take m ++ (acs.take n).drop i)) (cs.take i ++ (vs ++ cs.drop i)) := (hVc.take i).append (hVv.append (hVc.drop i))
    have hlen : ((acs.take n).take i ++ (avs.take m ++ (acs.take n).drop i)).length = n + m := by
      rw [← hVall.length]
      simp only [List.length_append, List.length_take, List.length_drop]
      omega
    have fin : ∀ (g off tot : Nat) (w' : World) (C' : Array Value) (t' : TypeId), (g = e.blk ∨ g = w.heap.size) → w'.heap[g]? = some (.cells C' t' (0, 0)) → off + tot = C'.size → (∀ k, k ≠ g → k < w.heap.size → w'.heap[k]? = w.heap[k]?) → w.heap.size ≤ w'.heap.size → w'.os = w.os → w'.tape = w.tape → w'.output = w.output →
        n + m ≤ tot → (∀ j, j < i → C'.toList[off + j]? = cs[j]?) → (∀ j, j < m → C'.toList[off + (i + j)]? = vs[j]?) → (∀ j, j < n - i → C'.toList[off + (i + m + j)]? = cs[i + j]?) →
        LPost P φ w0 [insOut h p n i m (acs.take n) (avs.take m)] (.returned (.slice (some ⟨g, off, none⟩) (n + m) tot)) w' := by
      intro g off tot w' C' t' hg hC' htot' hrest hsz hos htp hout hle' g1 g2 g3
      refine ⟨_, List.mem_singleton.2 rfl, φ ++ [⟨g, off, tot⟩], _, rfl, Up.snoc _ _, ?_, ?_⟩
      · have hus : (C'.toList.drop off).take (n + m) = cs.take i ++ (vs ++ cs.drop i) := ins_list hi hcl hvl (by rw [List.length_drop, Array.length_toList]; omega) (fun j hj => by rw [List.getElem?_drop]; exact g1 j hj) (fun j hj => by rw [List.getElem?_drop]; exact g2 j hj) (fun j hj => by rw [List.getElem?_drop]; exact g3 j hj)
        have := ins_R hR hp hown he g off tot hg hC' htot' hrest hsz hos htp hout hVall (by rw [hlen]; exact hle') (by rw [hlen]; exact hus)
        simpa only [insOut, appF_eq, takeF_eq, dropF_eq] using this
      · simp only [insOut, V]
        exact ⟨⟨g, off, tot⟩, tot, _, new_V (hR.del p) _, rfl, hle', ⟨Nat.one_pos, by simp⟩, .inl rfl⟩
    refine .inl ⟨henter _ _, ?_⟩
    by_cases hroom : n + m ≤ cap
    · -- in place
      have hsize : e.off + (n + m) ≤ C.size := by omega
      refine (hshift e.blk e.off n cap i e2.blk e2.off m vc cs vs w hi hm hroom (by omega) hne hcl hvl hcc (fun j hj => ?_) (fun j _ => frozen_free hC _) hvc h1c h1v t2 t C2.size C.size (by simp [World.shape?, hC2]) (by simp [World.shape?, hC]) (by omega) (frozen_free hC2 _) (frozen_free hC2 _)).mono ?_
      · simp only [World.cell?, hC, Option.isSome_none, Bool.false_eq_true, if_false]
        rw [Array.getElem?_eq_getElem (by omega)]; rfl
      · rintro e' w' ⟨rfl, rfl⟩
        have hdl : (cs.drop i).length = n - i := by rw [List.length_drop, hcl]
        have hb1 := setCells_block e.blk t (0, 0) (cs.drop i) (e.off + (i + m)) w.drew C hC (by rw [hdl]; omega)
        have hs1 : (over C.toList (e.off + (i + m)) (cs.drop i)).length = C.size := by rw [over_length _ _ _ (by rw [hdl, Array.length_toList]; omega), Array.length_toList]
        have hb2 := setCells_block e.blk t (0, 0) vs (e.off + i) _ _ hb1 (by simp only [List.size_toArray, hs1, hvl]; omega)
        obtain ⟨r1, r2, r3, r4, r5⟩ := setCells_rest e.blk (cs.drop i) (e.off + (i + m)) w.drew
        obtain ⟨q1, q2, q3, q4, q5⟩ := setCells_rest e.blk vs (e.off + i) (w.drew.setCells e.blk (e.off + (i + m)) (cs.drop i))
        have at2 : ∀ j, (over (over C.toList (e.off + (i + m)) (cs.drop i)) (e.off + i) vs)[j]? = if j < e.off + i then (over C.toList (e.off + (i + m)) (cs.drop i))[j]? else if j < e.off + i + m then vs[j - (e.off + i)]? else (over C.toList (e.off + (i + m)) (cs.drop i))[j]? := fun j => by
          rw [over_at _ _ _ (by rw [hs1, hvl]; omega), hvl]
        have at1 : ∀ j, (over C.toList (e.off + (i + m)) (cs.drop i))[j]? = if j < e.off + (i + m) then C.toList[j]? else if j < e.off + (i + m) + (n - i) then (cs.drop i)[j - (e.off + (i + m))]? else C.toList[j]? := fun j => by
          rw [over_at _ _ _ (by rw [hdl, Array.length_toList]; omega), hdl]
        rw [hcap]
        refine fin e.blk e.off e.tot _ _ t (.inl rfl) hb2 (by simp only [List.size_toArray]; rw [over_length _ _ _ (by rw [hs1, hvl]; omega), hs1]; exact htot) (fun k hk _ => (q1 k hk).trans (r1 k hk)) (by rw [q2, r2]; exact Nat.le_refl _) (q3.trans r3) (q4.trans r4) (q5.trans r5) (by omega) (fun j hj => ?_) (fun j hj => ?_) (fun j hj => ?_)
        · simp only
          rw [at2, if_pos (by omega), at1, if_pos (by omega), hcs, List.getElem?_take, if_pos (by omega), List.getElem?_take, if_pos (by omega), List.getElem?_drop]
        · simp only
          rw [at2, if_neg (by omega), if_pos (by omega)]
          congr 1; omega
        · simp only
          rw [at2, if_neg (by omega), if_neg (by omega), at1, if_neg (by omega), if_pos (by omega), List.getElem?_drop]
          congr 1; omega
    · -- a new row
      refine (hgrow e.blk e.off n cap i e2.blk e2.off m vc cs vs w hi hm hnc (by omega) (by omega) hcl hvl hcc hvc h1c h1v).mono ?_
      rintro e' w' ⟨rfl, rfl⟩
      obtain ⟨G, hG⟩ : ∃ G, G = grownCap w (n + m) cap E := ⟨_, rfl⟩
      rw [← hG]
      have hGn : n + m ≤ G := by rw [hG]; exact grownCap_ge w _ _ _
      obtain ⟨ROW, hROW⟩ : ∃ ROW : Array Value, ROW = (cs.take i).toArray ++ Builtin.zeroCells z.cells (n + m - i) ++ Builtin.zeroCells z.cells (G - (n + m)) := ⟨_, rfl⟩
      rw [← hROW]
      have hRs : ROW.size = G := by
        rw [hROW]
        simp only [Array.size_append, List.size_toArray, List.length_take, Builtin.zeroCells, Array.size_map, Array.size_range, hz, hcl]
        omega
      have hRi : ∀ j, j < i → ROW.toList[j]? = cs[j]? := fun j hj => by
        rw [hROW, Array.toList_append, Array.toList_append, List.append_assoc, List.getElem?_append_left (by simp [hcl]; omega)]
        simp [hj]
      have hdl : (cs.drop i).length = n - i := by rw [List.length_drop, hcl]
      have hb0 : ((w.alloc (.cells ROW E)).drew).heap[w.heap.size]? = some (.cells ROW E (0, 0)) := by
        show (w.heap.push _)[w.heap.size]? = _
        simp
      have hb1 := setCells_block w.heap.size E (0, 0) vs i _ ROW hb0 (by rw [hRs, hvl]; omega)
      have hs1 : (over ROW.toList i vs).length = G := by rw [over_length _ _ _ (by rw [hvl, Array.length_toList]; omega), Array.length_toList, hRs]
      have hb1' : (((w.alloc (.cells ROW E)).drew.setCells w.heap.size i vs).drew).heap[w.heap.size]? = some (.cells (over ROW.toList i vs).toArray E (0, 0)) := hb1
      have hb2 := setCells_block w.heap.size E (0, 0) (cs.drop i) (i + m) _ _ hb1' (by simp only [List.size_toArray, hs1, hdl]; omega)
      obtain ⟨r1, r2, r3, r4, r5⟩ := setCells_rest w.heap.size vs i (w.alloc (.cells ROW E)).drew
      obtain ⟨q1, q2, q3, q4, q5⟩ := setCells_rest w.heap.size (cs.drop i) (i + m) ((w.alloc (.cells ROW E)).drew.setCells w.heap.size i vs).drew
      have at2 : ∀ j, (over (over ROW.toList i vs) (i + m) (cs.drop i))[j]? = if j < i + m then (over ROW.toList i vs)[j]? else if j < i + m + (n - i) then (cs.drop i)[j - (i + m)]? else (over ROW.toList i vs)[j]? := fun j => by
        rw [over_at _ _ _ (by rw [hs1, hdl]; omega), hdl]
      have at1 : ∀ j, (over ROW.toList i vs)[j]? = if j < i then ROW.toList[j]? else if j < i + m then vs[j - i]? else ROW.toList[j]? := fun j => by
        rw [over_at _ _ _ (by rw [hvl, Array.length_toList]; omega), hvl]
      have hpush : ∀ k, k < w.heap.size → ((w.alloc (.cells ROW E)).drew).heap[k]? = w.heap[k]? := fun k hk => by
        show (w.heap.push _)[k]? = _
        rw [Array.getElem?_push, if_neg (by omega)]
      refine fin w.heap.size 0 G _ _ E (.inr rfl) hb2 (by simp only [List.size_toArray]; rw [over_length _ _ _ (by rw [hs1, hdl]; omega), hs1]; omega) (fun k hk hlt => (q1 k hk).trans ((r1 k hk).trans (hpush k hlt))) (by rw [q2]; show _ ≤ ((w.alloc (.cells ROW E)).drew.setCells w.heap.size i vs).heap.size; rw [r2]; show _ ≤ (w.heap.push _).size; simp) (q3.trans r3) (q4.trans r4) (q5.trans r5) hGn (fun j hj => ?_) (fun j hj => ?_) (fun j hj => ?_)
      · simp only [Nat.zero_add]
        rw [at2, if_pos (by omega), at1, if_pos (by omega), hRi j hj]
      · simp only [Nat.zero_add]
        rw [at2, if_pos (by omega), at1, if_neg (by omega), if_pos (by omega)]
        congr 1; omega
      · simp only [Nat.zero_add]
        rw [at2, if_neg (by omega), if_pos (by omega), List.getElem?_drop]
        congr 1; omega
  grow := fun f args h L hL => by
    obtain ⟨p, n, i, q, m, cv, acs, avs, k, k', hf, rfl, hp, hq, hk, hk', hpq, hi, hm, hnm, hn, hmv, hok1, hok2, rfl⟩ := insM_some hL
    intro x hx
    rw [List.mem_singleton] at hx
    subst hx
    exact (Grows.del _ _).trans (Grows.alloc _ _)
end Go.Am

noncomputable section
namespace Go.Am
open Go.RowKit

section
variable {P : Program} {call : CallM} {plan : FuncId → Nat → Option Plan} {n N fid : Nat}

theorem endAll_mem {dov dcall : CallM} {fn : Func} : ∀ {l : List Res} {L : List (AV × Heap)}, endAll P dov dcall fn l = some L →
    (∀ r ∈ l, ∃ o e h ds h' vs, r = .mk o e h ds ∧ (o = .normal ∨ o = .ret) ∧ runDs dov dcall ds h = some [h'] ∧ resL P fn.ntmps e h' fn.results.toList = some vs ∧ (single1 vs, h') ∈ L) ∧ ∀ p ∈ L, ∃ o e h ds, Res.mk o e h ds ∈ l ∧ runDs dov dcall ds h = some [p.2]
  | [], L, h => by cases h; exact ⟨by simp, by simp⟩
  | r :: l, L, h => by
    obtain ⟨o, e, hh, ds⟩ := r
    have h1 : (Option.rec (motive := fun _ => LR) none (fun a => Option.rec (motive := fun _ => LR) none (fun b => some (appF a b)) (endAll P dov dcall fn l)) (endM P dov dcall fn (.mk o e hh ds))) = some L := h
    cases h2 : endM P dov dcall fn (.mk o e hh ds) with
    | none => rw [h2] at h1; cases h1
    | some x =>
      rw [h2] at h1
      have h1' : (Option.rec (motive := fun _ => LR) none (fun b => some (appF x b)) (endAll P dov dcall fn l)) = some L := h1
      cases h3 : endAll P dov dcall fn l with
      | none => rw [h3] at h1'; cases h1'
      | some y =>
        rw [h3] at h1'
        have hL : L = x ++ y := by rw [← appF_eq]; exact (Option.some.inj h1').symm
        subst hL
        obtain ⟨g1, g2⟩ := endAll_mem h3
        have hx : ∃ h' vs, (o = .normal ∨ o = .ret) ∧ runDs dov dcall ds hh = some [h'] ∧ resL P fn.ntmps e h' fn.results.toList = some vs ∧ x = [(single1 vs, h')] := by
          have h5 : (o = .normal ∨ o = .ret) ∧ endOne P dov dcall fn e hh ds = some x := by
            cases o with
            | normal => exact ⟨.inl rfl, h2⟩
            | ret => exact ⟨.inr rfl, h2⟩
            | exit i => cases h2
            | pan v => cases h2
          obtain ⟨h6, h7⟩ := h5
          have key : ∀ hs : LH, (Option.rec (motive := fun _ => LR) none (fun hs => List.rec (motive := fun _ => LR) none (fun h' t _ => List.rec (motive := fun _ => LR) (Option.rec (motive := fun _ => LR) none (fun vs => some [(single1 vs, h')]) (resL P fn.ntmps e h' fn.results.toList)) (fun _ _ _ => none) t) hs) hs) = some x →
              ∃ h' vs, hs = some [h'] ∧ resL P fn.ntmps e h' fn.results.toList = some vs ∧ x = [(single1 vs, h')] := by
            intro hs hq
            match hs, hq with
            | none, hq => cases hq
            | some [], hq => cases hq
            | some [h'], hq =>
              have hq1 : (Option.rec (motive := fun _ => LR) none (fun vs => some [(single1 vs, h')]) (resL P fn.ntmps e h' fn.results.toList)) = some x := hq
              cases hv : resL P fn.ntmps e h' fn.results.toList with
              | none => rw [hv] at hq1; cases hq1
              | some vs => rw [hv] at hq1; exact ⟨h', vs, rfl, hv, (Option.some.inj hq1).symm⟩
            | some (a :: b :: t), hq => cases hq
          obtain ⟨h', vs, h8, h9, h10⟩ := key _ h7
          exact ⟨h', vs, h6, h8, h9, h10⟩
        obtain ⟨h', vs, ho, hrd, hv, rfl⟩ := hx
        refine ⟨fun r hr => ?_, fun p hp => ?_⟩
        · rcases List.mem_cons.1 hr with rfl | hr
          · exact ⟨o, e, hh, ds, h', vs, rfl, ho, hrd, hv, by simp⟩
          · obtain ⟨o', e', h1', ds', h2', vs', a1, a2, a3, a4, a5⟩ := g1 r hr
            exact ⟨o', e', h1', ds', h2', vs', a1, a2, a3, a4, List.mem_append.2 (.inr a5)⟩
        · rcases List.mem_append.1 hp with hp | hp
          · rw [List.mem_singleton] at hp
            subst hp
            exact ⟨o, e, hh, ds, List.mem_cons_self, hrd⟩
          · obtain ⟨o', e', h1', ds', a1, a2⟩ := g2 p hp
            exact ⟨o', e', h1', ds', List.mem_cons_of_mem _ a1, a2⟩

theorem bodyM_inv {dov : CallM} {fn : Func} {c : Code} {args : List AV} {h : Heap} {L : List (AV × Heap)} (hb : bodyM P (drawX P plan) dov call N fid fn c args h = some L) :
    fits fn args = true ∧ ∃ l L0, exM P (drawX P plan) call false fid fn.ntmps N c leaf (frameM args) h [] = some l ∧ endAll P dov (dcallM P (drawX P plan) call N) fn l = some L0 ∧ L = mergeL h L0 := by
  have h1 : (Bool.rec (motive := fun _ => LR) none (Option.rec (motive := fun _ => LR) none (fun l => Option.rec (motive := fun _ => LR) none (fun L => some (mergeL h L)) (endAll P dov (dcallM P (drawX P plan) call N) fn l)) (exM P (drawX P plan) call false fid fn.ntmps N c leaf (frameM args) h [])) (fits fn args)) = some L := hb
  cases hf : fits fn args with
  | false => rw [hf] at h1; cases h1
  | true =>
    rw [hf] at h1
    refine ⟨rfl, ?_⟩
    cases hx : exM P (drawX P plan) call false fid fn.ntmps N c leaf (frameM args) h [] with
    | none => rw [hx] at h1; cases h1
    | some l =>
      rw [hx] at h1
      have h2 : (Option.rec (motive := fun _ => LR) none (fun L => some (mergeL h L)) (endAll P dov (dcallM P (drawX P plan) call N) fn l)) = some L := h1
      cases he : endAll P dov (dcallM P (drawX P plan) call N) fn l with
      | none => rw [he] at h2; cases h2
      | some L0 =>
        rw [he] at h2
        exact ⟨l, L0, rfl, he, (Option.some.inj h2).symm⟩

theorem bodyM_ok (hF : Fns P) (hm : P.follows .mixedOrders = true) (hcall : CallMOk P call) {dov : CallM} (hdo : DCallOk P dov) {f : FuncId} {fn : Func} {c : Code} (hf : P.funcs[f]? = some fn) (hbd : fn.body = some c) {args : List AV} {h : Heap} {L : List (AV × Heap)} (hb : bodyM P (drawX P plan) dov call N f fn c args h = some L) :
    (CallPost P f args h fun φ w0 => LPost P φ w0 L) ∧ ∀ p ∈ L, Grows h p.2 := by
  obtain ⟨hfit, l, L0, hx, he, rfl⟩ := bodyM_inv hb
  obtain ⟨hn, hl⟩ := fits_some hfit
  have hdc : DCallOk P (dcallM P (drawX P plan) call N) := dcallM_ok hF hm hcall
  obtain ⟨g1, g2⟩ := endAll_mem he
  have hgr : ∀ p ∈ L0, Grows h p.2 := by
    intro p hp
    obtain ⟨o, e, h1, ds, h2, h3⟩ := g2 p hp
    obtain ⟨h', h4, h5⟩ := runDs_grows hdo hdc h3
    cases h4
    exact (leaf_from (exM_from hcall hn c leaf _ _ _ _ hx) _ _ _ _ h2).trans h5
  obtain ⟨m1, m2⟩ := mergeL_run hgr
  refine ⟨?_, m1⟩
  intro φ w0 w args' hR hv
  rw [if_pos (Array.getElem?_eq_some_iff.1 hf).1]
  refine .inl ⟨callFunc_run hF hf hbd _ _, callsR.1 (callsIn_of_wp_marks (F := wideR none) (n := 0) hf hbd trivial ?_)⟩
  refine exM_wp (plan := plan) (fid := f) (N := N) hF hm hcall hn (inR := false) (ρ := none) (fun _ => rfl) (L := l) (w0 := w0) c leaf (bodyPostM (wideR none) 0 P fn (LPost P φ w0 (mergeL h L0))) φ (frameM args) h [] l w
    { tmps := args' ++ Array.replicate (fn.ntmps - args'.size) undef, defers := [] } hx (fun _ hr => hr) hR (frame_V hn hl hv) rfl fun o => leaf_SX fun e h' ds hmem φ' w' a hu hR' he' hd' => ?_
  obtain ⟨o1, e1, h1, ds1, h2, vs, h3, h4, h5, h6, h7⟩ := g1 _ hmem
  cases h3
  have main : LeavesInM (wideR none) 0 P fn a.tmps (LPost P φ w0 (mergeL h L0)) a.defers .returning w' := by
    refine leaves_run hdo hdc h5 hR' hd' fun φ'' w'' hu' hR'' => ?_
    obtain ⟨u, h8, h9⟩ := resL_results hR'' (Vs.up hu' _ _ he') h6
    exact ⟨u, h8, m2 φ w0 w hR _ _ ⟨_, h7, φ'', u, rfl, hu.trans hu', hR'', h9⟩⟩
  rcases h4 with rfl | rfl
  · exact main
  · exact main

/-! ### Rounds -/

theorem putAll_env (hn : n ≤ 256) : ∀ (ps : List Tmp) (vs : List AV) (e : Env), ps.length = vs.length → envL n (putAll n ps vs e) = (ps.zip vs).foldl (fun env p => env.set p.1 p.2) (envL n e)
  | [], vs, e, _ => by
    cases vs with
    | nil => rfl
    | cons v vs => simp at *
  | p :: ps, [], e, h => by simp at h
  | p :: ps, v :: vs, e, h => by
    show envL n (putAll n ps vs ((tmpD n p).put v e)) = _
    rw [putAll_env hn ps vs _ (by simpa using h), tmpD_put hn]
    rfl
theorem foldl_set_V {φ : List Emb} : ∀ (ps : List Tmp) (as : List AV) (vs : List Value) (env : List AV) (T : Array Value), Vs φ as vs → Vs φ env T.toList → Vs φ ((ps.zip as).foldl (fun env p => env.set p.1 p.2) env) ((ps.zip vs).foldl (fun (tmps : Array Value) (p : Tmp × Value) => tmps.setIfInBounds p.1 p.2) T).toList
  | [], as, vs, env, T, _, hT => by simpa using hT
  | p :: ps, [], vs, env, T, hv, hT => by
    rw [Vs_nil] at hv; subst hv
    simpa using hT
  | p :: ps, a :: as, vs, env, T, hv, hT => by
    simp only [Vs] at hv
    obtain ⟨y, ys, rfl, h1, h2⟩ := hv
    simp only [List.zip_cons_cons, List.foldl_cons]
    refine foldl_set_V ps as ys _ _ h2 ?_
    simpa using hT.set p h1

theorem roundEnd_some {k : Nat} {p : Option Code} {h : Heap} {L : List (AV × Heap)} (hr : roundEnd k p h = some L) : ∃ st q m e ps a b d, h.get k = some (.loop st q m e ps a b d) ∧ L = [(.bool p.isNone, h.set k (.loop (if p.isNone then .ready else .done) p m e ps a b d))] := by
  unfold roundEnd at hr
  split at hr
  · rename_i hg
    exact ⟨_, _, _, _, _, _, _, _, hg, (Option.some.inj hr).symm⟩
  · cases hr
theorem roundAll_mem {k : Nat} : ∀ {l : List Res} {L : List (AV × Heap)}, roundAll k l = some L →
    (∀ r ∈ l, ∃ o e h j Lr, r = .mk o e h [] ∧ ((o = .normal ∧ j = none) ∨ (o = .ret ∧ j = some .ret) ∨ ∃ i, o = .exit i ∧ j = some (.exit i)) ∧ roundEnd k j h = some Lr ∧ ∀ p ∈ Lr, p ∈ L) ∧ ∀ p ∈ L, ∃ o e h ds j Lr, Res.mk o e h ds ∈ l ∧ roundEnd k j h = some Lr ∧ p ∈ Lr
  | [], L, h => by cases h; exact ⟨by simp, by simp⟩
  | r :: l, L, h => by
    obtain ⟨o, e, hh, ds⟩ := r
    have h1 : (Option.rec (motive := fun _ => LR) none (fun a => Option.rec (motive := fun _ => LR) none (fun b => some (appF a b)) (roundAll k l)) (roundOut k (.mk o e hh ds))) = some L := h
    cases h2 : roundOut k (.mk o e hh ds) with
    | none => rw [h2] at h1; cases h1
    | some x =>
      rw [h2] at h1
      have h1' : (Option.rec (motive := fun _ => LR) none (fun b => some (appF x b)) (roundAll k l)) = some L := h1
      cases h3 : roundAll k l with
      | none => rw [h3] at h1'; cases h1'
      | some y =>
        rw [h3] at h1'
        have hL : L = x ++ y := by rw [← appF_eq]; exact (Option.some.inj h1').symm
        subst hL
        obtain ⟨g1, g2⟩ := roundAll_mem h3
        have hx : ds = [] ∧ ∃ j, ((o = .normal ∧ j = none) ∨ (o = .ret ∧ j = some .ret) ∨ ∃ i, o = .exit i ∧ j = some (.exit i)) ∧ roundEnd k j hh = some x := by
          cases ds with
          | cons d ds => cases h2
          | nil =>
            refine ⟨rfl, ?_⟩
            cases o with
            | normal => exact ⟨none, .inl ⟨rfl, rfl⟩, h2⟩
            | ret => exact ⟨_, .inr (.inl ⟨rfl, rfl⟩), h2⟩
            | exit i => exact ⟨_, .inr (.inr ⟨i, rfl, rfl⟩), h2⟩
            | pan v => cases h2
        obtain ⟨rfl, j, hj, hre⟩ := hx
        refine ⟨fun r hr => ?_, fun p hp => ?_⟩
        · rcases List.mem_cons.1 hr with rfl | hr
          · exact ⟨o, e, hh, j, x, rfl, hj, hre, fun p hp => List.mem_append.2 (.inl hp)⟩
          · obtain ⟨o', e', h', j', Lr, a1, a2, a3, a4⟩ := g1 r hr
            exact ⟨o', e', h', j', Lr, a1, a2, a3, fun p hp => List.mem_append.2 (.inr (a4 p hp))⟩
        · rcases List.mem_append.1 hp with hp | hp
          · exact ⟨o, e, hh, [], j, x, List.mem_cons_self, hre, hp⟩
          · obtain ⟨o', e', h', ds', j', Lr, a1, a2, a3⟩ := g2 p hp
            exact ⟨o', e', h', ds', j', Lr, List.mem_cons_of_mem _ a1, a2, a3⟩

theorem roundM_inv {k : Nat} {args : List AV} {h : Heap} {L : List (AV × Heap)} (hr : roundM P (drawX P plan) call N k args h = some L) :
    ∃ st q m e ps a b d l, h.get k = some (.loop st q m e ps a b d) ∧ m ≤ 256 ∧ args.length = ps.size ∧ exM P (drawX P plan) call true P.funcs.size m N a (roundBusy P (drawX P plan) call N k m b) (putAll m ps.toList args e) h [] = some l ∧ roundAll k l = some L := by
  unfold roundM at hr
  split at hr
  · rename_i st q m e ps a b d hg
    have h1 : (Bool.rec (motive := fun _ => LR) none (Option.rec (motive := fun _ => LR) none (fun l => roundAll k l) (exM P (drawX P plan) call true P.funcs.size m N a (roundBusy P (drawX P plan) call N k m b) (putAll m ps.toList args e) h [])) (Bool.rec (motive := fun _ => Bool) false (Nat.ble m 256) (Nat.beq (lenF args) ps.size))) = some L := hr
    cases hb : Nat.beq (lenF args) ps.size with
    | false => rw [hb] at h1; cases h1
    | true =>
      rw [hb] at h1
      have hl := Nat.eq_of_beq_eq_true hb
      rw [lenF_eq] at hl
      have h1 : (Bool.rec (motive := fun _ => LR) none (Option.rec (motive := fun _ => LR) none (fun l => roundAll k l) (exM P (drawX P plan) call true P.funcs.size m N a (roundBusy P (drawX P plan) call N k m b) (putAll m ps.toList args e) h [])) (Nat.ble m 256)) = some L := h1
      cases hm : Nat.ble m 256 with
      | false => rw [hm] at h1; cases h1
      | true =>
      rw [hm] at h1
      cases hx : exM P (drawX P plan) call true P.funcs.size m N a (roundBusy P (drawX P plan) call N k m b) (putAll m ps.toList args e) h [] with
      | none => rw [hx] at h1; cases h1
      | some l => rw [hx] at h1; exact ⟨st, q, m, e, ps, a, b, d, l, hg, (ble_iff _ _).1 hm, hl, hx, h1⟩
  · cases hr
theorem roundBusy_inv {k m : Nat} {b : Code} {o : Out} {e : Env} {h : Heap} {ds : List DVM} {l : List Res} (hr : roundBusy P (drawX P plan) call N k m b o e h ds = some l) :
    o = .normal ∧ ∃ q m' e0 ps a' b' d, h.get k = some (.loop .ready q m' e0 ps a' b' d) ∧ exM P (drawX P plan) call true P.funcs.size m N b leaf e (h.set k (.loop .busy q m' e0 ps a' b' d)) ds = some l := by
  cases o with
  | exit i => cases hr
  | ret => cases hr
  | pan v => cases hr
  | normal =>
    refine ⟨rfl, ?_⟩
    have h1 : (match h.get k with
      | some (.loop .ready q m' e0 ps a' b' d) => exM P (drawX P plan) call true P.funcs.size m N b leaf e (h.set k (.loop .busy q m' e0 ps a' b' d)) ds
      | _ => none) = some l := hr
    split at h1
    · rename_i hg; exact ⟨_, _, _, _, _, _, _, hg, h1⟩
    · cases h1

theorem roundM_ok (hF : Fns P) (hm : P.follows .mixedOrders = true) (hcall : CallMOk P call) {k : Nat} {args : List AV} {h : Heap} {L : List (AV × Heap)} (hr : roundM P (drawX P plan) call N k args h = some L) :
    (∀ φ w0 w (args' : Array Value), R P φ h w0 w → Vs φ args args'.toList → ∀ e, φ[k]? = some e → GoesY P e.blk args' w (LPost P φ w0 L)) ∧ (∀ p ∈ L, Grows h p.2) := by
  obtain ⟨st, q, m, e, ps, x, y, d, l, hg, hm256, hl, hx, hra⟩ := roundM_inv hr
  obtain ⟨g1, g2⟩ := roundAll_mem hra
  refine ⟨?_, ?_⟩
  · intro φ w0 w args' hR hv ek hk
    obtain ⟨fn, T, ed, hobj, hTs, hVE, hed⟩ := loop_obj hR hg hk
    have hsz : args'.size = ps.size := by rw [← Array.length_toList, hv.length, hl]
    have hT0 : Vs φ (envL m e) T.toList := by have := Vs_of_VE hVE; rwa [hTs] at this
    refine ⟨fn, _, x, y, run_yield hobj hsz, roundIn_of_wpIn trivial ?_⟩
    have hT : Vs φ (envL m (putAll m ps.toList args e)) ((ps.zip args').foldl (fun (tmps : Array Value) (p : Tmp × Value) => tmps.setIfInBounds p.1 p.2) T).toList := by
      rw [putAll_env hm256 _ _ _ (by simp [hl]), ← Array.foldl_toList, Array.toList_zip]
      exact foldl_set_V _ _ _ _ _ hv hT0
    refine exM_wp (plan := plan) (fid := P.funcs.size) (N := N) hF hm hcall hm256 (inR := true) (ρ := some ek.blk) (fun h0 => by cases h0) (L := l) (w0 := w0) x (roundBusy P (drawX P plan) call N k m y)
      (Exit.then (fun a₁ w₁ => ∃ w₂, (Instr.beginRound ek.blk).run P w₁ = .ok () w₂ ∧ y.wpIn (wideR (some ek.blk)) 0 P (roundPost P ek.blk (LPost P φ w0 L)) a₁ w₂) (fun _ _ _ => False))
      φ _ h [] l w { tmps := _, defers := [] } hx (fun _ hr => hr) hR hT rfl fun o => ?_
    intro e1 h1 ds1 L1 hk1 hs1 φ1 w1 a1 hu1 hR1 he1 hd1
    obtain ⟨rfl, q', m', e0, ps', a', b', d', hg1, hb1⟩ := roundBusy_inv hk1
    have hek1 := hu1.get hk
    obtain ⟨fn1, T1, ed1, hobj1, hTs1, hVE1, hed1⟩ := loop_obj hR1 hg1 hek1
    refine ⟨_, run_beginRound hobj1 rfl, ?_⟩
    have hlt := (Array.getElem?_eq_some_iff.1 hobj1).1
    have hR2 : R P φ1 (h1.set k (.loop .busy q' m' e0 ps' a' b' d')) w0 (w1.putObj ek.blk (.loop { state := .busy, pending := q', fn := fn1, tmps := T1, params := ps', assign := a', body := b', defers := ed1.blk })) :=
      R.set hR1 hg1 rfl hek1 (fun j hj => putObj_other hj) (by simp) rfl rfl rfl ⟨fn1, T1, ed1, World.putObj_heap_same hlt, hTs1, hVE1, hed1⟩
    refine exM_wp (plan := plan) (fid := P.funcs.size) (N := N) hF hm hcall hm256 (inR := true) (ρ := some ek.blk) (fun h0 => by cases h0) (L := l) (w0 := w0) y leaf (roundPost P ek.blk (LPost P φ w0 L))
      φ1 e1 _ ds1 L1 _ a1 hb1 hs1 hR2 he1 hd1 fun o => leaf_SX fun e2 h2 ds2 hmem φ2 w2 a2 hu2 hR3 he2 hd2 => ?_
    obtain ⟨o3, e3, h3, j, Lr, a3, hj, hre, hLr⟩ := g1 _ hmem
    cases a3
    obtain ⟨st4, q4, m4, e4, ps4, x4, y4, d4, hg4, rfl⟩ := roundEnd_some hre
    have hek2 := hu2.get hek1
    obtain ⟨fn4, T4, ed4, hobj4, hTs4, hVE4, hed4⟩ := loop_obj hR3 hg4 hek2
    have hlt4 := (Array.getElem?_eq_some_iff.1 hobj4).1
    have hend := run_endRound (P := P) j hobj4
    have hR4 : R P φ2 (h2.set k (.loop (if j.isNone then .ready else .done) j m4 e4 ps4 x4 y4 d4)) w0 (w2.putObj ek.blk (.loop { state := if j.isNone then .ready else .done, pending := j, fn := fn4, tmps := T4, params := ps4, assign := x4, body := y4, defers := ed4.blk })) :=
      R.set hR3 hg4 rfl hek2 (fun j hj => putObj_other hj) (by simp) rfl rfl rfl ⟨fn4, T4, ed4, World.putObj_heap_same hlt4, hTs4, hVE4, hed4⟩
    have fin : ∃ v w', (Instr.endRound ek.blk j).run P w2 = .ok v w' ∧ LPost P φ w0 L (.returned v) w' :=
      ⟨_, _, hend, _, hLr _ (List.mem_singleton.2 rfl), φ2, _, rfl, hu1.trans hu2, hR4, by simp only [V]⟩
    rcases hj with ⟨rfl, rfl⟩ | ⟨rfl, rfl⟩ | ⟨i, rfl, rfl⟩
    · exact fin
    · exact fin
    · exact fin
  · intro p hp
    obtain ⟨o, e1, h1, ds, j, Lr, hmem, hre, hpL⟩ := g2 p hp
    obtain ⟨st4, q4, m4, e4, ps4, x4, y4, d4, hg4, rfl⟩ := roundEnd_some hre
    rw [List.mem_singleton] at hpL
    subst hpL
    have hfr := exM_from (plan := plan) (fid := P.funcs.size) (N := N) hcall hm256 x _ _ _ _ _ hx
    have hgr : Grows h h1 := by
      refine leaf_from (h := h) (L := l) (hfr.trans fun o' e' h' ds' L' hk => ?_) _ _ _ _ hmem
      obtain ⟨rfl, q', m', e0, ps', a', b', d', hg1, hb1⟩ := roundBusy_inv hk
      exact FromK.grow (Grows.set hg1) (exM_from (plan := plan) (fid := P.funcs.size) (N := N) hcall hm256 y _ _ _ _ _ hb1)
    exact hgr.trans (Grows.set hg4)

/-! ### All calls -/

structure NatMOk (P : Program) (nat : CallF) : Prop where
  ok : CallsOk P nat
  grow : ∀ f args h v h', nat f args h = some (.ret v h') → Grows h h'
theorem natM_some {nat : CallF} {f : FuncId} {args : List AV} {h : Heap} {L : List (AV × Heap)} (hr : natM nat f args h = some L) : ∃ v h', nat f args h = some (.ret v h') ∧ L = [(v, h')] := by
  unfold natM at hr
  split at hr
  · rename_i v h' hn
    exact ⟨v, h', hn, (Option.some.inj hr).symm⟩
  · cases hr

theorem callM_ok (hF : Fns P) (hm : P.follows .mixedOrders = true) {nat : CallF} (hnat : NatMOk P nat) {ov dov : CallM} (hov : CallMOk P ov) (hdo : DCallOk P dov) : ∀ d, CallMOk P (callM P (drawX P plan) nat ov dov N d)
  | 0 => ⟨fun f args h L hL => (by cases hL), fun f args h L hL => (by cases hL)⟩
  | d + 1 => by
    have ih := callM_ok hF hm hnat hov hdo d
    have main : ∀ f args h L, callM P (drawX P plan) nat ov dov N (d + 1) f args h = some L → (CallPost P f args h fun φ w0 => LPost P φ w0 L) ∧ ∀ p ∈ L, Grows h p.2 := by
      intro f args h L hL
      have h1 : (Option.rec (motive := fun _ => LR) (Bool.rec (motive := fun _ => LR) (roundM P (drawX P plan) (callM P (drawX P plan) nat ov dov N d) N (Nat.sub f P.funcs.size) args h)
        (Option.rec (motive := fun _ => LR) none (fun fn => Option.rec (motive := fun _ => LR) (natM nat f args h) (fun c => bodyM P (drawX P plan) dov (callM P (drawX P plan) nat ov dov N d) N f fn c args h) fn.body) (P.funcs[f]?)) (Nat.blt f P.funcs.size)) some (ov f args h)) = some L := hL
      cases ho : ov f args h with
      | some l =>
        rw [ho] at h1
        cases h1
        exact ⟨hov.post _ _ _ _ ho, hov.grow _ _ _ _ ho⟩
      | none =>
        rw [ho] at h1
        have h2 : (Bool.rec (motive := fun _ => LR) (roundM P (drawX P plan) (callM P (drawX P plan) nat ov dov N d) N (Nat.sub f P.funcs.size) args h)
          (Option.rec (motive := fun _ => LR) none (fun fn => Option.rec (motive := fun _ => LR) (natM nat f args h) (fun c => bodyM P (drawX P plan) dov (callM P (drawX P plan) nat ov dov N d) N f fn c args h) fn.body) (P.funcs[f]?)) (Nat.blt f P.funcs.size)) = some L := h1
        cases hb : Nat.blt f P.funcs.size with
        | false =>
          rw [hb] at h2
          obtain ⟨r1, r2⟩ := roundM_ok hF hm ih h2
          have hge : ¬ f < P.funcs.size := fun hh => by rw [(blt_iff _ _).2 hh] at hb; cases hb
          refine ⟨fun φ w0 w args' hR hv => ?_, r2⟩
          rw [if_neg hge]
          exact r1 φ w0 w args' hR hv
        | true =>
          rw [hb] at h2
          have hlt := (blt_iff _ _).1 hb
          cases hf : P.funcs[f]? with
          | none => rw [hf] at h2; cases h2
          | some fn =>
            rw [hf] at h2
            have h3 : (Option.rec (motive := fun _ => LR) (natM nat f args h) (fun c => bodyM P (drawX P plan) dov (callM P (drawX P plan) nat ov dov N d) N f fn c args h) fn.body) = some L := h2
            cases hbd : fn.body with
            | some c => rw [hbd] at h3; exact bodyM_ok hF hm ih hdo hf hbd h3
            | none =>
              rw [hbd] at h3
              obtain ⟨v, h', hn, rfl⟩ := natM_some h3
              refine ⟨fun φ w0 w args' hR hv => ?_, fun p hp => ?_⟩
              · rw [if_pos hlt]
                have := hnat.ok _ _ _ _ hn φ w0 w args' hR hv
                rw [if_pos hlt] at this
                exact this.mono fun e w' hp => ⟨_, List.mem_singleton.2 rfl, hp⟩
              · rw [List.mem_singleton] at hp
                subst hp
                exact hnat.grow _ _ _ _ _ hn
    exact ⟨fun f args h L hL => (main f args h L hL).1, fun f args h L hL => (main f args h L hL).2⟩

/-- Nothing is known beforehand. -/
def noCall : CallM := fun _ _ _ => none
theorem noCall_ok : CallMOk P noCall := ⟨fun f args h L hL => (by cases hL), fun f args h L hL => (by cases hL)⟩
theorem noDCall_ok : DCallOk P noCall := ⟨fun f args h L hL => (by cases hL), fun f args h L hL => (by cases hL)⟩
theorem natCall_grow {ns : List (FuncId × NK)} : ∀ f args h v h', natCall ns f args h = some (.ret v h') → Grows h h' := by
  intro f args h v h' hr
  unfold natCall at hr
  split at hr
  · exact natA_grows hr
  · cases hr
theorem natM_ok {ns : List (FuncId × NK)} (hn : NatsOk P ns) : NatMOk P (natCall ns) := ⟨natCall_ok hn, natCall_grow⟩
end
end Go.Am
