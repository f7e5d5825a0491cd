/- A call of one goroutine: the row that says 'leaving', lets time pass, and speaks of small inputs only. -/
import Derived.Test.YtobgmjljbdehnaaAmLeavA
import Derived.JoinedCond
namespace Go.Am
open Go Go.RowKit Go.Conc Go.ConcM

section
variable {H : Type} {enc : TypeId × Value → H}
theorem upto_witness {C : Checked} {os : Os} {f : FuncId} {fn : Func} {s : OpenSpec} {k : (H : Type) → List (DataW H) → Bool} (hk : s.cond = some k) {conds : List PathCond} {apart : Bool} (i : Input) (fuel : Nat)
    (hv : (World.plainHolding C.prog os i).variablesB C.prog = true)
    (hr : ((World.plainHolding C.prog os i).heap.toList.drop C.prog.globals.size).take ((begin C.prog (fun _ _ => 0) default).world.heap.size - C.prog.globals.size) =
      (begin C.prog (fun _ _ => 0) default).world.heap.toList.drop C.prog.globals.size)
    (hok : Input.okWideB C.prog (World.plainHolding C.prog os i) f ⟨#[], i.args, []⟩ = true)
    {x : List (DataW H) × List (DataW H) × List MemPlace} (hx : DataW.whole enc C.prog (World.plainHolding C.prog os i).memory fn.params.toList s.vars apart i.args.toList fuel = some x)
    (hconds : conds.all (PathCond.test C.prog ⟨fn.params.toList, x.1, s.bare.plain.varTypes C.prog, x.2.1⟩) = true) (hkk : k H (x.1 ++ x.2.1) = true)
    (hsz : s.bare.sizedB enc C.prog fn apart (World.plainHolding C.prog os i).memory i.args fuel = true := by kernel_rfl) :
    ∃ (w : World) (tape : Tape) (i : Input), w.os = os ∧ (w.forCall tape i).Shaped C.prog ∧ i.vars = [] ∧ Input.okWide C.prog (w.forCall tape i) .any w.heap.size f i ∧
      s.pre6 enc C.prog fn conds apart (w.forCall tape i).memory i.args ∧ ({ calm := true } : Assume).holds C.prog (lone (Frame.enter C.prog f i.args .normal) [] (w.forCall tape i)) :=
  ⟨World.holding C.prog os i, fun _ _ => 0, ⟨#[], i.args, []⟩, rfl, World.shaped_of_B hv hr, (Input.okWide_of_okWideB (base := 0) hok).1, (Input.okWide_of_okWideB hok).2,
    ⟨(OpenSpec.pre_some hk conds apart _ _).2 ⟨x.1, x.2.1, x.2.2, DataW.Whole_of_whole hx, hconds, hkk⟩, sizedMet_of_sizedB hsz⟩, by
    simp only [Assume.holds]
    exact ⟨by simp, fun _ _ _ _ => rfl, by simp, by simp, by simp⟩⟩

theorem handed_time_upto {a : Assume} {C : Checked} {os : Os} {f : FuncId} {fn : Func} {s : ChangeSpec} {k : (H : Type) → List (DataW H) → Bool} {F : Stop.Interp} {conds : List PathCond} {apart fresh handsOn : Bool}
    (own : ownKnob C.prog.godebug = none) (started : os.Started) (noInit : C.prog.inits.idxOf? f = none) (hfn : C.prog.funcs[f]? = some fn)
    (witness : ∃ (w : World) (tape : Tape) (i : Input), w.os = os ∧ (w.forCall tape i).Shaped C.prog ∧ i.vars = [] ∧ Input.okWide C.prog (w.forCall tape i) .any w.heap.size f i ∧
      ({ OpenSpec.ofChange s with cond := some k } : OpenSpec).pre6 enc C.prog fn conds apart (w.forCall tape i).memory i.args ∧ a.holds C.prog (lone (Frame.enter C.prog f i.args .normal) [] (w.forCall tape i)))
    (contract : ∀ (W : World) (base : Nat) (args : Array Value) (ds gs : List (DataW H)) (before : List MemPlace),
      (∀ (j : Nat) t v, fn.params[j]? = some t → args[j]? = some v → Value.okWide C.prog W .any base t v) →
      DataW.Whole enc C.prog fn.params.toList s.vars apart W args.toList ds gs before →
      conds.all (PathCond.test C.prog ⟨fn.params.toList, ds, s.plain.varTypes C.prog, gs⟩) = true → k H (ds ++ gs) = true →
      Calls C.prog f args W fun e W' => ∃ v, e = .returned v ∧ s.post enc C.prog fn apart fresh handsOn false W args v W') :
    ReturnsInHanded a C os f .any (({ OpenSpec.ofChange s with cond := some k } : OpenSpec).pre6 enc C.prog fn conds apart) (({ OpenSpec.ofChange s with cond := some k } : OpenSpec).postWith enc C.prog fn F (outsideKept [.timePasses]) apart fresh handsOn) := by
  refine returnsInHanded_of_calls own started noInit witness ?_
  intro w tape i _ _ _ hok hpre _
  obtain ⟨_, _, _, fn', hfn', _, _, _, _, hval⟩ := hok
  have e : fn' = fn := Option.some.inj (hfn'.symm.trans hfn)
  subst e
  obtain ⟨ds, gs, before, hw, hc, hkk⟩ := (OpenSpec.pre_some (s := { OpenSpec.ofChange s with cond := some k }) rfl conds apart _ _).1 hpre.1
  have hw' := DataW.Whole.of_heap (w' := w.forCall tape i) (by rfl) hw
  refine (contract (w.forCall tape i) w.heap.size i.args ds gs before hval hw' hc hkk).mono fun e W' hx => ?_
  obtain ⟨v, rfl, hp⟩ := hx
  have hos : W'.os = (w.forCall tape i).os := by
    obtain ⟨_, _, _, _, _, _, _, _, _, _, hk, _⟩ := hp
    exact hk.1
  refine postWith_blind (s := { OpenSpec.ofChange s with cond := some k }) (show (OpenSpec.ofChange s).postWith enc C.prog fn' F (outsideKept [.timePasses]) apart fresh handsOn (w.forCall tape i) i.args v W' from postWith_of_post ?_ ⟨0, by rw [hos]; rfl⟩)
  have : ({ W' with os := (w.forCall tape i).os } : World) = W' := by rw [← hos]
  rw [this]
  exact hp
end

theorem OpenClaim.holds_of_cond_leaving_time {p : Pinned} {s : OpenSpec} {c : OpenClaim} (f : FuncId) (fn : Func)
    (hn : c.program = p.name) (hs : c.sum = p.sum) (hsp : c.spec = s.name)
    (hstart : c.start = .entering) (hout : c.outside = [.timePasses]) (hin : c.inits = []) (hun : c.under = none) (hi4 : c.initsInPlace = [] ∧ c.initsUnfollowed = false ∧ c.initsRecurse = false ∧ c.initsNamed = [] ∧ c.initsPassed = []) (hnb : c.noBlocks = false) (hlv : c.leaving = true) (hfo : c.followed = none) (hnar : c.narrowed = s.cond.isSome) (hstill : c.still = false)
    (hfn : p.checked.prog.funcNamed c.func = some f) (hf : p.checked.prog.funcs[f]? = some fn)
    (closed : joinedFacts p.checked.prog f fn s.bare c = true)
    (hinst : fn.isInstance p.checked.prog c.origin c.targs) (hwrap : fn.isWrapper p.checked.prog c.wrapper c.mainSum)
    (h : ∀ os : Os, os.Started → ∀ (H : Type) (enc : TypeId × Value → H), (∀ a b, enc a = enc b → a = b) →
      ∀ F : Stop.Interp, ReturnsInLeavingWide c.assume p.checked os f .any (c.pre enc p.checked.prog fn s) (s.postWith enc p.checked.prog fn F (outsideKept [.timePasses]) c.apart c.fresh c.handsOn)) : c.holds p s := by
  simp only [joinedFacts, Bool.and_eq_true, beq_iff_eq, Array.all_eq_true_iff_forall_mem, List.all_eq_true, decide_eq_true_eq] at closed
  obtain ⟨⟨⟨⟨⟨⟨⟨⟨⟨⟨⟨⟨⟨⟨⟨⟨⟨⟨⟨⟨⟨⟨⟨⟨⟨⟨⟨⟨⟨⟨⟨k1, k2⟩, k3⟩, k4⟩, k5⟩, k6⟩, k7⟩, k8⟩, k9⟩, k10⟩, k11⟩, k12⟩, k13⟩, k14⟩, k15⟩, k16⟩, k17⟩, k17b⟩, k18⟩, k19⟩, k20⟩, k21⟩, k22⟩, k23⟩, k23b⟩, k24⟩, k24b⟩, k24c⟩, k25⟩, k26⟩, k27⟩, k28⟩ := closed
  have hq : ∀ os : Os, Stop.quiet p.checked.prog os := fun os k hk => by rw [k9] at hk; cases hk
  refine ⟨k1, hn, hs, hsp, k2, k3, by unfold OpenClaim.startFits; rw [hstart]; exact k24, by unfold OpenClaim.startTold; rw [hstart]; exact ⟨hin, hun, hi4⟩, f, fn, hfn, hf, ⟨k4, k19⟩, (fun hb => by rw [hnb] at hb; cases hb), by unfold OpenClaim.namedList; rw [hfo]; exact k5, hinst, hwrap,
    k6.trans k7.symm, ⟨k8.trans k9.symm, by unfold Program.envWorded; rw [k9]; rfl, k23b⟩, k10, k11, k12, k13, k14, ⟨k15, k27, k28⟩, ⟨k16, k20⟩, ⟨k17, k21, k25, k26⟩, ⟨k22, k24b, k24c, k17b⟩, (by rw [hout, hnar]; cases hsh : c.shortTexts with | none => (simp; intro hh; cases hh) | some _ => rw [hsh] at k23; cases k23), fun n hn' => varReadable_some (k18 n hn'),
    ⟨_, by unfold OpenClaim.world; rw [hout, hstart]; exact ⟨WideRow.started_initial, fun o ho => by simp at ho; subst ho; trivial⟩, hq _⟩, [], by unfold OpenClaim.lists; rw [hfo], fun os st _ H enc inj => ?_⟩
  have st' : os.Started := by unfold OpenClaim.world at st; rw [hout, hstart] at st; exact st.1
  rw [OpenClaim.post_not_still hstill]
  unfold OpenClaim.form
  rw [hstart, k6]
  intro F
  have e1 : c.okInput = Input.okWide := by unfold OpenClaim.okInput; rw [hnb]
  have e2 : c.atReturn p.checked.prog = leavingAtReturn p.checked.prog := by unfold OpenClaim.atReturn; rw [hlv]
  have e3 : c.always p.checked.prog [] = nothingAlways := by unfold OpenClaim.always; rw [hfo]
  have e4 : s.post enc p.checked.prog fn F c.outside c.apart c.fresh c.handsOn c.again = s.postWith enc p.checked.prog fn F (outsideKept [.timePasses]) c.apart c.fresh c.handsOn := by rw [hout]; rfl
  rw [e1, e2, e3]
  show ReturnsInOpen _ _ _ _ _ _ _ _ (s.post enc p.checked.prog fn F c.outside c.apart c.fresh c.handsOn c.again) _ _
  rw [e4]
  exact h os st' H enc inj F k24
end Go.Am
