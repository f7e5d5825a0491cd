/- A call of one goroutine: the row that says 'leaving' and lets time pass. -/
import Derived.Conc.HoldsTime
import Derived.Handed
namespace Go.Am
open Go Go.RowKit

theorem onlyLeaving_of_quiet {P : Program} {m : Machine} (h : m.quiet) : m.OnlyLeaving P := by
  refine ⟨fun g hg => ⟨0, ?_⟩, h.2⟩
  have h1 := h.1
  unfold Machine.othersDone at h1
  have h2 := List.all_eq_true.1 h1 g hg
  show g.status = .finished
  revert h2
  cases g.status <;> first | (intro _; rfl) | (intro h; cases h)
theorem leaving_of_handed {a : Assume} {C : Checked} {os : Os} {f : FuncId} {r : Reach} {Pre : World → Array Value → Prop} {Post : World → Array Value → Value → World → Prop} (h : ReturnsInHanded a C os f r Pre Post) : ReturnsInLeavingWide a C os f r Pre Post := fun enter => by
  obtain ⟨h1, h2, h3, h4, h5⟩ := h enter
  refine ⟨h1, h2, h3, h4, fun w tape i hfit => ?_⟩
  obtain ⟨n, v, w', g1, g2, g3, g4, ⟨j, last, q1, q2, q3⟩, g6⟩ := h5 w tape i hfit
  exact ⟨n, v, w', g1, g2, g3, g4, ⟨j, last, q1, q2, q3.2.1, onlyLeaving_of_quiet q3.1, q3.2.2⟩, g6⟩

section
variable {H : Type} {enc : TypeId × Value → H}
theorem handed_time {a : Assume} {C : Checked} {os : Os} {f : FuncId} {fn : Func} {s : ChangeSpec} {F : Stop.Interp} {conds : List PathCond} {apart fresh handsOn : Bool}
    (own : ownKnob C.prog.godebug = none) (started : os.Started) (noInit : C.prog.inits.idxOf? f = none) (hfn : C.prog.funcs[f]? = some fn)
    (witness : ∃ (w : World) (tape : Tape) (i : Input), w.os = os ∧ (w.forCall tape i).Shaped C.prog ∧ i.vars = [] ∧ Input.okWide C.prog (w.forCall tape i) .any w.heap.size f i ∧
      s.pre6 enc C.prog fn conds apart (w.forCall tape i).memory i.args ∧ a.holds C.prog (lone (Frame.enter C.prog f i.args .normal) [] (w.forCall tape i)))
    (contract : ∀ (W : World) (base : Nat) (args : Array Value) (ds gs : List (DataW H)) (before : List MemPlace),
      (∀ (j : Nat) t v, fn.params[j]? = some t → args[j]? = some v → Value.okWide C.prog W .any base t v) →
      DataW.Whole enc C.prog fn.params.toList s.vars apart W args.toList ds gs before →
      conds.all (PathCond.test C.prog ⟨fn.params.toList, ds, s.plain.varTypes C.prog, gs⟩) = true →
      (DataW.weightsEach C.prog (fn.params.toList ++ s.plain.varTypes C.prog) (ds ++ gs)).all (· ≤ reachBytes) = true →
      Calls C.prog f args W fun e W' => ∃ v, e = .returned v ∧ s.post enc C.prog fn apart fresh handsOn false W args v W') :
    ReturnsInHanded a C os f .any (s.pre6 enc C.prog fn conds apart) ((OpenSpec.ofChange s).postWith enc C.prog fn F (outsideKept [.timePasses]) apart fresh handsOn) := by
  refine returnsInHanded_of_calls own started noInit witness ?_
  intro w tape i _ _ _ hok hpre _
  obtain ⟨_, _, _, fn', hfn', _, _, _, _, hval⟩ := hok
  have e : fn' = fn := Option.some.inj (hfn'.symm.trans hfn)
  subst e
  obtain ⟨⟨ds, gs, before, hw, hc⟩, hz⟩ := hpre
  have hw' := DataW.Whole.of_heap (w' := w.forCall tape i) (by rfl) hw
  refine (contract (w.forCall tape i) w.heap.size i.args ds gs before hval hw' hc (hz.weights hw)).mono fun e W' hx => ?_
  obtain ⟨v, rfl, hp⟩ := hx
  have hos : W'.os = (w.forCall tape i).os := by
    obtain ⟨_, _, _, _, _, _, _, _, _, _, hk, _⟩ := hp
    exact hk.1
  refine postWith_blind (postWith_of_post ?_ ⟨0, by rw [hos]; rfl⟩)
  have : ({ W' with os := (w.forCall tape i).os } : World) = W' := by rw [← hos]
  rw [this]
  exact hp
end
end Go.Am
