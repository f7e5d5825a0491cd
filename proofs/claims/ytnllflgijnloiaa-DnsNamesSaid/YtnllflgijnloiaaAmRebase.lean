/- A run from nothing holds over any memory. -/
import Derived.Test.YtnllflgijnloiaaAmLaw
import Derived.Test.YtnllflgijnloiaaAmLim
namespace Go.Am
open Go.RowKit

section
variable {P : Program}

theorem R.after {φ : List Emb} {h : Heap} {w0 w w' : World} (hR : R P φ h w0 w) (hb : Below w.heap.size w w') : R P φ h w0 w' where
  below := hR.below.trans ⟨hb.os, hb.tape, hb.output, hb.size, fun k hk => hb.block k (Nat.lt_of_lt_of_le hk hR.below.size)⟩
  len := hR.len
  objs := fun i o hi => by
    obtain ⟨e, he, ho, hw⟩ := hR.objs i o hi
    exact ⟨e, he, O.same (hb.block _ ho.lt) ho, hw⟩
  sep := hR.sep
  glob := hR.glob

theorem rebase {f : FuncId} {b : Bool} {h1 : Heap} (hc : CallOk P f [] (heap0 P) (.ret (.bool b) h1)) (h : Heap) : CallOk P f [] h (.ret (.bool b) h) := by
  intro φ w0 w args hR hV
  have hV' : Vs (glob0 P) [] args.toList := by rw [Vs_nil] at hV ⊢; exact hV
  refine (hc (glob0 P) w w args (R.zero w) hV').mono ?_
  rintro e w' ⟨φ', v', rfl, _, hR', hv⟩
  exact ⟨φ, v', rfl, Up.refl _, hR.after hR'.below, by simpa [V] using hv⟩

/-- A function without arguments is known to answer true. -/
def ovTrue (f : FuncId) : CallF := fun g a h => match a with
  | [] => bif Nat.beq g f then some (.ret (.bool true) h) else none
  | _ => none
def isTrue : Option CRes → Bool
  | some (.ret (.bool true) _) => true
  | _ => false
theorem ovTrue_ok (hF : Fns P) (hm : P.follows .mixedOrders = true) {f : FuncId} {n d : Nat} (hr : isTrue (callN (drawA P) (fun _ _ _ => none) P n d f [] (heap0 P)) = true) : CallsOk P (ovTrue f) := by
  intro g a h r ho
  unfold ovTrue at ho
  split at ho
  · cases hb : Nat.beq g f with
    | false => simp [hb] at ho
    | true =>
      have := Nat.eq_of_beq_eq_true hb
      subst this
      simp only [hb, cond_true, Option.some.injEq] at ho
      subst ho
      have hD := callN_ok hF (drawA_ok hF hm) (ov := fun _ _ _ => none) (fun _ _ _ _ h => by cases h) (n := n) d
      generalize hx : callN (drawA P) (fun _ _ _ => none) P n d g [] (heap0 P) = x at hr
      match x, hr with
      | some (.ret (.bool true) h1), _ => exact rebase (hD _ _ _ _ hx) h
  · cases ho
theorem ovTrue_self {f : FuncId} {h : Heap} : ovTrue f f [] h = some (.ret (.bool true) h) := by simp [ovTrue]
theorem ovTrue_ne {f g : FuncId} (hn : Nat.beq g f = false) (a : List AV) (h : Heap) : ovTrue f g a h = none := by
  cases a <;> simp [ovTrue, hn]
end
end Go.Am
