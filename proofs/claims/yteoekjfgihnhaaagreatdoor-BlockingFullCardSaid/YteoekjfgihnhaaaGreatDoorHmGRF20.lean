/- Is a watch fired? A call whose answer is read off memory. -/
import Derived.Test.YteoekjfgihnhaaaGreatDoorHmGRF15
import Derived.Test.YteoekjfgihnhaaaGreatDoorHmGRF17
set_option linter.all false
noncomputable section
namespace Go.Am
open Go.RowKit

/-- The function, the type of a watch, of its channel. -/
def firedM (P : Program) (f0 : FuncId) (ws ct : TypeId) : CallM := fun f args h => bif Nat.beq f f0 then (match args with
  | [.ptr (some l)] => (match fieldAddrA P ws (.ptr (some l)) 1 with
    | some (.ptr (some l2)) => (match loadA P h ct l2 with
      | some (.chan (some i)) => (match h.get i with | some (.chan 0 [] b) => some [(.bool b, h)] | _ => none)
      | _ => none)
    | _ => none)
  | _ => none) else none
theorem firedM_ok {P : Program} {f0 : FuncId} {ws ct : TypeId} (H : ∀ (h : Heap) (l l2 : Loc) (i : Nat) (b : Bool), fieldAddrA P ws (.ptr (some l)) 1 = some (.ptr (some l2)) → loadA P h ct l2 = some (.chan (some i)) → h.get i = some (.chan 0 [] b) → CallOk P f0 [.ptr (some l)] h (.ret (.bool b) h)) : CallMOk P (firedM P f0 ws ct) := by
  have key : ∀ f args h L, firedM P f0 ws ct f args h = some L → ∃ b, L = [(.bool b, h)] ∧ CallOk P f args h (.ret (.bool b) h) := by
    intro f args h L hL
    unfold firedM at hL
    rw [cond_eq_ite] at hL
    split at hL
    · rename_i hf
      have hf := Nat.eq_of_beq_eq_true hf
      subst hf
      split at hL
      · split at hL
        · rename_i l2 h1
          split at hL
          · rename_i i h2
            split at hL
            · rename_i b h3
              cases hL
              exact ⟨b, rfl, H h _ l2 i b h1 h2 h3⟩
            · cases hL
          · cases hL
        · cases hL
      · cases hL
    · cases hL
  refine ⟨fun f args h L hL => ?_, fun f args h L hL p hp => ?_⟩
  · obtain ⟨b, rfl, hc⟩ := key f args h L hL
    intro φ w0 w args' hR hV
    have := hc φ w0 w args' hR hV
    split
    · rename_i hlt
      rw [if_pos hlt] at this
      exact this.mono fun e w' he => ⟨_, List.mem_singleton.2 rfl, he⟩
    · rename_i hlt
      rw [if_neg hlt] at this
      exact fun e he => (this e he).mono fun e w' he => ⟨_, List.mem_singleton.2 rfl, he⟩
  · obtain ⟨b, rfl, _⟩ := key f args h L hL
    rw [List.mem_singleton] at hp
    subst hp
    exact Grows.refl _
end Go.Am
