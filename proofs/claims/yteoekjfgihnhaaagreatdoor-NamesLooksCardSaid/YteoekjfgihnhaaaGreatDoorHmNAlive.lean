/- The run's root is known to answer true over any memory in which schema.kinds is as the text lays it. -/
import Derived.Test.YteoekjfgihnhaaaGreatDoorHmNMain
import Derived.Test.YteoekjfgihnhaaaGreatDoorHmGRB32
import Derived.Test.YteoekjfgihnhaaaGreatDoorHmGRB29
set_option linter.all false
noncomputable section
namespace Go.Am
open Go.RowKit Go.Proofs

theorem isTrueM_some {r : Option (List (AV × Heap))} (h : NSt.isTrueM r = true) : ∃ h1, r = some [(.bool true, h1)] := by
  unfold NSt.isTrueM at h
  split at h
  · exact ⟨_, rfl⟩
  · cases h
theorem alive_some : ∃ h1, NSt.hTop 6 [] hHeap = some [(.bool true, h1)] := isTrueM_some NSt.alive
set_option maxRecDepth 100000 in
theorem alive_call {φ : List Emb} {h : Heap} {w0 w : World} (hR : R Tryz.prog φ h w0 w) (hk : h.get 1 = some kindsO) : Goes Tryz.prog 6 #[] w (fun e w' => e = .returned (.bool true) ∧ Below w.heap.size w w') := by
  obtain ⟨h1, hx⟩ := alive_some
  have hp : CallPost Tryz.prog 6 [] hHeap fun φ w0 => LPost Tryz.prog φ w0 [(.bool true, h1)] := NSt.hTop_ok.post 6 [] hHeap [(.bool true, h1)] hx
  have hc := hp (φ.take 10) w w #[] (hR.restrict hk) (Vs_nil.2 rfl)
  have hlt : (6 : Nat) < Tryz.prog.funcs.size := (blt_iff _ _).1 (by kernel_rfl)
  rw [if_pos hlt] at hc
  refine hc.mono ?_
  rintro e w' ⟨q, hq, φ', v', rfl, _, hR', hv⟩
  rw [List.mem_singleton] at hq
  subst hq
  have hv : V φ' (.bool true) v' := hv
  simp only [V] at hv
  subst hv
  exact ⟨rfl, hR'.below⟩

def ovAlive : CallF := fun f a h => match a with
  | [] => bif Nat.beq f 6 then (match h.get 1 with | some o => bif eqObj o kindsO then some (.ret (.bool true) h) else none | none => none) else none
  | _ => none
theorem ovAlive_self {h : Heap} (hk : h.get 1 = some kindsO) : ovAlive 6 [] h = some (.ret (.bool true) h) := by
  have h1 : eqObj kindsO kindsO = true := by kernel_rfl
  simp [ovAlive, hk, h1]
theorem ovAlive_ne {g : FuncId} (hn : Nat.beq g 6 = false) (a : List AV) (h : Heap) : ovAlive g a h = none := by
  cases a <;> simp [ovAlive, hn]
theorem ovAlive_ok : CallsOk Tryz.prog ovAlive := by
  intro g a h r ho
  unfold ovAlive at ho
  split at ho
  · rw [cond_eq_ite] at ho
    split at ho
    · rename_i hg
      have hg := Nat.eq_of_beq_eq_true hg
      subst hg
      split at ho
      · rename_i o hk
        rw [cond_eq_ite] at ho
        split at ho
        · rename_i hb
          cases ho
          have hk0 : o = kindsO := eqObj_eq hb
          subst hk0
          intro φ w0 w args hR hV
          have ha : args = #[] := by rw [Vs_nil] at hV; exact Array.ext' (by simpa using hV)
          subst ha
          have hlt : (6 : Nat) < Tryz.prog.funcs.size := (blt_iff _ _).1 (by kernel_rfl)
          rw [if_pos hlt]
          refine (alive_call hR hk).mono ?_
          rintro e w' ⟨rfl, hb⟩
          exact ⟨φ, _, rfl, Up.refl _, hR.later hb, by simp [V]⟩
        · cases ho
      · cases ho
    · cases ho
  · cases ho
end Go.Am
