/- 'musterlaw20.DnsNames' returns true. No condition beyond the row's own. -/
import Derived.Test.YtnllflgijnloiaaAmRDCommon
namespace Go.Proofs.Ytnllflgijnloiaa.Names
open Go.ChangeShapes Go.WideShapes Go.ChangeAt Go.RowKit Go.Am
theorem run : isTrue (callX (drawA Try.prog) (fun f => Nat.beq f 25) ovBegin Try.prog 100 20 3 [] (heap0 Try.prog)) = true := by kernel_rfl
theorem ok : CallsOk Try.prog (ovTrue 3) := ovTrue_okX fns_ok mixed_ok ovBegin_ok run
theorem walk {H : Type} {h : Heap} {ds : List (DataW H)} {as' : List AV} (hr : RepsArgs Try.prog h ds [] as') : ∃ h', CallOk Try.prog 3 as' h (.ret (.bool true) h') := by
  obtain ⟨rfl, rfl⟩ := repsArgs_nil hr
  exact ⟨h, ok _ _ _ _ ovTrue_self⟩

set_option maxRecDepth 100000 in
theorem lifted (os : Os) (started : os.Started) (H : Type) (enc : TypeId × Value → H) :
    ReturnsInHanded {} Try.checked os 3 .any (Rows.dnsNamesSpec.pre6 enc Try.prog Try.f3 Rows.dnsNamesRow.domain false) (Rows.dnsNamesSpec.post enc Try.prog Try.f3 false true false false) := by
  refine returnsInHanded_of_change (C := Try.checked) own started (by kernel_rfl) Try.func3
    (ChangeSpec.witness6 (enc := enc) (C := Try.checked) false ⟨#[], #[], []⟩ 8 (by kernel_rfl) (by kernel_rfl) (by kernel_rfl) (by kernel_rfl)) ?_
  intro W base args ds gs before hval0 hW hcnd _
  refine law_contract (dep := 8) (tb := 4) dns_laid fns_ok (by kernel_rfl) rfl rfl rfl u4 ?_ (by kernel_rfl) (by kernel_rfl) hval0 hW ?_
  · intro ds hl
    match ds, hl with
    | [], _ => rfl
  · intro h as' hr _ _ _
    exact walk hr

theorem proved : Rows.DnsNamesSaid :=
  OpenClaim.holds_of_wide 3 Try.f3 rfl rfl rfl rfl rfl rfl rfl ⟨rfl, rfl, rfl, rfl, rfl⟩ rfl rfl rfl rfl rfl (by kernel_rfl) Try.func3 (by kernel_rfl)
    (of_decide_eq_true (by kernel_rfl)) (by unfold Func.isWrapper; first | (rw [if_pos (by decide +kernel)]; kernel_rfl) | (rw [if_neg (by decide +kernel)]; exact ⟨rfl, rfl⟩))
    (fun os started H enc _ => lifted os started H enc)
#print axioms proved
end Go.Proofs.Ytnllflgijnloiaa.Names
