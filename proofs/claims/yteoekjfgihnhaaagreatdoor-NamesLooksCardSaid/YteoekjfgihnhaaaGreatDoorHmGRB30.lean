/- The health seat: slices.Insert at the nodes' kids, ahead of the end. -/
import Derived.Test.YteoekjfgihnhaaaGreatDoorHmGRB1
import Derived.Test.YteoekjfgihnhaaaGreatDoorHmGRB24
set_option linter.all false
noncomputable section
namespace Go.Am
open Go.RowKit Go.Proofs

theorem hIns_ok : CallMOk Tryz.prog (insM [275]) := insM_ok fun f hf => by
  rw [List.mem_singleton] at hf
  subst hf
  refine ⟨⟨(blt_iff _ _).1 (by kernel_rfl), fun args w => enters_of Tryz.func275 (by kernel_rfl) rfl args w⟩, ?_, 359, .pointer none, ?_, by kernel_rfl⟩
  · intro b off n c i vb voff m vc cs vs w hi hm hroom hb hvb hcl hvl hcs hsp hfz hvs h1c h1v tA tB kA kB hsa hsb hkB hfa hfe
    exact ins_shift b off n c i vb voff m vc cs vs w hi hm hroom hb hvb hcl hvl hcs hsp hfz hvs h1c h1v tA tB kA kB hsa hsb hkB hfa hfe
  · intro b off n c i vb voff m vc cs vs w hi hm hnc hroom hbig hcl hvl hcs hvs h1c h1v
    exact ins_grow b off n c i vb voff m vc cs vs w hi hm hnc hroom hbig hcl hvl hcs hvs h1c h1v
end Go.Am
