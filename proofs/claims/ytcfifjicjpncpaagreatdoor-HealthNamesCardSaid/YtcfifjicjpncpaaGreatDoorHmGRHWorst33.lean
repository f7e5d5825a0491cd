/- The health seat: slices.Sorted over the keys of its two kinds of maps. -/
import Derived.Test.YtcfifjicjpncpaaGreatDoorHmGRHWorst3
import Derived.Test.YtcfifjicjpncpaaGreatDoorHmGRHWorst25
set_option linter.all false
noncomputable section
namespace Go.Am
open Go.RowKit Go.Proofs Go.Maps Go.Shelf

theorem sorts31 (m : Nat) : AnyZ.SortsIn Tryz.prog Tryz.sorted31_ren Fence.wide m :=
  ⟨fun blk off cap ss W hH hblk hsz => callsIn_wide.2 (AnyM.slices_Sort_string Tryz.sort70 blk off cap ss W hH hblk hsz),
   fun p cap W => callsIn_wide.2 (AnyM.slices_Sort_string_none Tryz.sort70 p cap W)⟩
set_option maxHeartbeats 1000000 in
theorem sk71 : SortsKeys Tryz.prog 9 31 71 := by
  intro Bm b nn D0 R w hBm hcell hown hmax hbytes
  refine (callsIn_wide (n := 5)).1 ?_
  have hseq : SeqGives Fence.wide 2 Tryz.prog 71 #[.pointer (some ⟨Bm, 0, none⟩)] encStr (fun ss => ss.Perm (strKeys D0)) (Maps.size D0) w :=
    AnyZ.keys_gives (ρ := Tryz.keys32_ren) { Tryz.keys32 with } Fence.wide _ trivial rfl (by omega) Bm b nn D0 _ hBm hcell hown
  exact AnyZ.sorted_in Tryz.sorted31 Fence.wide 5 trivial trivial trivial trivial rfl (by omega) (sorts31 _) (enters_of Tryz.func70 (by kernel_rfl) rfl) 71 #[.pointer (some ⟨Bm, 0, none⟩)] trivial (enters_of Tryz.func71 (by kernel_rfl) rfl) _ _ hmax hbytes _ hseq
set_option maxHeartbeats 1000000 in
theorem sk239 : SortsKeys Tryz.prog 9 31 239 := by
  intro Bm b nn D0 R w hBm hcell hown hmax hbytes
  refine (callsIn_wide (n := 5)).1 ?_
  have hseq : SeqGives Fence.wide 2 Tryz.prog 239 #[.pointer (some ⟨Bm, 0, none⟩)] encStr (fun ss => ss.Perm (strKeys D0)) (Maps.size D0) w :=
    AnyZ.keys_gives (ρ := Tryz.keys167_ren) { Tryz.keys167 with } Fence.wide _ trivial rfl (by omega) Bm b nn D0 _ hBm hcell hown
  exact AnyZ.sorted_in Tryz.sorted31 Fence.wide 5 trivial trivial trivial trivial rfl (by omega) (sorts31 _) (enters_of Tryz.func70 (by kernel_rfl) rfl) 239 #[.pointer (some ⟨Bm, 0, none⟩)] trivial (enters_of Tryz.func239 (by kernel_rfl) rfl) _ _ hmax hbytes _ hseq
theorem hSort_ok : CallMOk Tryz.prog (sortedM [31] [71, 239]) := sortedM_ok (K := 9) (by kernel_rfl) fun f hf => by
  rw [List.mem_singleton] at hf
  subst hf
  refine ⟨⟨(blt_iff _ _).1 (by kernel_rfl), fun args w => enters_of Tryz.func31 (by kernel_rfl) rfl args w⟩, fun g hg => ?_⟩
  rcases List.mem_cons.1 hg with rfl | hg
  · exact sk71
  · rw [List.mem_singleton] at hg
    subst hg
    exact sk239
end Go.Am
