/- The seat: slices.Sorted over the keys of its two kinds of maps (printed by seatgen.py). -/
import Derived.Test.YteoekjfgihnhaaaGreatDoorHmGRB3
import Derived.Test.YteoekjfgihnhaaaGreatDoorHmGRB29
set_option linter.all false
noncomputable section
namespace Go.Am
open Go.RowKit Go.Proofs Go.Maps Go.Shelf

theorem sorts (m : Nat) : AnyZ.SortsIn Tryz.prog Tryz.sorted171_ren Fence.wide m :=
  ⟨fun blk off cap ss W hH hblk hsz => callsIn_wide.2 (AnyM.slices_Sort_string Tryz.sort201 blk off cap ss W hH hblk hsz),
   fun p cap W => callsIn_wide.2 (AnyM.slices_Sort_string_none Tryz.sort201 p cap W)⟩
set_option maxHeartbeats 1000000 in
theorem sk242 : SortsKeys Tryz.prog 9 171 242 := by
  intro Bm b nn D0 R w hBm hcell hown hmax hbytes
  refine (callsIn_wide (n := 5)).1 ?_
  have hseq : SeqGives Fence.wide 2 Tryz.prog 242 #[.pointer (some ⟨Bm, 0, none⟩)] encStr (fun ss => ss.Perm (strKeys D0)) (Maps.size D0) w :=
    AnyZ.keys_gives (ρ := Tryz.keys172_ren) { Tryz.keys172 with } Fence.wide _ trivial rfl (by omega) Bm b nn D0 _ hBm hcell hown
  exact AnyZ.sorted_in Tryz.sorted171 Fence.wide 5 trivial trivial trivial trivial rfl (by omega) (sorts _) (enters_of Tryz.func201 (by kernel_rfl) rfl) 242 #[.pointer (some ⟨Bm, 0, none⟩)] trivial (enters_of Tryz.func242 (by kernel_rfl) rfl) _ _ hmax hbytes _ hseq
set_option maxHeartbeats 1000000 in
theorem sk277 : SortsKeys Tryz.prog 9 171 277 := by
  intro Bm b nn D0 R w hBm hcell hown hmax hbytes
  refine (callsIn_wide (n := 5)).1 ?_
  have hseq : SeqGives Fence.wide 2 Tryz.prog 277 #[.pointer (some ⟨Bm, 0, none⟩)] encStr (fun ss => ss.Perm (strKeys D0)) (Maps.size D0) w :=
    AnyZ.keys_gives (ρ := Tryz.keys207_ren) { Tryz.keys207 with } Fence.wide _ trivial rfl (by omega) Bm b nn D0 _ hBm hcell hown
  exact AnyZ.sorted_in Tryz.sorted171 Fence.wide 5 trivial trivial trivial trivial rfl (by omega) (sorts _) (enters_of Tryz.func201 (by kernel_rfl) rfl) 277 #[.pointer (some ⟨Bm, 0, none⟩)] trivial (enters_of Tryz.func277 (by kernel_rfl) rfl) _ _ hmax hbytes _ hseq
theorem hSort_ok : CallMOk Tryz.prog (sortedM [171] [242, 277]) := sortedM_ok (K := 9) (by kernel_rfl) fun f hf => by
  rw [List.mem_singleton] at hf
  subst hf
  refine ⟨⟨(blt_iff _ _).1 (by kernel_rfl), fun args w => enters_of Tryz.func171 (by kernel_rfl) rfl args w⟩, fun g hg => ?_⟩
  rcases List.mem_cons.1 hg with rfl | hg
  · exact sk242
  · rw [List.mem_singleton] at hg
    subst hg
    exact sk277
end Go.Am
