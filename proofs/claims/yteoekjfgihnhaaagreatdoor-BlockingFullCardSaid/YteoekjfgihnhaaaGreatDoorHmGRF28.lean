/- Parts of the proof by the abstract machine: FErr, BSortS, BKinds, BFns. -/
import Derived.Test.YteoekjfgihnhaaaGreatDoorHmGRF26
import Derived.FnData
import Derived.ChangeMade
import Derived.Test.YteoekjfgihnhaaaGreatDoorHmGRF3
import Derived.Test.YteoekjfgihnhaaaGreatDoorHmGRF22
import Derived.Test.YteoekjfgihnhaaaGreatDoorHmGRF21
import Derived.Test.YteoekjfgihnhaaaGreatDoorRows
import Derived.Lib.LaidU8
import Derived.Test.YteoekjfgihnhaaaGreatDoorHmGRF23
set_option linter.all false
set_option maxRecDepth 100000
noncomputable section
namespace Go.Am
open Go.RowKit Go.Proofs

/-! A name says which type it is: no made type is a pointer to a named one. -/
theorem reckon_ptr {info : TypeId → Option TypeInfo} {d : TypeDesc} {i : TypeInfo} {e : TypeId} (h : Made.reckon info d = some i) (hd : i.desc = .pointer e) : ∃ j, info e = some j ∧ ∀ n r, j.desc ≠ .named n r := by
  unfold Made.reckon at h
  split at h
  · rename_i e0
    simp only [bind, Option.bind_eq_some_iff] at h
    obtain ⟨j, hj, h⟩ := h
    split at h
    · cases h
    · rename_i fs hfs
      split at h
      · cases h
      · simp only [pure, Option.bind_eq_some_iff] at h
        obtain ⟨s, _, h⟩ := h
        cases h
        cases hd
        exact ⟨j, hj, fun n r hh => by rw [hfs] at hh; cases hh⟩
    · rename_i h1 h2
      simp only [pure, Option.bind_eq_some_iff] at h
      obtain ⟨s, _, h⟩ := h
      cases h
      cases hd
      exact ⟨j, hj, fun n r hh => h1 n r hh⟩
  · simp only [bind, pure, Option.bind_eq_some_iff] at h
    obtain ⟨_, _, _, _, h⟩ := h
    cases h; cases hd
  · simp only [bind, pure, Option.bind_eq_some_iff] at h
    obtain ⟨_, _, _, _, _, _, _, _, h⟩ := h
    cases h; cases hd
  · simp only [bind, pure, Option.bind_eq_some_iff] at h
    obtain ⟨_, _, _, _, h⟩ := h
    cases h; cases hd
  · simp only [bind, pure, Option.bind_eq_some_iff] at h
    obtain ⟨_, _, h⟩ := h
    cases h; cases hd
  · simp only [bind, pure, Option.bind_eq_some_iff] at h
    obtain ⟨_, _, _, _, h⟩ := h
    cases h; cases hd
  · unfold Made.reckonStruct at h
    simp only [bind, Option.bind_eq_some_iff, pure] at h
    obtain ⟨a, _, h⟩ := h
    split at h <;> (cases h; cases hd)
  · cases h
theorem star {s t : String} (h : "*" ++ s = "*" ++ t) : s = t := by
  have := congrArg String.toList h
  simp only [String.toList_append] at this
  have h2 := List.append_cancel_left this
  exact String.ext_iff.2 (by simpa using h2)
theorem typeName_beyond {P : Program} {u : TypeId} {d : Nat} {s : String} (hu : ¬ u < P.types.size) (h : P.typeName? (d + 1) u = some s) :
    ∃ e t, P.typeName? d e = some t ∧ "*" ++ t = s ∧ ∃ j, Made.infoAt P.toTables 99 e = some j ∧ ∀ n r, j.desc ≠ .named n r := by
  unfold Program.typeName? at h
  cases hi : P.info? u with
  | none => simp [hi] at h
  | some i =>
    have hb := Tables.info?_beyond hu hi
    simp only [hi] at h
    split at h
    · rename_i hd; rw [hd] at hb; cases hb
    · rename_i e hd
      simp only [Option.map_eq_some_iff] at h
      obtain ⟨t, ht, hs⟩ := h
      refine ⟨e, t, ht, hs, ?_⟩
      unfold Tables.info? at hi
      rw [if_neg hu] at hi
      unfold Made.depth Made.infoAt at hi
      rw [if_neg hu] at hi
      simp only [Option.bind_eq_some_iff] at hi
      obtain ⟨d', _, hr⟩ := hi
      exact reckon_ptr hr hd
    · rename_i hd; rw [hd] at hb; cases hb
    · rename_i hd; rw [hd] at hb; cases hb
    · rename_i hd; rw [hd] at hb; cases hb
    · rename_i hd; rw [hd] at hb; cases hb
    · cases h
theorem onlyErr : (List.range Tryz.prog.types.size).all (fun u => Nat.beq u 526 || !(Tryz.prog.typeName? 3 u == some "*errors.errorString")) = true := by kernel_rfl
theorem onlyErr2 : (List.range Tryz.prog.types.size).all (fun u => Nat.beq u 528 || !(Tryz.prog.typeName? 2 u == some "errors.errorString")) = true := by kernel_rfl
def isNamed (i : Option TypeInfo) : Bool := match i with | some i => (match i.desc with | .named _ _ => true | _ => false) | none => false
theorem named528 : isNamed (Tryz.prog.info? 528) = true := by kernel_rfl
theorem onlyErr' {u : TypeId} (h : Tryz.prog.typeName? 3 u = some "*errors.errorString") : u = 526 := by
  by_cases hlt : u < Tryz.prog.types.size
  · have := List.all_eq_true.1 onlyErr u (List.mem_range.2 hlt)
    rw [h] at this
    exact Nat.eq_of_beq_eq_true (by simpa using this)
  · exfalso
    obtain ⟨e, t, ht, hs, j, hj, hn⟩ := typeName_beyond hlt h
    have ht' : t = "errors.errorString" := star (hs.trans (by decide))
    subst ht'
    by_cases he : e < Tryz.prog.types.size
    · have h1 := List.all_eq_true.1 onlyErr2 e (List.mem_range.2 he)
      rw [ht] at h1
      have he2 : e = 528 := Nat.eq_of_beq_eq_true (by simpa using h1)
      subst he2
      have h2 : Tryz.prog.info? 528 = some j := by
        unfold Tables.info?
        rw [if_pos he]
        unfold Made.infoAt at hj
        rw [if_pos he] at hj
        exact hj
      have h3 := named528
      rw [h2] at h3
      cases hd : j.desc with
      | named n r => exact hn n r hd
      | _ => simp [isNamed, hd] at h3
    · obtain ⟨e2, t2, _, hs2, _⟩ := typeName_beyond he ht
      have := congrArg (fun s => s.toList.head?) hs2
      simp at this
end Go.Am

noncomputable section
namespace Go.Am
open Go.RowKit Go.Proofs Go.Maps Go.Shelf

theorem sorts (m : Nat) : AnyZ.SortsIn Tryz.prog Tryz.sorted171_ren Fence.wide m :=
  ⟨fun blk off cap ss W hH hblk hsz => callsIn_wide.2 (AnyM.slices_Sort_string Tryz.sort201 blk off cap ss W hH hblk hsz),
   fun p cap W => callsIn_wide.2 (AnyM.slices_Sort_string_none Tryz.sort201 p cap W)⟩
set_option maxHeartbeats 1000000 in
theorem sk242 : SortsKeys Tryz.prog 9 171 242 := by
  intro Bm b nn D0 R w hBm hcell hown hmax hbytes
  refine (callsIn_wide (n := 5)).1 ?_
  have hseq : SeqGives Fence.wide 2 Tryz.prog 242 #[.pointer (some ⟨Bm, 0, none⟩)] encStr (fun ss => ss.Perm (strKeys D0)) (Maps.size D0) w :=
    AnyZ.keys_gives (ρ := Tryz.keys172_ren) { Tryz.keys172 with } Fence.wide _ trivial rfl (by omega) Bm b nn D0 _ hBm hcell hown
  exact AnyZ.sorted_in Tryz.sorted171 Fence.wide 5 trivial trivial trivial trivial rfl (by omega) (sorts _) (enters_of Tryz.func201 (by kernel_rfl) rfl) 242 #[.pointer (some ⟨Bm, 0, none⟩)] trivial (enters_of Tryz.func242 (by kernel_rfl) rfl) _ _ hmax hbytes _ hseq
set_option maxHeartbeats 1000000 in
theorem sk277 : SortsKeys Tryz.prog 9 171 277 := by
  intro Bm b nn D0 R w hBm hcell hown hmax hbytes
  refine (callsIn_wide (n := 5)).1 ?_
  have hseq : SeqGives Fence.wide 2 Tryz.prog 277 #[.pointer (some ⟨Bm, 0, none⟩)] encStr (fun ss => ss.Perm (strKeys D0)) (Maps.size D0) w :=
    AnyZ.keys_gives (ρ := Tryz.keys207_ren) { Tryz.keys207 with } Fence.wide _ trivial rfl (by omega) Bm b nn D0 _ hBm hcell hown
  exact AnyZ.sorted_in Tryz.sorted171 Fence.wide 5 trivial trivial trivial trivial rfl (by omega) (sorts _) (enters_of Tryz.func201 (by kernel_rfl) rfl) 277 #[.pointer (some ⟨Bm, 0, none⟩)] trivial (enters_of Tryz.func277 (by kernel_rfl) rfl) _ _ hmax hbytes _ hseq
theorem hSort_ok : CallMOk Tryz.prog (sortedM [171] [242, 277]) := sortedM_ok (K := 9) (by kernel_rfl) fun f hf => by
  rw [List.mem_singleton] at hf
  subst hf
  refine ⟨⟨(blt_iff _ _).1 (by kernel_rfl), fun args w => enters_of Tryz.func171 (by kernel_rfl) rfl args w⟩, fun g hg => ?_⟩
  rcases List.mem_cons.1 hg with rfl | hg
  · exact sk242
  · rw [List.mem_singleton] at hg
    subst hg
    exact sk277
end Go.Am

noncomputable section
namespace Go.Am
open Go.RowKit Go.Proofs

def kindB (i : Nat) : List UInt8 := match i with | 0 => [] | 1 => [116, 101, 120, 116] | 2 => [110, 117, 109] | _ => [108, 105, 115, 116]
theorem kinds_R {W : World} (h : ∀ i, i < 4 → W.cell? ⟨1, i, none⟩ = some (.string ⟨(kindB i).toArray⟩)) : ∃ φ, R Tryz.prog φ hHeap W W := by
  have h0 := h 0 (by omega)
  obtain ⟨C, t, fr, hC⟩ : ∃ C t fr, W.heap[1]? = some (.cells C t fr) := by
    simp only [World.cell?] at h0
    split at h0
    · rename_i c t fr hc; exact ⟨c, t, fr, hc⟩
    · cases h0
  have hcell : ∀ i, i < 4 → C[i]? = some (.string ⟨(kindB i).toArray⟩) := by
    intro i hi
    have := h i hi
    simpa [World.cell?, hC] using this
  have h3 : 4 ≤ C.size := by
    have := hcell 3 (by omega)
    have := (Array.getElem?_eq_some_iff.1 this).1
    omega
  refine ⟨(List.range 10).map (fun g => if g = 1 then ⟨1, 0, C.size⟩ else ⟨g, 0, 0⟩), Below.refl _ _, ?_, ?_, ?_, ?_⟩
  · show _ = Tryz.prog.globals.size
    rw [globs]; rfl
  · intro i o hi
    obtain ⟨rfl, rfl⟩ := hHeap_get hi
    refine ⟨⟨1, 0, C.size⟩, rfl, ⟨C, t, fr, hC, by simp, h3, OwnOk.free (by simp) (by simp), (fun hh => by cases hh), ?_⟩, fun hh => by cases hh⟩
    have hl : C.toList.take 4 = [.string ⟨(kindB 0).toArray⟩, .string ⟨(kindB 1).toArray⟩, .string ⟨(kindB 2).toArray⟩, .string ⟨(kindB 3).toArray⟩] := by
      apply List.ext_getElem?
      intro i
      rw [List.getElem?_take]
      split
      · rename_i hi
        rw [Array.getElem?_toList, hcell i hi]
        match i, hi with
        | 0, _ => rfl
        | 1, _ => rfl
        | 2, _ => rfl
        | 3, _ => rfl
      · symm; apply List.getElem?_eq_none; simp; omega
    show Vs _ _ ((C.toList.drop 0).take 4)
    rw [List.drop_zero, hl]
    simp [Vs, V, kindB]
  · intro i j oi oj ei ej hij hi hj
    obtain ⟨rfl, _⟩ := hHeap_get hi
    obtain ⟨rfl, _⟩ := hHeap_get hj
    exact absurd rfl hij
  · intro g hg
    rw [globs] at hg
    match g, hg with
    | 0, _ => exact ⟨_, rfl⟩
    | 1, _ => exact ⟨_, rfl⟩
    | 2, _ => exact ⟨_, rfl⟩
    | 3, _ => exact ⟨_, rfl⟩
    | 4, _ => exact ⟨_, rfl⟩
    | 5, _ => exact ⟨_, rfl⟩
    | 6, _ => exact ⟨_, rfl⟩
    | 7, _ => exact ⟨_, rfl⟩
    | 8, _ => exact ⟨_, rfl⟩
    | 9, _ => exact ⟨_, rfl⟩
theorem hHeap_noOwn : NoOwn hHeap := fun i o hi => by
  obtain ⟨rfl, rfl⟩ := hHeap_get hi
  rfl
open Go.Proofs.YteoekjfgihnhaaaGreatDoor in
theorem laid_kinds {W : World} {l : List (String × DataW Unit)} (hm : ("muster/schema.kinds", Rows.laid_muster_schema_kinds) ∈ l) (hL : laidMet Tryz.prog l W) : ∃ φ, R Tryz.prog φ hHeap W W := by
  obtain ⟨g, t, cs, fuel, p, h1, h2, h3, h4⟩ := Lib.laidMet.reads hL hm
  have e1 : Tryz.prog.globalNamed "muster/schema.kinds" = some 1 := by kernel_rfl
  have hg : g = 1 := Option.some.inj (h1.symm.trans e1)
  subst hg
  obtain ⟨T, hT, hu⟩ : ∃ T, (Tryz.prog.globals[1]?).map (·.type) = some T ∧ Tryz.prog.underlying T = some (.array 4 9) := ⟨(((Tryz.prog.globals[1]?).map (·.type)).getD 0), by kernel_rfl, by kernel_rfl⟩
  have ht : t = T := Option.some.inj (h2.symm.trans hT)
  subst ht
  have hs9 : Tryz.prog.cellsOf 9 = 1 := by kernel_rfl
  have hu9 : Tryz.prog.underlying 9 = some .string := by kernel_rfl
  refine kinds_R fun i hi => ?_
  rw [World.var?_cell e1 h3 i]
  obtain ⟨f, d, q, hd, hr⟩ := Lib.array_elem hu h4 i hi
  rw [hs9, Nat.mul_one] at hr
  obtain ⟨s, hc, hx, _⟩ := DataW.trod_string hu9 hr
  have hcs : cs[i]? = some (.string s) := by
    have := congrArg (·[0]?) hc
    simpa [List.getElem?_take, List.getElem?_drop] using this
  rw [hcs]
  have hdd : d = .lit (.string s.data.toList) := congrArg Prod.fst hx
  subst hdd
  have hk : s.data.toList = kindB i := by
    match i, hi with
    | 0, _ => exact (Lit.string.inj (DataW.lit.inj (Option.some.inj hd))).symm
    | 1, _ => exact (Lit.string.inj (DataW.lit.inj (Option.some.inj hd))).symm
    | 2, _ => exact (Lit.string.inj (DataW.lit.inj (Option.some.inj hd))).symm
    | 3, _ => exact (Lit.string.inj (DataW.lit.inj (Option.some.inj hd))).symm
  rw [← hk]
end Go.Am

noncomputable section
namespace Go.Am
open Go.RowKit Go.Proofs

def fnsB (l : List Func) : Bool := l.all fun fn => !(fn.name == "runtime.NumGoroutine")
theorem fns_ok : Fns Tryz.prog := by
  intro f fn hf _
  have hb : fnsB Tryz.prog.funcs.toList = true := by kernel_rfl
  have hm : fn ∈ Tryz.prog.funcs.toList := by
    rw [← Array.getElem?_toList] at hf
    exact List.mem_of_getElem? hf
  have := List.all_eq_true.1 hb fn hm
  simpa using this
theorem mixed_ok : Tryz.prog.follows .mixedOrders = true := by kernel_rfl
theorem nats_ok : NatsOk Tryz.prog hNat := by
  intro x hx
  simp only [hNat, List.mem_cons, List.mem_nil_iff, or_false] at hx
  rcases hx with rfl | rfl | rfl | rfl | rfl | rfl | rfl | rfl | rfl | rfl | rfl | rfl | rfl | rfl
  · exact ⟨Tryz.f132, by kernel_rfl, by kernel_rfl, by kernel_rfl, by kernel_rfl, .disable, by kernel_rfl⟩
  · exact ⟨Tryz.f133, by kernel_rfl, by kernel_rfl, by kernel_rfl, by kernel_rfl, by dsimp only; kernel_rfl⟩
  · exact ⟨Tryz.f134, by kernel_rfl, by kernel_rfl, by kernel_rfl, by kernel_rfl, .enable, by kernel_rfl⟩
  · exact ⟨Tryz.f135, by kernel_rfl, by kernel_rfl, by kernel_rfl, by kernel_rfl, .acquire, by kernel_rfl⟩
  · exact ⟨Tryz.f137, by kernel_rfl, by kernel_rfl, by kernel_rfl, by kernel_rfl, .releaseMerge, by kernel_rfl⟩
  · exact ⟨Tryz.f138, by kernel_rfl, by kernel_rfl, by kernel_rfl, by kernel_rfl, by dsimp only; kernel_rfl⟩
  · exact ⟨Tryz.f191, by kernel_rfl, by kernel_rfl, by kernel_rfl, by kernel_rfl, by dsimp only; kernel_rfl⟩
  · exact ⟨Tryz.f196, by kernel_rfl, by kernel_rfl, by kernel_rfl, by kernel_rfl, by dsimp only; kernel_rfl⟩
  · exact ⟨Tryz.f261, by kernel_rfl, by kernel_rfl, by kernel_rfl, by kernel_rfl, by dsimp only; kernel_rfl⟩
  · exact ⟨Tryz.f262, by kernel_rfl, by kernel_rfl, by kernel_rfl, by kernel_rfl, by kernel_rfl, #[3], by kernel_rfl⟩
  · exact ⟨Tryz.f311, by kernel_rfl, by kernel_rfl, by kernel_rfl, by kernel_rfl, by dsimp only; kernel_rfl⟩
  · exact ⟨Tryz.f373, by kernel_rfl, by kernel_rfl, by kernel_rfl, by kernel_rfl, by dsimp only; kernel_rfl⟩
  · exact ⟨Tryz.f388, by kernel_rfl, by kernel_rfl, by kernel_rfl, by kernel_rfl, by dsimp only; kernel_rfl⟩
  · exact ⟨Tryz.f392, by kernel_rfl, by kernel_rfl, by kernel_rfl, by kernel_rfl, by dsimp only; kernel_rfl⟩
theorem hOv_ok : CallMOk Tryz.prog hOv := orM_ok (hFired_ok fns_ok mixed_ok) (orM_ok hIns_ok hSort_ok)
theorem hCall_ok : CallMOk Tryz.prog hCall := callM_ok fns_ok mixed_ok (natM_ok nats_ok) hOv_ok (hDov_ok fns_ok) _
end Go.Am
