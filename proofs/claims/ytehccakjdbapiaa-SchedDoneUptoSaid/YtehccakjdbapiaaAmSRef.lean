/- A part of the proof by the abstract machine: SRef. -/
import Derived.Test.YtehccakjdbapiaaAmSNext
import Derived.Test.YtehccakjdbapiaaAmSlr
set_option linter.unusedSimpArgs false
namespace Go.Am
open Go.RowKit Go.Proofs

theorem u27 : Try.prog.underlying 27 = some (.slice 65) := by kernel_rfl
theorem s65 : sizeA Try.prog 65 = some 2 := by kernel_rfl
theorem a65 : aggA Try.prog 65 = some true := by kernel_rfl
theorem s29 : sizeA Try.prog 29 = some 3 := by kernel_rfl
theorem a29 : aggA Try.prog 29 = some true := by kernel_rfl
theorem a27 : aggA Try.prog 27 = some false := by kernel_rfl
theorem s27 : sizeA Try.prog 27 = some 1 := by kernel_rfl
theorem i65 : Try.prog.info? 65 = some Try.t65 := by kernel_rfl
theorem fa29 {l : Loc} : fieldAddrA Try.prog 29 (.ptr (some l)) 0 = some (.ptr (some ⟨l.id, l.off + 0⟩)) ∧ fieldAddrA Try.prog 29 (.ptr (some l)) 1 = some (.ptr (some ⟨l.id, l.off + 1⟩)) ∧
    fieldAddrA Try.prog 29 (.ptr (some l)) 2 = some (.ptr (some ⟨l.id, l.off + 2⟩)) := by
  refine ⟨?_, ?_, ?_⟩ <;> kernel_rfl
theorem fa65 {l : Loc} : fieldAddrA Try.prog 65 (.ptr (some l)) 0 = some (.ptr (some ⟨l.id, l.off + 0⟩)) ∧ fieldAddrA Try.prog 65 (.ptr (some l)) 1 = some (.ptr (some ⟨l.id, l.off + 1⟩)) := by
  refine ⟨?_, ?_⟩ <;> kernel_rfl
theorem alloc29 {h : Heap} : allocA Try.prog h 29 = some (.ptr (some ⟨h.next, 0⟩), h.alloc (.cells [.slice none 0 (.exact 0), .int .i64 0, .slice none 0 (.exact 0)] .own)) := by kernel_rfl
theorem alloc65 {h : Heap} : allocA Try.prog h 65 = some (.ptr (some ⟨h.next, 0⟩), h.alloc (.cells [.slice none 0 (.exact 0), .int .i64 0] .own)) := by kernel_rfl
theorem build29 {l : Option Loc} {n : Nat} {c : Cap} {k : IntKind} {b : Int} : buildA Try.prog 29 [(0, .slice l n c), (1, .int k b)] = some (.agg [.slice l n c, .int k b, .slice none 0 (.exact 0)]) := by kernel_rfl
theorem build65 {l : Option Loc} {n : Nat} {c : Cap} {k : IntKind} {b : Int} : buildA Try.prog 65 [(0, .slice l n c), (1, .int k b)] = some (.agg [.slice l n c, .int k b]) := by kernel_rfl

/-- A whole block is written anew. -/
theorem store_whole {P : Program} {h : Heap} {t : TypeId} {n : Nat} (hs : sizeA P t = some n) {i : Nat} {cs ds : List AV} (hg : h.get i = some (.cells cs .own)) (hn : cs.length = n) (hd : ds.length = n) (hok : cellsOk ds = true) : storeA P h t ⟨i, 0⟩ (.agg ds) = some (h.set i (.cells ds .own)) := by
  have hb1 : Nat.beq ds.length n = true := by rw [hd]; simp
  have hb2 : Nat.ble (0 + ds.length) cs.length = true := by rw [ble_iff]; omega
  have hov : over cs 0 ds = ds := by simp [over, hd, ← hn]
  simp only [storeA, hs, cellsA, hb1, cond_true, writeA, hg, hok, hb2, Bool.and_self, hov]
theorem load_whole {P : Program} {h : Heap} {t : TypeId} {n : Nat} (ha : aggA P t = some true) (hs : sizeA P t = some n) {i : Nat} {cs : List AV} {k : Kind} (hg : h.get i = some (.cells cs k)) (hn : cs.length = n) : loadA P h t ⟨i, 0⟩ = some (.agg cs) := by
  rw [load_agg ha hs hg (by omega)]
  simp [← hn]

/-- The reference's calls: each with the slice that holds its list. -/
def rowsOf (cs : List (AV × List Bool × Int)) : List (List AV) := cs.map fun x => [x.1, .int .i64 x.2.2]
theorem rowsOf_length (cs : List (AV × List Bool × Int)) : (rowsOf cs).length = cs.length := by simp [rowsOf]
def CallsAt (h : Heap) (cv : AV) (cs : List (AV × List Bool × Int)) : Prop := Slr h 2 cv (rowsOf cs) ∧ ∀ x ∈ cs, Sl h x.1 (bools x.2.1)

/-- An actor's age, from the last call on. -/
def ageR : List (List Bool × Int) → Nat → Nat
  | [], _ => 0
  | x :: xs, a => if x.1.getD a false = false ∨ x.2 = (a : Int) then 0 else ageR xs a + 1
def hist (cs : List (AV × List Bool × Int)) : List (List Bool × Int) := (cs.map (·.2)).reverse
theorem ageR_le : ∀ (xs : List (List Bool × Int)) (a : Nat), ageR xs a ≤ xs.length
  | [], _ => by simp [ageR]
  | x :: xs, a => by
    have := ageR_le xs a
    simp only [ageR, List.length_cons]
    split <;> omega

section
variable {ov : CallF}

theorem refNew_ok (o12 : ∀ a h, ov 12 a h = none) {h : Heap} (hw : Wf h) {l : Option Loc} {n : Nat} {c : Cap} (b : Int) :
    ∃ h', callT ov Try.prog 12 [.slice l n c, .int .i64 b] h = some (.ret (.agg [.slice l n c, .int .i64 (max b 1), .slice none 0 (.exact 0)]) h') ∧ Keep [] h h' := by
  have main : ∃ u h', callT ov Try.prog 12 [.slice l n c, .int .i64 b] h = some (.ret u h') ∧ u = .agg [.slice l n c, .int .i64 (max b 1), .slice none 0 (.exact 0)] ∧ Keep [] h h' := by
    refine callT_wp (fn := Try.f12) (o12 _ _) (by kernel_rfl) rfl ?_
    have hl : (frameA Try.f12 [.slice l n c, .int .i64 b]).length = 10 := frameA_length (Nat.le_of_ble_eq_true rfl)
    have h0 : nth (frameA Try.f12 [.slice l n c, .int .i64 b]) 0 = .slice l n c := frameA_nth (Nat.le_of_ble_eq_true rfl)
    have h1 : nth (frameA Try.f12 [.slice l n c, .int .i64 b]) 1 = .int .i64 b := frameA_nth (Nat.le_of_ble_eq_true rfl)
    generalize frameA Try.f12 [.slice l n c, .int .i64 b] = e at hl h0 h1
    have hk := (Keep.refl (ex := []) hw).alloc (.cells [.slice none 0 (.exact 0), .int .i64 0, .slice none 0 (.exact 0)] .own)
    have hg : (h.alloc (.cells [.slice none 0 (.exact 0), .int .i64 0, .slice none 0 (.exact 0)] .own)).get h.next = _ := Heap.get_alloc _ _
    have hal : allocA Try.prog h 29 = _ := alloc29 (h := h)
    generalize h.alloc (.cells [.slice none 0 (.exact 0), .int .i64 0, .slice none 0 (.exact 0)] .own) = g at hk hg hal
    have hst := store_whole (P := Try.prog) s29 hg rfl (ds := [.slice l n c, .int .i64 (max b 1), .slice none 0 (.exact 0)]) rfl rfl
    have hk2 := hk.set (.cells [.slice l n c, .int .i64 (max b 1), .slice none 0 (.exact 0)] .own) (hk.wf _ _ hg) (.inr (Nat.le_refl h.next))
    have hld := load_whole (P := Try.prog) a29 s29 (Heap.get_set g h.next (.cells [.slice l n c, .int .i64 (max b 1), .slice none 0 (.exact 0)] .own)) rfl
    generalize g.set h.next (.cells [.slice l n c, .int .i64 (max b 1), .slice none 0 (.exact 0)] .own) = g2 at hst hk2 hld
    repeat apply WP.seq
    apply WP.region; simp [hl, hal]
    repeat apply WP.seq
    apply WP.region; simp [hl, h1]
    repeat apply WP.seq
    refine WP.mono (K := fun o e g' => o = .normal ∧ g = g' ∧ e.length = 10 ∧ nth e 0 = .slice l n c ∧ nth e 1 = .int .i64 (max b 1) ∧ nth e 4 = .ptr (some ⟨h.next, 0⟩)) ?_ ?_
    · apply WP.cond (by simp [hl]; rfl)
      · intro hc
        have hc : b < 1 := by simpa using hc
        have hm : max b 1 = 1 := by omega
        apply WP.region; simp [hl, h0, hm]
      · intro hc
        have hc : ¬ b < 1 := by simpa using hc
        have hm : max b 1 = b := by omega
        apply WP.skip; simp [hl, h0, h1, hm]
    rintro _ e _ ⟨rfl, rfl, hl, h0, h1, h4⟩
    simp
    repeat apply WP.seq
    apply WP.region; simp [hl, h0, h1, h4, build29, storeR_ptr hst]
    apply WP.ret
    simp [hl, h4, resultsA, resultA, single, hld, hk2]
  obtain ⟨_, h', h1, rfl, h2⟩ := main
  exact ⟨h', h1, h2⟩
end
end Go.Am
