/- A part of the proof by the abstract machine: SOld. -/
import Derived.Test.YtehccakjdbapiaaAmSNew
set_option linter.unusedSimpArgs false
namespace Go.Am
open Go.RowKit Go.Proofs

/-- A chooser in memory. -/
def ChAt (h : Heap) (C : Nat) (pv av : AV) (picks : List Int) (bound : Int) (ages : List Int) (last : Int) : Prop :=
  h.get C = some (.cells [pv, .int .i64 bound, av, .int .i64 last] .own) ∧ Sl h pv (ints picks) ∧ Sl h av (ints ages) ∧ idOf pv ≠ some C ∧ idOf av ≠ some C
def Ch (h : Heap) (C : Nat) (picks : List Int) (bound : Int) (ages : List Int) (last : Int) : Prop := ∃ pv av, ChAt h C pv av picks bound ages last

theorem int_wrap {n : Nat} (h : n < 9223372036854775807) : IntKind.wrap .i64 ((n : Int) + 1) = ((n + 1 : Nat) : Int) := by
  rw [wrap_small (by omega) (by omega)]; rfl

def at0 (xs : List Int) (i : Nat) : Int := xs.getD i 0
theorem at0_get {xs : List Int} {i : Nat} (h : i < xs.length) : xs[i]? = some (at0 xs i) := by simp [at0, h]
/-- The first of the greatest. -/
def best (ws : List Int) : Nat → Nat
  | 0 => 0
  | k + 1 => if at0 ws (best ws k) < at0 ws k then k else best ws k
def agesOf (ages : List Int) (who : List Nat) : List Int := who.map fun a => at0 ages a
@[simp] theorem agesOf_length {ages : List Int} {who : List Nat} : (agesOf ages who).length = who.length := by simp [agesOf]
theorem agesOf_get {ages : List Int} {who : List Nat} {i a : Nat} (h : who[i]? = some a) : at0 (agesOf ages who) i = at0 ages a := by simp [agesOf, at0, h]
theorem best_lt {ws : List Int} (h : ws ≠ []) : ∀ k, k ≤ ws.length → best ws k < ws.length
  | 0, _ => List.length_pos_iff.2 h
  | k + 1, hk => by
    simp only [best]
    split
    · omega
    · exact best_lt h k (by omega)

def nats (ns : List Nat) : List AV := ints (ns.map fun (n : Nat) => (n : Int))
@[simp] theorem nats_length {ns : List Nat} : (nats ns).length = ns.length := by simp [nats]
theorem nats_get {ns : List Nat} {i n : Nat} (h : ns[i]? = some n) : (nats ns)[i]? = some (.int .i64 (n : Int)) := ints_get (by simp [h])

section
variable {ov : CallF}

theorem oldest_ok (hov : ∀ a h, ov 28 a h = none) {h : Heap} {C : Nat} {picks ages : List Int} {bound last : Int} {pv av : AV} (hC : ChAt h C pv av picks bound ages last) {v : AV} {who : List Nat} (hs : Sl h v (nats who)) (hn : who.length ≤ 1000000000) (hlt : ∀ a ∈ who, a < ages.length) :
    callT ov Try.prog 28 [.ptr (some ⟨C, 0⟩), v] h = some (.ret (.int .i64 (best (agesOf ages who) who.length : Nat)) h) := by
  have main : ∃ u g, callT ov Try.prog 28 [.ptr (some ⟨C, 0⟩), v] h = some (.ret u g) ∧ u = .int .i64 (best (agesOf ages who) who.length : Nat) ∧ g = h := by
    obtain ⟨hg, hp, ha, _, _⟩ := hC
    refine callT_wp (fn := Try.f28) (hov _ _) (by kernel_rfl) rfl ?_
    have hl : (frameA Try.f28 [.ptr (some ⟨C, 0⟩), v]).length = 36 := frameA_length (Nat.le_of_ble_eq_true rfl)
    have h0 : nth (frameA Try.f28 [.ptr (some ⟨C, 0⟩), v]) 0 = .ptr (some ⟨C, 0⟩) := frameA_nth (Nat.le_of_ble_eq_true rfl)
    have h1 : nth (frameA Try.f28 [.ptr (some ⟨C, 0⟩), v]) 1 = v := frameA_nth (Nat.le_of_ble_eq_true rfl)
    generalize frameA Try.f28 [.ptr (some ⟨C, 0⟩), v] = e at hl h0 h1
    have hlen := hs.len u22
    apply WP.seq; apply WP.region; simp [hl]
    repeat apply WP.seq
    apply WP.region; simp [hl]
    repeat apply WP.seq
    apply WP.region; simp [hl, h1, hlen]
    repeat apply WP.seq
    apply WP.block
    refine WP.loop (fun n e g => g = h ∧ e.length = 36 ∧ nth e 0 = .ptr (some ⟨C, 0⟩) ∧ nth e 1 = v ∧ nth e 8 = v ∧ nth e 9 = .int .i64 who.length ∧ ∃ i, i ≤ who.length ∧ n = who.length - i ∧ nth e 10 = .int .i64 (i : Nat) ∧ nth e 5 = .int .i64 (best (agesOf ages who) i : Nat)) ?_ who.length _ _ ?_
    · rintro n e g ⟨rfl, hl, h0, h1, h8, h9, i, hi, rfl, h10, h5⟩
      repeat apply WP.seq
      apply WP.region; simp [hl, h9, h10]
      repeat apply WP.seq
      apply WP.cond (by simp [hl]; rfl)
      · intro hlt1
        have hlt1 : i < who.length := by simpa using hlt1
        apply WP.skip; simp
        repeat apply WP.seq
        apply WP.block
        obtain ⟨a, hwa⟩ : ∃ a, who[i]? = some a := ⟨who[i], by simp [hlt1]⟩
        obtain ⟨l1, hl1, hl1', _⟩ := hs.at u22 s3 a3 (nats_get hwa) (k := .i64)
        have hal : a < ages.length := hlt a (List.mem_of_getElem? hwa)
        obtain ⟨l2, hl2, hl2', _⟩ := ha.at u22 s3 a3 (ints_get (at0_get hal)) (k := .i64)
        have hne : who ≠ [] := by intro hh; simp [hh] at hlt1
        have hb : best (agesOf ages who) i < who.length := by simpa using best_lt (ws := agesOf ages who) (by rw [← List.length_pos_iff]; simpa [List.length_pos_iff] using hne) i (by simpa using hi)
        obtain ⟨b, hwb⟩ : ∃ b, who[best (agesOf ages who) i]? = some b := ⟨who[best (agesOf ages who) i], by simp [hb]⟩
        obtain ⟨l3, hl3, hl3', _⟩ := hs.at u22 s3 a3 (nats_get hwb) (k := .i64)
        have hbl : b < ages.length := hlt b (List.mem_of_getElem? hwb)
        obtain ⟨l4, hl4, hl4', _⟩ := ha.at u22 s3 a3 (ints_get (at0_get hbl)) (k := .i64)
        repeat apply WP.seq
        have hld : loadA Try.prog g 22 ⟨C, 2⟩ = some av := load_cell a22 hg rfl
        apply WP.region; simp [hl, h8, h10, hl1, hl1']
        repeat apply WP.seq
        apply WP.draw (by kernel_rfl) (by kernel_rfl)
        simp [hl, h0, h1, h5, h8, h10, fa62, hld, hl2, hl2', hl3, hl3', hl4, hl4']
        have hbest : best (agesOf ages who) (i + 1) = if at0 ages b < at0 ages a then i else best (agesOf ages who) i := by
          simp only [best, agesOf_get hwa, agesOf_get hwb]
        apply WP.cond (by simp [hl]; rfl)
        · intro hc
          have hc : at0 ages b < at0 ages a := by simpa using hc
          apply WP.region; simp [hl, h10]
          apply WP.region; simp [hl, h10, int_wrap (show i < 9223372036854775807 by omega)]
          refine ⟨who.length - (i + 1), by omega, h0, h1, h8, h9, i + 1, by omega, rfl, by simp, ?_⟩
          rw [hbest, if_pos hc]
        · intro hc
          have hc : ¬ at0 ages b < at0 ages a := by simpa using hc
          apply WP.skip; simp
          apply WP.region; simp [hl, h10, int_wrap (show i < 9223372036854775807 by omega)]
          refine ⟨who.length - (i + 1), by omega, h0, h1, h8, h9, i + 1, by omega, rfl, by simp, ?_⟩
          rw [hbest, if_neg hc, h5]
      · intro hge
        have hge : ¬ i < who.length := by simpa using hge
        have hi' : i = who.length := by omega
        subst hi'
        apply WP.exit
        simp
        repeat apply WP.seq
        apply WP.region; simp [hl, h5]
        apply WP.ret
        simp [hl, resultsA, resultA, single]
    · refine ⟨rfl, by simp [hl], by simp [h0], by simp [h1], by simp [hl], by simp [hl], 0, by omega, by omega, by simp [hl], by simp [hl, best]⟩
  obtain ⟨_, _, h1, rfl, rfl⟩ := main
  exact h1
end
end Go.Am
