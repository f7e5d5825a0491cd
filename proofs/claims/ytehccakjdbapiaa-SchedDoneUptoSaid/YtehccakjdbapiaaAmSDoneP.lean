/- All work is done, in plain lists. -/
import Derived.Test.YtehccakjdbapiaaAmSPlays
set_option linter.unusedSimpArgs false
namespace Go.Am

def sumI : List Int → Int
  | [] => 0
  | x :: xs => x + sumI xs
theorem sumI_append : ∀ (a b : List Int), sumI (a ++ b) = sumI a + sumI b
  | [], b => by simp [sumI]
  | x :: a, b => by simp only [List.cons_append, sumI, sumI_append a b]; omega
theorem sumI_set : ∀ (xs : List Int) (i : Nat) (x : Int), i < xs.length → sumI (xs.set i x) = sumI xs - at0 xs i + x
  | [], i, x, h => by simp at h
  | y :: xs, 0, x, h => by simp [sumI, at0]; omega
  | y :: xs, i + 1, x, h => by
    have := sumI_set xs i x (by simpa using h)
    have h2 : at0 (y :: xs) (i + 1) = at0 xs i := by simp [at0]
    simp only [List.set_cons_succ, sumI, this, h2]; omega
theorem sumI_le : ∀ (xs ys : List Int), xs.length = ys.length → (∀ i, i < xs.length → at0 xs i ≤ at0 ys i) → sumI xs ≤ sumI ys
  | [], [], _, _ => by simp [sumI]
  | [], _ :: _, h, _ => by simp at h
  | _ :: _, [], h, _ => by simp at h
  | x :: xs, y :: ys, hl, h => by
    have h0 := h 0 (by simp)
    have h1 := sumI_le xs ys (by simpa using hl) (fun i hi => by have := h (i + 1) (by simpa using hi); simpa [at0] using this)
    simp only [at0, List.getD_cons_zero] at h0
    simp only [sumI]; omega
theorem sumI_bound : ∀ (xs : List Int) (M : Int), (∀ x ∈ xs, 0 ≤ x ∧ x ≤ M) → 0 ≤ sumI xs ∧ sumI xs ≤ M * xs.length
  | [], M, _ => by simp [sumI]
  | x :: xs, M, h => by
    have h1 := h x List.mem_cons_self
    have h2 := sumI_bound xs M (fun y hy => h y (List.mem_cons_of_mem _ hy))
    have h3 : M * ((xs.length + 1 : Nat) : Int) = M * xs.length + M := by rw [Int.natCast_add, Int.mul_add]; simp
    simp only [sumI, List.length_cons, h3]
    omega
theorem at0_set_eq {xs : List Int} {i : Nat} {x : Int} (h : i < xs.length) : at0 (xs.set i x) i = x := by simp [at0, List.getD_eq_getElem?_getD, h]
theorem at0_set_ne {xs : List Int} {i j : Nat} {x : Int} (h : i ≠ j) : at0 (xs.set i x) j = at0 xs j := by
  simp only [at0, List.getD_eq_getElem?_getD]; rw [List.getElem?_set_ne h]

def jobs0 (ws : List Int) : List (Int × Int) := ws.map fun w => (0, w)
theorem jobs0_length (ws : List Int) : (jobs0 ws).length = ws.length := by simp [jobs0]
theorem jobs0_get {ws : List Int} {i : Nat} {w : Int} (h : ws[i]? = some w) : (jobs0 ws)[i]? = some (0, w) := by simp [jobs0, h]
def dec (ws : List Int) (x : Int) : List Int := ws.set x.toNat (at0 ws x.toNat - 1)
def leftK (ws out : List Int) : List Int := out.foldl dec ws
theorem leftK_snoc (ws out : List Int) (x : Int) : leftK ws (out ++ [x]) = dec (leftK ws out) x := by simp [leftK]
theorem leftK_length (ws : List Int) : ∀ out, (leftK ws out).length = ws.length := by
  intro out
  induction out generalizing ws with
  | nil => rfl
  | cons x out ih => simp only [leftK, List.foldl_cons] at ih ⊢; rw [ih]; simp [dec]

structure AllDone (ws : List Int) (s : PS) : Prop where
  len : s.cnt.length = ws.length
  cnt : ∀ i, 0 ≤ at0 s.cnt i ∧ at0 s.cnt i ≤ max (at0 ws i) 0
  sum : (s.out.length : Int) = sumI s.cnt
  left : ∀ i, at0 (leftK ws s.out) i = at0 ws i - at0 s.cnt i
  steps : ∀ (k : Nat) (x : Int), s.out[k]? = some x → ∃ a : Nat, x = a ∧ a < ws.length ∧ 1 ≤ at0 (leftK ws (s.out.take k)) a

theorem AllDone.start (ws picks : List Int) : AllDone ws (startP (jobs0 ws) picks) := by
  have h : ∀ n i, at0 (List.replicate n 0) i = 0 := by
    intro n i
    by_cases hi : i < n
    · simp [at0, List.getD_eq_getElem?_getD, hi]
    · simp [at0, List.getD_eq_getElem?_getD, hi]
  have hs : ∀ n, sumI (List.replicate n 0) = 0 := by
    intro n
    induction n with
    | zero => rfl
    | succ n ih => simp only [List.replicate_succ, sumI, ih]; rfl
  refine ⟨by simp [startP, jobs0], fun i => ?_, ?_, fun i => ?_, fun k x hx => by simp [startP] at hx⟩
  · simp only [startP, h]; omega
  · simp [startP, hs]
  · simp only [startP, h]; simp [leftK]
theorem readyAt0 {ws : List Int} {s : PS} {i : Nat} (hi : i < ws.length) : readyAt (jobs0 ws) s i = decide (at0 s.cnt i < at0 ws i) := by
  have hw : ws[i]? = some (at0 ws i) := at0_get hi
  rw [readyAt_eq (jobs0_get hw)]
  simp
theorem AllDone.move {ws : List Int} {b : Int} {s : PS} (hD : AllDone ws s) (hn : ¬ (nextS (jobs0 ws) b s).chosen < 0) : AllDone ws (moved s (nextS (jobs0 ws) b s)) := by
  obtain ⟨c, hc, hlt, hr⟩ := next_chosen_lt hn
  rw [jobs0_length] at hlt
  rw [readyAt0 hlt] at hr
  have hr : at0 s.cnt c < at0 ws c := by simpa using hr
  generalize nextS (jobs0 ws) b s = N at hc
  have hm : moved s N = ⟨N.picks, N.ages, N.last, s.cnt.set c (at0 s.cnt c + 1), s.out ++ [(c : Int)]⟩ := by simp only [moved, hc, Int.toNat_natCast]
  rw [hm]
  have hlc : c < s.cnt.length := by rw [hD.len]; exact hlt
  have hll : c < (leftK ws s.out).length := by rw [leftK_length]; exact hlt
  refine ⟨by simpa using hD.len, fun i => ?_, ?_, fun i => ?_, fun k x hx => ?_⟩
  · by_cases hi : c = i
    · subst hi
      have := hD.cnt c
      simp only [at0_set_eq hlc]; omega
    · simp only [at0_set_ne hi]; exact hD.cnt i
  · have := hD.sum
    simp only [List.length_append, List.length_singleton, sumI_set _ _ _ hlc]; omega
  · simp only [leftK_snoc, dec, Int.toNat_natCast]
    by_cases hi : c = i
    · subst hi
      have := hD.left c
      rw [at0_set_eq hll, at0_set_eq hlc]; omega
    · rw [at0_set_ne hi, at0_set_ne hi]; exact hD.left i
  · simp only at hx ⊢
    by_cases hk : k < s.out.length
    · rw [List.getElem?_append_left hk] at hx
      rw [List.take_append_of_le_length (by omega)]
      exact hD.steps k x hx
    · have hk' : k = s.out.length := by
        have := (List.getElem?_eq_some_iff.1 hx).1
        simp at this; omega
      subst hk'
      simp at hx
      refine ⟨c, hx.symm, hlt, ?_⟩
      rw [List.take_left]
      have := hD.left c
      omega
theorem playN_done {ws : List Int} {b : Int} : ∀ (n : Nat) (s : PS), AllDone ws s → AllDone ws (playN (jobs0 ws) b n s) ∧ ((nextS (jobs0 ws) b (playN (jobs0 ws) b n s)).chosen < 0 ∨ (playN (jobs0 ws) b n s).out.length = s.out.length + n)
  | 0, s, hD => ⟨hD, .inr rfl⟩
  | n + 1, s, hD => by
    simp only [playN]
    by_cases hc : (nextS (jobs0 ws) b s).chosen < 0
    · rw [if_pos hc]; exact ⟨hD, .inl hc⟩
    · rw [if_neg hc]
      obtain ⟨h1, h2⟩ := playN_done (b := b) n _ (hD.move hc)
      refine ⟨h1, h2.imp id fun h => ?_⟩
      rw [h]
      simp only [moved, List.length_append, List.length_singleton]
      omega
theorem none_ready {jobs : List (Int × Int)} {b : Int} {s : PS} (h : (nextS jobs b s).chosen < 0) {i : Nat} (hi : i < jobs.length) : readyAt jobs s i = false := by
  cases hr : readyAt jobs s i with
  | false => rfl
  | true =>
    have h1 := whoFrom_has (readyP jobs s) 0 i (by rw [readyP_get hi, hr])
    rcases next_spec s.picks b s.ages s.last (readyP jobs s) with ⟨he, _⟩ | ⟨c, hc, _⟩
    · rw [he] at h1; cases h1
    · have h : (nextP s.picks b s.ages s.last (readyP jobs s)).chosen < 0 := h
      omega
def sumPos (ws : List Int) : Int := sumI (ws.map (max · 0))
theorem at0_maxs (ws : List Int) (i : Nat) : at0 (ws.map (max · 0)) i = max (at0 ws i) 0 := by
  simp only [at0, List.getD_eq_getElem?_getD, List.getElem?_map]
  cases ws[i]? <;> simp
theorem play_done {ws picks : List Int} {b : Int} {n : Nat} (hn : sumPos ws < n) :
    ((playOut (jobs0 ws) picks b n).length : Int) = sumPos ws ∧ ∀ (k : Nat) (x : Int), (playOut (jobs0 ws) picks b n)[k]? = some x → ∃ a : Nat, x = a ∧ a < ws.length ∧ 1 ≤ at0 (leftK ws ((playOut (jobs0 ws) picks b n).take k)) a := by
  obtain ⟨hD, he⟩ := playN_done (b := max b 1) n _ (AllDone.start ws picks)
  have hF : (playN (jobs0 ws) (max b 1) n (startP (jobs0 ws) picks)).out = playOut (jobs0 ws) picks b n := by simp [playOut]
  generalize playN (jobs0 ws) (max b 1) n (startP (jobs0 ws) picks) = s at hD he hF
  rw [← hF]
  refine ⟨?_, hD.steps⟩
  have hle : sumI s.cnt ≤ sumPos ws := sumI_le _ _ (by simp [hD.len]) (fun i hi => by rw [at0_maxs]; exact (hD.cnt i).2)
  rcases he with he | he
  · have hge : sumPos ws ≤ sumI s.cnt := sumI_le _ _ (by simp [hD.len]) (fun i hi => by
      rw [at0_maxs]
      have hi : i < ws.length := by simpa using hi
      have h1 := none_ready he (i := i) (by rw [jobs0_length]; exact hi)
      rw [readyAt0 hi] at h1
      have h1 : ¬ at0 s.cnt i < at0 ws i := by simpa using h1
      have := hD.cnt i
      omega)
    have := hD.sum
    omega
  · have := hD.sum
    simp only [startP, List.length_nil] at he
    omega

/-- The work that counts: the first twenty, twenty at most. -/
def wsOf (l : List Int) : List Int := (l.take 20).map (min · 20)
theorem wsOf_snoc {l : List Int} {w : Int} : wsOf (l ++ [w]) = if l.length < 20 then wsOf l ++ [min w 20] else wsOf l := by
  unfold wsOf
  split
  · rename_i h
    rw [List.take_of_length_le (by simp; omega), List.take_of_length_le (by omega)]; simp
  · rename_i h
    rw [List.take_append_of_le_length (by omega)]
theorem wsOf_length (l : List Int) : (wsOf l).length ≤ 20 := by simp [wsOf]; omega
theorem sumPos_snoc (l : List Int) (w : Int) : sumPos (l ++ [w]) = sumPos l + max w 0 := by simp [sumPos, sumI_append, sumI]
theorem sumPos_le (l : List Int) : 0 ≤ sumPos (wsOf l) ∧ sumPos (wsOf l) ≤ 400 := by
  have h := sumI_bound ((wsOf l).map (max · 0)) 20 (by
    intro x hx
    simp only [wsOf, List.mem_map] at hx
    obtain ⟨y, ⟨z, _, rfl⟩, rfl⟩ := hx
    omega)
  have h2 := wsOf_length l
  simp only [List.length_map] at h
  unfold sumPos
  omega
end Go.Am
