/- The plain law of SchedTurns. -/
import Derived.Test.YtehccakjdbapiaaAmSNext
namespace Go.Am

theorem whoFrom_all : ∀ (n i : Nat), whoFrom (List.replicate n true) i = List.range' i n
  | 0, i => by simp [whoFrom]
  | n + 1, i => by
    rw [List.replicate_succ, List.range'_succ]
    simp only [whoFrom, if_true, whoFrom_all n (i + 1)]

theorem best_eq {ws : List Int} {m : Nat} (h1 : ∀ j, j < m → at0 ws j < at0 ws m) (h2 : ∀ j, at0 ws j ≤ at0 ws m ∨ ws.length ≤ j) : ∀ k, m < k → k ≤ ws.length → best ws k = m
  | 0, h, _ => by omega
  | k + 1, h, hk => by
    simp only [best]
    by_cases hm : m = k
    · subst hm
      by_cases hz : m = 0
      · subst hz; simp [best]
      · have hb : best ws m < m := by
          clear h2 hk h
          induction m with
          | zero => exact absurd rfl hz
          | succ m ih =>
            simp only [best]
            split
            · omega
            · by_cases hm : m = 0
              · subst hm; simp [best]
              · have : ∀ k, best ws k ≤ k := by
                  intro k
                  induction k with
                  | zero => simp [best]
                  | succ k ih => simp only [best]; split <;> omega
                have := this m
                omega
        rw [if_pos (h1 _ hb)]
    · rw [best_eq h1 h2 k (by omega) (by omega)]
      have := h2 k
      rw [if_neg (by omega)]

def turnAge (n q m j : Nat) : Int := if j < m then (m : Int) - 1 - j else if q = 0 then m else (n : Int) - 1 - (j - m)
def turnAges (n q m : Nat) : List Int := (List.range n).map (turnAge n q m)
theorem turnAges_length (n q m : Nat) : (turnAges n q m).length = n := by simp [turnAges]
theorem turnAges_at {n q m j : Nat} (h : j < n) : at0 (turnAges n q m) j = turnAge n q m j := by simp [turnAges, at0, h]
theorem turnAges_zero (n : Nat) : agesFor [] n = turnAges n 0 0 := by
  apply List.ext_getElem?
  intro i
  by_cases hi : i < n
  · simp [agesFor, turnAges, turnAge, hi]
  · simp [agesFor, turnAges, hi]
theorem agesFor_self {ages : List Int} {n : Nat} (h : ages.length = n) : agesFor ages n = ages := by
  subst h; simp [agesFor]
def turnLast (n q m : Nat) : Int := if m = 0 then (if q = 0 then -1 else (n : Int) - 1) else (m : Int) - 1

theorem firstGt_range (last : Int) : ∀ (n i : Nat), firstGt last (List.range' i n) i = if last < i then (if n = 0 then -1 else (i : Int)) else if last < i + n - 1 then last + 1 else -1
  | 0, i => by simp [firstGt]; omega
  | n + 1, i => by
    rw [List.range'_succ]
    simp only [firstGt]
    by_cases h : last < (i : Int)
    · simp [h]
    · rw [if_neg h, if_neg h, firstGt_range last n (i + 1)]
      by_cases h2 : last < ((i + 1 : Nat) : Int)
      · have : last = i := by omega
        subst this
        rw [if_pos h2]
        by_cases hn : n = 0
        · subst hn; simp
        · rw [if_neg hn]
          rw [if_pos (by omega)]
          omega
      · rw [if_neg h2]
        split <;> split <;> omega

theorem agesOf_range {ages : List Int} {n : Nat} (h : ages.length = n) : agesOf ages (List.range' 0 n) = ages := by
  apply List.ext_getElem?
  intro i
  by_cases hi : i < n
  · simp [agesOf, at0, hi, h]
  · simp [agesOf, hi, h]

theorem turn_next {n q m : Nat} (hm : m < n) {bound : Int} {ages : List Int} (ha : agesFor ages n = turnAges n q m) :
    ∃ q' m', m' < n ∧ (n * q' + m' = n * q + m + 1) ∧ nextP [] bound ages (turnLast n q m) (List.replicate n true) = ⟨m, [], turnAges n q' m', turnLast n q' m'⟩ := by
  have hwho : whoFrom (List.replicate n true) 0 = List.range' 0 n := whoFrom_all n 0
  have hne : List.range' 0 n ≠ [] := by simp; omega
  have hbest : best (turnAges n q m) n = m := by
    refine best_eq (fun j hj => ?_) (fun j => ?_) n hm (by rw [turnAges_length]; exact Nat.le_refl _)
    · rw [turnAges_at hm, turnAges_at (by omega)]
      simp only [turnAge]
      repeat' split
      all_goals omega
    · by_cases hj : j < n
      · left
        rw [turnAges_at hm, turnAges_at hj]
        simp only [turnAge]
        repeat' split
        all_goals omega
      · right; rw [turnAges_length]; omega
  have hch : chooseP [] bound (turnAges n q m) (turnLast n q m) (List.range' 0 n) = ((m : Int), []) := by
    simp only [chooseP, agesOf_range (turnAges_length n q m), List.length_range', hbest]
    split
    · rfl
    · rename_i hc
      rw [turnAges_at hm] at hc
      congr 1
      rw [firstGt_range]
      simp only [turnLast]
      have hq : m = 0 → q ≠ 0 → ¬ ((n : Int) - 1 < (0 : Nat) + (n : Nat) - 1) := by omega
      repeat' split
      all_goals omega
  have hlen : (List.replicate n true).length = n := by simp
  have hget : (List.range' 0 n).getD m 0 = m := by simp [List.getD_eq_getElem?_getD, hm]
  have hnext : nextP [] bound ages (turnLast n q m) (List.replicate n true) = ⟨m, [], newAges (List.replicate n true) m (turnAges n q m), m⟩ := by
    simp only [nextP, hwho, if_neg hne, hlen, ha, hch, Int.toNat_natCast, hget]
  rw [hnext]
  by_cases hw : m + 1 < n
  · refine ⟨q, m + 1, hw, by omega, ?_⟩
    congr 1
    · apply List.ext_getElem?
      intro j
      by_cases hj : j < n
      · simp only [newAges, hlen, turnAges, List.getElem?_map, List.getElem?_range hj, Option.map_some, Option.some.injEq, aged]
        rw [← turnAges, turnAges_at hj]
        simp only [turnAge, List.getD_eq_getElem?_getD, List.getElem?_replicate, hj, if_true, Option.getD_some, true_and]
        repeat' split
        all_goals omega
      · simp [newAges, turnAges, hj]
    · simp only [turnLast]; rw [if_neg (by omega)]; omega
  · refine ⟨q + 1, 0, by omega, by rw [Nat.mul_succ]; omega, ?_⟩
    congr 1
    · apply List.ext_getElem?
      intro j
      by_cases hj : j < n
      · simp only [newAges, hlen, turnAges, List.getElem?_map, List.getElem?_range hj, Option.map_some, Option.some.injEq, aged]
        rw [← turnAges, turnAges_at hj]
        simp only [turnAge, List.getD_eq_getElem?_getD, List.getElem?_replicate, hj, if_true, Option.getD_some, true_and]
        repeat' split
        all_goals omega
      · simp [newAges, turnAges, hj]
    · simp [turnLast]; omega
theorem turnAges_ok {n q m : Nat} (hm : m < n) (hn : n ≤ 40) : ∀ a ∈ turnAges n q m, 0 ≤ a ∧ a < 4611686018427387904 := by
  intro a ha
  simp only [turnAges, List.mem_map, List.mem_range] at ha
  obtain ⟨j, hj, rfl⟩ := ha
  simp only [turnAge]
  repeat' split
  all_goals omega
end Go.Am
