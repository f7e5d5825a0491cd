/- The plain law of SchedFair: nobody waits too long. -/
import Derived.Test.YtehccakjdbapiaaAmSLeft
namespace Go.Am

theorem best_max (ws : List Int) : ∀ (k i : Nat), i < k → at0 ws i ≤ at0 ws (best ws k)
  | 0, i, h => by omega
  | k + 1, i, h => by
    simp only [best]
    by_cases hi : i = k
    · subst hi
      split
      · exact Int.le_refl _
      · omega
    · have := best_max ws k i (by omega)
      split
      · omega
      · exact this

/-- How many are at least x. -/
def cnt (ages : List Int) (x : Int) : Nat := ages.countP fun a => decide (x ≤ a)
theorem count_range_lt {p q : Nat → Bool} (hpq : ∀ i, p i = true → q i = true) : ∀ (L c : Nat), c < L → q c = true → p c = false → (List.range L).countP p + 1 ≤ (List.range L).countP q
  | 0, c, h, _, _ => by omega
  | L + 1, c, h, hq, hp => by
    rw [List.range_succ, List.countP_append, List.countP_append]
    simp only [List.countP_singleton]
    by_cases hc : c = L
    · subst hc
      have : (List.range c).countP p ≤ (List.range c).countP q := List.countP_mono_left (fun x _ hx => hpq x hx)
      rw [hq, hp]
      simp only [if_true, Bool.false_eq_true, if_false]
      omega
    · have := count_range_lt hpq L c (by omega) hq hp
      have h2 : (if p L = true then 1 else 0) ≤ (if q L = true then 1 else 0) := by
        by_cases h3 : p L = true
        · rw [if_pos h3, if_pos (hpq L h3)]; exact Nat.le_refl _
        · rw [if_neg h3]; omega
      omega
theorem count_range_le (p : Nat → Bool) (L : Nat) : (List.range L).countP p ≤ L := by
  have := List.countP_le_length (p := p) (l := List.range L)
  simpa using this

theorem cnt_new (ready : List Bool) (chosen : Int) (a0 : List Int) (x : Int) : cnt (newAges ready chosen a0) x = (List.range ready.length).countP fun i => decide (x ≤ aged ready chosen a0 i) := by
  simp only [cnt, newAges, List.countP_map]
  rfl
theorem cnt_range (a0 : List Int) (x : Int) : cnt a0 x = (List.range a0.length).countP fun i => decide (x ≤ at0 a0 i) := by
  have h : a0 = (List.range a0.length).map fun i => at0 a0 i := by
    apply List.ext_getElem?
    intro i
    by_cases hi : i < a0.length
    · simp [hi, at0]
    · simp [hi]
  unfold cnt
  conv => lhs; rw [h]
  rw [List.countP_map]
  rfl
theorem cnt_for {ages : List Int} {x : Int} (hx : 1 ≤ x) (n : Nat) : cnt (agesFor ages n) x ≤ cnt ages x := by
  unfold cnt agesFor
  rw [List.countP_append]
  have h1 : (List.replicate (n - ages.length) (0 : Int)).countP (fun a => decide (x ≤ a)) = 0 := by
    rw [List.countP_eq_zero]
    intro a ha
    simp only [List.mem_replicate] at ha
    simp; omega
  have h2 : (ages.take n).countP (fun a => decide (x ≤ a)) ≤ ages.countP (fun a => decide (x ≤ a)) := (List.take_sublist n ages).countP_le
  omega

theorem whoFrom_has : ∀ (l : List Bool) (i j : Nat), l[j]? = some true → i + j ∈ whoFrom l i
  | b :: l, i, 0, h => by
    have : b = true := by simpa using h
    subst this
    simp [whoFrom]
  | b :: l, i, j + 1, h => by
    have := whoFrom_has l (i + 1) j (by simpa using h)
    have h2 : i + (j + 1) = i + 1 + j := by omega
    rw [h2]
    cases b <;> simp [whoFrom, this]
  | [], i, j, h => by simp at h

/-- What is kept: at most n - 1 - j have an age of bound + j or more. -/
def Fair (n : Nat) (bound : Int) (ages : List Int) : Prop := ∀ j : Nat, cnt ages (bound + j) ≤ n - 1 - j
theorem Fair.nil (n : Nat) (bound : Int) : Fair n bound [] := fun j => by simp [cnt]
theorem Fair.lt {n : Nat} {bound : Int} {ages : List Int} (hf : Fair n bound ages) (hn : 1 ≤ n) (hb : 0 ≤ bound) (i : Nat) : at0 ages i < bound + n := by
  by_cases hi : i < ages.length
  · have h1 := hf (n - 1)
    have h2 : cnt ages (bound + (n - 1 : Nat)) = 0 := by omega
    unfold cnt at h2
    rw [List.countP_eq_zero] at h2
    have h3 := h2 _ (List.mem_of_getElem? (at0_get hi))
    simp at h3
    omega
  · simp [at0, hi]; omega

theorem next_spec (picks : List Int) (bound : Int) (ages : List Int) (last : Int) (ready : List Bool) :
    (whoFrom ready 0 = [] ∧ (nextP picks bound ages last ready).chosen = -1) ∨
    (∃ c : Nat, (nextP picks bound ages last ready).chosen = c ∧ c ∈ whoFrom ready 0 ∧ ∀ i ∈ whoFrom ready 0, bound ≤ at0 (agesFor ages ready.length) i → at0 (agesFor ages ready.length) i ≤ at0 (agesFor ages ready.length) c) := by
  by_cases hne : whoFrom ready 0 = []
  · left
    exact ⟨hne, by simp [nextP, hne]⟩
  · right
    have hr := chooseP_range (picks := picks) (bound := bound) (ages := agesFor ages ready.length) (last := last) hne
    refine ⟨(whoFrom ready 0).getD (chooseP picks bound (agesFor ages ready.length) last (whoFrom ready 0)).1.toNat 0, by simp only [nextP, if_neg hne], ?_, ?_⟩
    · generalize hc : (chooseP picks bound (agesFor ages ready.length) last (whoFrom ready 0)).1 = c at hr
      have hl : c.toNat < (whoFrom ready 0).length := by omega
      rw [List.getD_eq_getElem?_getD, List.getElem?_eq_getElem hl]
      exact List.getElem_mem hl
    · intro i hi hb
      obtain ⟨k, hk, rfl⟩ := List.mem_iff_getElem.1 hi
      have hkw : (whoFrom ready 0)[k]? = some (whoFrom ready 0)[k] := List.getElem?_eq_getElem hk
      have hmax := best_max (agesOf (agesFor ages ready.length) (whoFrom ready 0)) (whoFrom ready 0).length k hk
      rw [agesOf_get hkw] at hmax
      have hbl := best_lt (ws := agesOf (agesFor ages ready.length) (whoFrom ready 0)) (by rw [← List.length_pos_iff]; simpa [List.length_pos_iff] using hne) (whoFrom ready 0).length (by simp)
      simp only [agesOf_length] at hbl
      have hbw : (whoFrom ready 0)[best (agesOf (agesFor ages ready.length) (whoFrom ready 0)) (whoFrom ready 0).length]? = some _ := List.getElem?_eq_getElem hbl
      have hch : (chooseP picks bound (agesFor ages ready.length) last (whoFrom ready 0)).1 = (best (agesOf (agesFor ages ready.length) (whoFrom ready 0)) (whoFrom ready 0).length : Nat) := by
        unfold chooseP
        rw [if_pos (by omega)]
      rw [hch, Int.toNat_natCast, List.getD_eq_getElem?_getD, hbw]
      rw [agesOf_get hbw] at hmax
      exact hmax

theorem Fair.next {n : Nat} {bound : Int} (hb : 1 ≤ bound) {picks ages : List Int} {last : Int} {ready : List Bool} (hL : ready.length ≤ n) (hf : Fair n bound ages) : Fair n bound (nextP picks bound ages last ready).ages := by
  intro j
  rw [nextP_ages, cnt_new]
  rcases next_spec picks bound ages last ready with ⟨hne, hc⟩ | ⟨c, hc, hcm, hmax⟩
  · have : (List.range ready.length).countP (fun i => decide (bound + j ≤ aged ready (nextP picks bound ages last ready).chosen (agesFor ages ready.length) i)) = 0 := by
      rw [List.countP_eq_zero]
      intro i hi
      simp only [List.mem_range] at hi
      have hnr : ready.getD i false = false := by
        cases hg : ready.getD i false with
        | false => rfl
        | true =>
          have : ready[i]? = some true := by
            rw [List.getD_eq_getElem?_getD, List.getElem?_eq_getElem hi] at hg
            rw [List.getElem?_eq_getElem hi]
            simpa using hg
          have := whoFrom_has ready 0 i this
          rw [hne] at this
          cases this
      simp only [aged, hnr, decide_eq_true_eq, Bool.false_eq_true, false_and, if_false]
      omega
    rw [this]; omega
  · rw [hc]
    have hcw := whoFrom_mem ready 0 c hcm
    simp only [Nat.zero_add, Nat.sub_zero] at hcw
    have hpc : decide (bound + (j : Int) ≤ aged ready c (agesFor ages ready.length) c) = false := by
      simp only [aged, ne_eq, not_true, and_false, if_false, decide_eq_false_iff_not]; omega
    cases j with
    | zero =>
      have h1 := count_range_lt (p := fun i => decide (bound + ((0 : Nat) : Int) ≤ aged ready c (agesFor ages ready.length) i)) (q := fun _ => true) (fun _ _ => rfl) ready.length c hcw.2.1 rfl hpc
      have h2 := count_range_le (fun _ => true) ready.length
      omega
    | succ j =>
      by_cases hex : ∃ i, i < ready.length ∧ ready.getD i false = true ∧ bound + (j : Int) ≤ at0 (agesFor ages ready.length) i
      · obtain ⟨i, hi, hri, hai⟩ := hex
        have hiw : i ∈ whoFrom ready 0 := by
          have : ready[i]? = some true := by
            rw [List.getD_eq_getElem?_getD, List.getElem?_eq_getElem hi] at hri
            rw [List.getElem?_eq_getElem hi]
            simpa using hri
          simpa using whoFrom_has ready 0 i this
        have hge := hmax i hiw (by omega)
        have h1 := count_range_lt (p := fun i => decide (bound + ((j + 1 : Nat) : Int) ≤ aged ready c (agesFor ages ready.length) i)) (q := fun i => decide (bound + (j : Int) ≤ at0 (agesFor ages ready.length) i)) (by
          intro k hk
          have hk := of_decide_eq_true hk
          apply decide_eq_true
          unfold aged at hk
          split at hk <;> omega) ready.length c hcw.2.1 (by simp only [decide_eq_true_eq]; omega) hpc
        have h2 := cnt_range (agesFor ages ready.length) (bound + (j : Int))
        rw [agesFor_length] at h2
        have h3 := cnt_for (ages := ages) (x := bound + (j : Int)) (by omega) ready.length
        have h4 := hf j
        omega
      · have : (List.range ready.length).countP (fun i => decide (bound + ((j + 1 : Nat) : Int) ≤ aged ready c (agesFor ages ready.length) i)) = 0 := by
          rw [List.countP_eq_zero]
          intro i hi
          simp only [List.mem_range] at hi
          intro hh
          have hh := of_decide_eq_true hh
          unfold aged at hh
          split at hh
          · rename_i hr
            exact hex ⟨i, hi, hr.1, by omega⟩
          · omega
        rw [this]; omega

def waitsOf (ages : List Int) (n : Nat) : List Int := (List.range n).map fun j => at0 ages j
def mixW (a b : List Int) (k n : Nat) : List Int := (List.range n).map fun j => if j < k then at0 b j else at0 a j
theorem mixW_zero (a b : List Int) (n : Nat) : mixW a b 0 n = waitsOf a n := by simp [mixW, waitsOf]
theorem mixW_all (a b : List Int) (n : Nat) : mixW a b n n = waitsOf b n := by
  apply List.map_congr_left
  intro i hi
  simp only [List.mem_range] at hi
  simp [hi]
theorem mixW_length (a b : List Int) (k n : Nat) : (mixW a b k n).length = n := by simp [mixW]
theorem mixW_at (a b : List Int) {k n : Nat} (h : k < n) : (mixW a b k n)[k]? = some (at0 a k) := by simp [mixW, h]
theorem mixW_set (a b : List Int) {k n : Nat} (h : k < n) : (mixW a b k n).set k (at0 b k) = mixW a b (k + 1) n := by
  apply List.ext_getElem?
  intro i
  rw [List.getElem?_set]
  by_cases hi : i < n
  · by_cases hk : k = i
    · subst hk; simp [mixW, h]
    · have : (i < k) = (i < k + 1) := by apply propext; omega
      simp [mixW, hi, hk, this]
  · have hk : k ≠ i := by omega
    simp [mixW, hi, hk]
theorem newAges_at (ready : List Bool) (chosen : Int) (ages : List Int) (i : Nat) : at0 (newAges ready chosen (agesFor ages ready.length)) i = if ready.getD i false = true ∧ (i : Int) ≠ chosen then at0 ages i + 1 else 0 := by
  by_cases hi : i < ready.length
  · have h1 : at0 (newAges ready chosen (agesFor ages ready.length)) i = aged ready chosen (agesFor ages ready.length) i := by simp [newAges, at0, hi]
    have h2 : at0 (agesFor ages ready.length) i = at0 ages i := by
      simp only [at0, agesFor, List.getD_eq_getElem?_getD]
      by_cases hl : i < ages.length
      · rw [List.getElem?_append_left (by simp; omega), List.getElem?_take_of_lt hi]
      · rw [List.getElem?_append_right (by simp; omega), List.getElem?_replicate]
        rw [List.getElem?_eq_none (l := ages) (by omega)]
        split <;> rfl
    rw [h1, aged, h2]
  · have h1 : (newAges ready chosen (agesFor ages ready.length))[i]? = none := by simp [newAges, hi]
    have h2 : ready[i]? = none := by simp [hi]
    simp [at0, h1, h2]
theorem waits_nil (n : Nat) : waitsOf [] n = List.replicate n 0 := by
  apply List.ext_getElem?
  intro i
  by_cases hi : i < n <;> simp [waitsOf, at0, hi]
def anyTo (r : List Bool) : Nat → Bool
  | 0 => false
  | k + 1 => anyTo r k || r.getD k false
theorem anyTo_iff (r : List Bool) : ∀ k, anyTo r k = true ↔ ∃ j, j < k ∧ r.getD j false = true
  | 0 => by simp [anyTo]
  | k + 1 => by
    simp only [anyTo, Bool.or_eq_true, anyTo_iff r k]
    constructor
    · rintro (⟨j, h1, h2⟩ | h)
      · exact ⟨j, by omega, h2⟩
      · exact ⟨k, by omega, h⟩
    · rintro ⟨j, h1, h2⟩
      by_cases hj : j = k
      · subst hj; exact .inr h2
      · exact .inl ⟨j, by omega, h2⟩
theorem getD_true {r : List Bool} {j : Nat} (h : r.getD j false = true) : r[j]? = some true := by
  rw [List.getD_eq_getElem?_getD] at h
  cases hg : r[j]? with
  | none => simp [hg] at h
  | some b => simp [hg] at h; rw [h]
theorem anyTo_none {r : List Bool} {n : Nat} (h : whoFrom r 0 = []) : anyTo r n = false := by
  cases ha : anyTo r n with
  | false => rfl
  | true =>
    obtain ⟨j, _, h2⟩ := (anyTo_iff r n).1 ha
    have := whoFrom_has r 0 j (getD_true h2)
    rw [h] at this; cases this
theorem anyTo_some {r : List Bool} {n c : Nat} (hn : r.length ≤ n) (h : c ∈ whoFrom r 0) : anyTo r n = true := by
  have := whoFrom_mem r 0 c h
  simp only [Nat.zero_add, Nat.sub_zero] at this
  refine (anyTo_iff r n).2 ⟨c, by omega, ?_⟩
  rw [List.getD_eq_getElem?_getD, this.2.2]; rfl
end Go.Am
