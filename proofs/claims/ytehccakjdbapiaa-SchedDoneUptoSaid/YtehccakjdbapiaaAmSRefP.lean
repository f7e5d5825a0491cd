/- The reference's choice is the program's. -/
import Derived.Test.YtehccakjdbapiaaAmSAge
import Derived.Test.YtehccakjdbapiaaAmSFairP
namespace Go.Am

def oldStep (ages : List Int) (o : Int) (a : Nat) : Int := if o < 0 ∨ at0 ages o.toNat < at0 ages a then (a : Int) else o
def oldF (ages : List Int) (who : List Nat) : Int := who.foldl (oldStep ages) (-1)
theorem oldF_snoc (ages : List Int) (who : List Nat) (a : Nat) : oldF ages (who ++ [a]) = oldStep ages (oldF ages who) a := by simp [oldF]
theorem at0_left {xs ys : List Int} {i : Nat} (h : i < xs.length) : at0 (xs ++ ys) i = at0 xs i := by simp [at0, List.getD_eq_getElem?_getD, List.getElem?_append_left h]
theorem at0_last (xs : List Int) (x : Int) : at0 (xs ++ [x]) xs.length = x := by simp [at0, List.getD_eq_getElem?_getD]
theorem best_append (xs ys : List Int) : ∀ k, k ≤ xs.length → best (xs ++ ys) k = best xs k
  | 0, _ => rfl
  | k + 1, hk => by
    have h1 := best_append xs ys k (by omega)
    have hb : ∀ i, i < xs.length → at0 (xs ++ ys) i = at0 xs i := by
      intro i hi
      simp [at0, List.getD_eq_getElem?_getD, List.getElem?_append_left hi]
    have hbl : best xs k < xs.length := by
      have : ∀ k, best xs k ≤ k := by
        intro k
        induction k with
        | zero => simp [best]
        | succ k ih => simp only [best]; split <;> omega
      have := this k
      omega
    simp only [best, h1, hb _ hbl, hb k (by omega)]
theorem oldF_best (ages : List Int) : ∀ (n : Nat) (who : List Nat), who.length = n → who ≠ [] → oldF ages who = (who.getD (best (agesOf ages who) who.length) 0 : Nat)
  | 0, who, hn, hne => absurd (List.length_eq_zero_iff.1 hn) hne
  | n + 1, who, hn, hne => by
    obtain ⟨l, a, rfl⟩ : ∃ l a, who = l ++ [a] := ⟨who.dropLast, who.getLast hne, (List.dropLast_concat_getLast hne).symm⟩
    rw [oldF_snoc]
    have hl : l.length = n := by simpa using hn
    have hag : agesOf ages (l ++ [a]) = agesOf ages l ++ [at0 ages a] := by simp [agesOf]
    by_cases he : l = []
    · subst he
      simp [oldF, oldStep, best]
    · have ih := oldF_best ages n l hl he
      have hpos := List.length_pos_iff.2 he
      have hbl := best_lt (ws := agesOf ages l) (by rw [← List.length_pos_iff]; simpa using hpos) l.length (by simp)
      simp only [agesOf_length] at hbl
      have hgl : l[best (agesOf ages l) l.length]? = some l[best (agesOf ages l) l.length] := List.getElem?_eq_getElem hbl
      have hgd : l.getD (best (agesOf ages l) l.length) 0 = l[best (agesOf ages l) l.length] := by simp [List.getD_eq_getElem?_getD, hgl]
      rw [ih, hgd]
      have hb2 : best (agesOf ages l ++ [at0 ages a]) l.length = best (agesOf ages l) l.length := best_append _ _ _ (by simp)
      have h1 : at0 (agesOf ages l ++ [at0 ages a]) (best (agesOf ages l) l.length) = at0 ages l[best (agesOf ages l) l.length] := by
        rw [at0_left (by simpa using hbl), agesOf_get hgl]
      have h2 : at0 (agesOf ages l ++ [at0 ages a]) l.length = at0 ages a := by
        have := at0_last (agesOf ages l) (at0 ages a)
        rwa [agesOf_length] at this
      rw [hag, List.length_append, List.length_singleton]
      simp only [best, hb2, h1, h2, oldStep, Int.toNat_natCast]
      have h0 : ¬ ((l[best (agesOf ages l) l.length] : Nat) : Int) < 0 := by omega
      by_cases hlt : at0 ages l[best (agesOf ages l) l.length] < at0 ages a
      · rw [if_pos (.inr hlt), if_pos hlt]
        simp
      · rw [if_neg (by rintro (h | h) <;> contradiction), if_neg hlt, List.getD_eq_getElem?_getD, List.getElem?_append_left hbl, hgl]
        rfl

/-- The last that was chosen. -/
def lastOf (cs : List (AV × List Bool × Int)) : Int := cs.foldl (fun l x => if 0 ≤ x.2.2 then x.2.2 else l) (-1)
theorem lastOf_take {cs : List (AV × List Bool × Int)} {k : Nat} {x : AV × List Bool × Int} (h : cs[k]? = some x) : lastOf (cs.take (k + 1)) = if 0 ≤ x.2.2 then x.2.2 else lastOf (cs.take k) := by
  rw [List.take_add_one, h]
  simp [lastOf]

/-- Looked for from behind: the first above the last, else the first of all. -/
def scan (last : Int) (who : List Nat) (k : Nat) : Nat := who.getD (max 0 (firstGt last (who.drop k) k)).toNat 0
theorem scan_all (last : Int) (who : List Nat) : scan last who who.length = who.getD 0 0 := by
  unfold scan
  rw [List.drop_length]
  rfl
theorem scan_step {last : Int} {who : List Nat} {k a : Nat} (h : who[k]? = some a) : scan last who k = if last < (a : Int) then a else scan last who (k + 1) := by
  have hk := (List.getElem?_eq_some_iff.1 h).1
  have hd : who.drop k = a :: who.drop (k + 1) := by
    rw [List.drop_eq_getElem_cons hk]
    congr 1
    exact (List.getElem?_eq_some_iff.1 h).2
  unfold scan
  rw [hd]
  simp only [firstGt]
  split
  · have : max 0 (k : Int) = k := by omega
    rw [this]
    simp [List.getD_eq_getElem?_getD, h]
  · rfl
end Go.Am
