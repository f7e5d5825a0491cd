/- The names that are looked at, in plain lists: small letters, labels. -/
import Derived.Test.YteoekjfgihnhaaaGreatDoorHmGRB20
set_option linter.all false
noncomputable section
namespace Go.Am

def lowN (n : Nat) : Nat := if 65 ≤ n ∧ n ≤ 90 then n + 32 else n
def lowB (b : UInt8) : UInt8 := UInt8.ofNat (lowN b.toNat)
theorem lowN_lt {n : Nat} (h : n < 256) : lowN n < 256 := by unfold lowN; split <;> omega
theorem lowB_nat (b : UInt8) : (lowB b).toNat = lowN b.toNat := by
  unfold lowB
  rw [UInt8.toNat_ofNat', Nat.mod_eq_of_lt (lowN_lt b.toNat_lt)]
theorem lowN_idem (n : Nat) : lowN (lowN n) = lowN n := by unfold lowN; split <;> (try split) <;> omega
theorem lowB_idem (b : UInt8) : lowB (lowB b) = lowB b := UInt8.toNat_inj.1 (by rw [lowB_nat, lowB_nat, lowN_idem])
abbrev Str := List UInt8
def low (s : Str) : Str := s.map lowB
theorem low_low (s : Str) : low (low s) = low s := by simp only [low, List.map_map]; exact List.map_congr_left fun b _ => lowB_idem b
theorem low_len (s : Str) : (low s).length = s.length := List.length_map _
/-- A letter, a figure, a dash. -/
def okN (n : Nat) : Bool := decide (n = 45) || ((decide (97 ≤ n) && decide (n ≤ 122)) || (decide (48 ≤ n) && decide (n ≤ 57)))
def letN (n : Nat) : Bool := (decide (97 ≤ n) && decide (n ≤ 122)) || (decide (48 ≤ n) && decide (n ≤ 57))
def okAll (l : Str) : Bool := l.all fun b => okN b.toNat
def isLab (s : Str) : Bool := decide (1 ≤ s.length) && decide (s.length ≤ 63) && !(decide (s[0]? = some 45)) && !(decide (s[s.length - 1]? = some 45)) && okAll (low s)
/-- As the document has it: a dash is neither the first nor the last. -/
def goodAt (l : Str) (i : Nat) : Bool := match l[i]? with
  | some b => letN b.toNat || (decide (b.toNat = 45) && !decide (i = 0) && !decide (i = l.length - 1))
  | none => true
theorem low_dash (s : Str) (i : Nat) : (low s)[i]? = some 45 ↔ s[i]? = some 45 := by
  unfold low
  rw [List.getElem?_map]
  cases h : s[i]? with
  | none => simp
  | some b =>
    simp only [Option.map_some, Option.some.injEq]
    constructor
    · intro hb
      have : (lowB b).toNat = 45 := by rw [hb]; rfl
      rw [lowB_nat] at this
      unfold lowN at this
      refine UInt8.toNat_inj.1 ?_
      show b.toNat = 45
      split at this <;> omega
    · rintro rfl; rfl
theorem isLab_iff (s : Str) : isLab s = true ↔ (low s ≠ [] ∧ (low s).length ≤ 63 ∧ ∀ i, i < (low s).length → goodAt (low s) i = true) := by
  have e0 := low_dash s 0
  have e1 := low_dash s (s.length - 1)
  have hl := low_len s
  generalize hL : low s = L at *
  unfold isLab
  simp only [Bool.and_eq_true, decide_eq_true_eq, Bool.not_eq_true', decide_eq_false_iff_not, ← e0, ← e1, hL]
  simp only [← hl]
  constructor
  · rintro ⟨⟨⟨⟨h1, h2⟩, h3⟩, h4⟩, h5⟩
    refine ⟨fun hn => by rw [hn] at h1; simp at h1, h2, fun i hi => ?_⟩
    unfold goodAt
    rw [List.getElem?_eq_getElem hi]
    have ho := List.all_eq_true.1 h5 L[i] (List.getElem_mem hi)
    simp only [okN, Bool.or_eq_true, decide_eq_true_eq] at ho
    simp only [Bool.or_eq_true]
    rcases ho with ho | ho
    · right
      have hb : L[i] = 45 := UInt8.toNat_inj.1 (by rw [ho]; rfl)
      simp only [ho, decide_true, Bool.true_and, Bool.and_eq_true, Bool.not_eq_true', decide_eq_false_iff_not]
      refine ⟨fun h0 => h3 ?_, fun h0 => h4 ?_⟩
      · subst h0; rw [List.getElem?_eq_getElem hi, hb]
      · rw [← h0, List.getElem?_eq_getElem hi, hb]
    · left; simpa [letN] using ho
  · rintro ⟨h1, h2, h3⟩
    have hpos : 0 < L.length := List.length_pos_iff.2 h1
    have nodash : ∀ i, (i = 0 ∨ i = L.length - 1) → L[i]? ≠ some 45 := by
      intro i hi hb
      have hlt : i < L.length := by omega
      have hg := h3 i hlt
      unfold goodAt at hg
      rw [hb] at hg
      have hn : letN (45 : UInt8).toNat = false := by rfl
      simp only [hn, Bool.false_or, Bool.and_eq_true, Bool.not_eq_true', decide_eq_false_iff_not] at hg
      omega
    refine ⟨⟨⟨⟨hpos, h2⟩, nodash 0 (.inl rfl)⟩, nodash _ (.inr rfl)⟩, ?_⟩
    refine List.all_eq_true.2 fun b hb => ?_
    obtain ⟨i, hi, rfl⟩ := List.getElem_of_mem hb
    have hg := h3 i hi
    unfold goodAt at hg
    rw [List.getElem?_eq_getElem hi] at hg
    simp only [Bool.or_eq_true, Bool.and_eq_true] at hg
    simp only [okN, Bool.or_eq_true]
    rcases hg with hg | hg
    · right; simpa [letN] using hg
    · left; exact hg.1.1
def labA (s : Str) : Str × Int := if isLab s then (low s, 0) else ([], 90)
end Go.Am
