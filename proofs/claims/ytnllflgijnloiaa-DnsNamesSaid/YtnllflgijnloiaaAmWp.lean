/- What a piece of code comes to: a calculus over the abstract machine's runs. -/
import Derived.Test.YtnllflgijnloiaaAmSim
namespace Go.Am
open Go.RowKit

section
variable {ov : CallF} {P : Program}

abbrev Post := Out → List AV → Heap → Prop

def WP (ov : CallF) (P : Program) (c : Code) (e : List AV) (h : Heap) (K : Post) : Prop := ∃ o e' h', Runs ov P c e h (o, e', h') ∧ K o e' h'

/-- A region's outcome. -/
def W (K : Post) : Option (Out × List AV × Heap) → Prop
  | some (o, e, h) => K o e h
  | none => False
theorem W_none {K : Post} : W K none = False := rfl
theorem W_some {K : Post} {o : Out} {e : List AV} {h : Heap} : W K (some (o, e, h)) = K o e h := rfl

def seqK (ov : CallF) (P : Program) (b : Code) (K : Post) : Post
  | .normal, e, h => WP ov P b e h K
  | o, e, h => K o e h
def blockK (id : Nat) (K : Post) : Post
  | .exit i, e, h => bif Nat.beq i id then K .normal e h else K (.exit i) e h
  | o, e, h => K o e h
/-- What a loop's round may come to: out, or once more. -/
def loopK (I : List AV → Heap → Prop) (K : Post) : Post
  | .normal, e, h => I e h
  | o, e, h => K o e h

theorem WP.mono {c : Code} {e : List AV} {h : Heap} {K K' : Post} (hw : WP ov P c e h K) (hk : ∀ o e h, K o e h → K' o e h) : WP ov P c e h K' := by
  obtain ⟨o, e', h', h1, h2⟩ := hw
  exact ⟨o, e', h', h1, hk _ _ _ h2⟩
theorem WP.skip {e : List AV} {h : Heap} {K : Post} (hk : K .normal e h) : WP ov P .skip e h K := ⟨_, _, _, Runs.skip, hk⟩
theorem WP.label {l : Nat} {e : List AV} {h : Heap} {K : Post} (hk : K .normal e h) : WP ov P (.label l) e h K := ⟨_, _, _, Runs.label, hk⟩
theorem WP.exit {l : Nat} {e : List AV} {h : Heap} {K : Post} (hk : K (.exit l) e h) : WP ov P (.exit l) e h K := ⟨_, _, _, Runs.exit, hk⟩
theorem WP.ret {e : List AV} {h : Heap} {K : Post} (hk : K .ret e h) : WP ov P .ret e h K := ⟨_, _, _, Runs.ret, hk⟩
theorem WP.region {id : Nat} {ops : Array Oper} {e : List AV} {h : Heap} {K : Post} (hw : W K (opsA (callT ov P) P ops ops.toList e h)) : WP ov P (.region id ops false) e h K := by
  generalize hr : opsA (callT ov P) P ops ops.toList e h = r at hw
  match r, hw with
  | some (o, e', h'), hw => exact ⟨o, e', h', Runs.region hr, hw⟩
theorem WP.seq {a b : Code} {e : List AV} {h : Heap} {K : Post} (hw : WP ov P a e h (seqK ov P b K)) : WP ov P (.seq a b) e h K := by
  obtain ⟨o, e', h', h1, h2⟩ := hw
  cases o with
  | normal =>
    obtain ⟨o2, e2, h2', h3, h4⟩ := h2
    exact ⟨o2, e2, h2', Runs.seq h1 h3, h4⟩
  | exit i => exact ⟨_, _, _, Runs.seq_out h1 (by simp), h2⟩
  | ret => exact ⟨_, _, _, Runs.seq_out h1 (by simp), h2⟩
  | pan v => exact ⟨_, _, _, Runs.seq_out h1 (by simp), h2⟩
theorem WP.cond {c : Operand} {a b : Code} {e : List AV} {h : Heap} {K : Post} {t : Bool} (hc : evalA P e c = .bool t) (h1 : t = true → WP ov P a e h K) (h2 : t = false → WP ov P b e h K) : WP ov P (.cond c a b) e h K := by
  cases t with
  | true => obtain ⟨o, e', h', h3, h4⟩ := h1 rfl; exact ⟨o, e', h', Runs.cond_true hc h3, h4⟩
  | false => obtain ⟨o, e', h', h3, h4⟩ := h2 rfl; exact ⟨o, e', h', Runs.cond_false hc h3, h4⟩
theorem WP.block {id : Nat} {b : Code} {e : List AV} {h : Heap} {K : Post} (hw : WP ov P b e h (blockK id K)) : WP ov P (.block id b) e h K := by
  obtain ⟨o, e', h', h1, h2⟩ := hw
  cases o with
  | exit i =>
    by_cases hi : i = id
    · subst hi
      simp only [blockK, Trie.beq1, decide_true, _root_.cond_true] at h2
      exact ⟨_, _, _, Runs.block_exit h1, h2⟩
    · simp only [blockK, Trie.beq1, hi, decide_false, _root_.cond_false] at h2
      exact ⟨_, _, _, Runs.block h1 (by simpa using hi), h2⟩
  | normal => exact ⟨_, _, _, Runs.block h1 (by simp), h2⟩
  | ret => exact ⟨_, _, _, Runs.block h1 (by simp), h2⟩
  | pan v => exact ⟨_, _, _, Runs.block h1 (by simp), h2⟩
/-- A loop by an invariant that counts down. -/
theorem WP.loop {b : Code} {K : Post} (I : Nat → List AV → Heap → Prop) (step : ∀ n e h, I n e h → WP ov P b e h (loopK (fun e h => ∃ m, m < n ∧ I m e h) K)) : ∀ (n : Nat) (e : List AV) (h : Heap), I n e h → WP ov P (.loop b) e h K := by
  intro n
  induction n using Nat.strongRecOn with
  | ind n ih =>
    intro e h hI
    obtain ⟨o, e', h', h1, h2⟩ := step n e h hI
    cases o with
    | normal =>
      obtain ⟨m, hm, hI'⟩ := h2
      obtain ⟨o2, e2, h2', h3, h4⟩ := ih m hm e' h' hI'
      exact ⟨o2, e2, h2', Runs.loop h1 h3, h4⟩
    | exit i => exact ⟨_, _, _, Runs.loop_out h1 (by simp), h2⟩
    | ret => exact ⟨_, _, _, Runs.loop_out h1 (by simp), h2⟩
    | pan v => exact ⟨_, _, _, Runs.loop_out h1 (by simp), h2⟩

theorem seqK_normal {b : Code} {K : Post} {e : List AV} {h : Heap} : seqK ov P b K .normal e h = WP ov P b e h K := rfl
theorem seqK_exit {b : Code} {K : Post} {e : List AV} {h : Heap} {i : Nat} : seqK ov P b K (.exit i) e h = K (.exit i) e h := rfl
theorem seqK_ret {b : Code} {K : Post} {e : List AV} {h : Heap} : seqK ov P b K .ret e h = K .ret e h := rfl
theorem blockK_same {id : Nat} {K : Post} {e : List AV} {h : Heap} : blockK id K (.exit id) e h = K .normal e h := by
  simp only [blockK, Trie.beq1, decide_true, _root_.cond_true]
theorem blockK_ne {id i : Nat} (hn : i ≠ id) {K : Post} {e : List AV} {h : Heap} : blockK id K (.exit i) e h = K (.exit i) e h := by
  simp only [blockK, Trie.beq1, hn, decide_false, _root_.cond_false]
theorem blockK_normal {id : Nat} {K : Post} {e : List AV} {h : Heap} : blockK id K .normal e h = K .normal e h := rfl
theorem blockK_ret {id : Nat} {K : Post} {e : List AV} {h : Heap} : blockK id K .ret e h = K .ret e h := rfl
theorem loopK_normal {I : List AV → Heap → Prop} {K : Post} {e : List AV} {h : Heap} : loopK I K .normal e h = I e h := rfl
theorem loopK_exit {I : List AV → Heap → Prop} {K : Post} {e : List AV} {h : Heap} {i : Nat} : loopK I K (.exit i) e h = K (.exit i) e h := rfl
theorem loopK_ret {I : List AV → Heap → Prop} {K : Post} {e : List AV} {h : Heap} : loopK I K .ret e h = K .ret e h := rfl

@[congr] theorem W_congr {K : Post} {x y : Option (Out × List AV × Heap)} (h : x = y) : W K x = W K y := by rw [h]
@[congr] theorem WP_congr {c : Code} {K : Post} {e e' : List AV} {h h' : Heap} (he : e = e') (hh : h = h') : WP ov P c e h K = WP ov P c e' h' K := by rw [he, hh]
@[congr] theorem seqK_congr {b : Code} {K : Post} {o o' : Out} {e e' : List AV} {h h' : Heap} (ho : o = o') (he : e = e') (hh : h = h') : seqK ov P b K o e h = seqK ov P b K o' e' h' := by rw [ho, he, hh]
@[congr] theorem blockK_congr {id : Nat} {K : Post} {o o' : Out} {e e' : List AV} {h h' : Heap} (ho : o = o') (he : e = e') (hh : h = h') : blockK id K o e h = blockK id K o' e' h' := by rw [ho, he, hh]
@[congr] theorem loopK_congr {I : List AV → Heap → Prop} {K : Post} {o o' : Out} {e e' : List AV} {h h' : Heap} (ho : o = o') (he : e = e') (hh : h = h') : loopK I K o e h = loopK I K o' e' h' := by rw [ho, he, hh]

/-- A region that draws its order and needs no look at what it does. -/
theorem WP.draw {id : Nat} {ops : Array Oper} {e : List AV} {h : Heap} {K : Post} (hs : drawStatic P ops (masks ops.toList []) = true) (hn : needNot P (masks ops.toList []) (louds P ops.toList 0) ops.toList 0 = true)
    (hw : W (fun o e h => o = .normal ∧ K .normal e h) (opsA (callT ov P) P ops ops.toList e h)) : WP ov P (.region id ops true) e h K := by
  generalize hr : opsA (callT ov P) P ops ops.toList e h = r at hw
  match r, hw with
  | some (o, e', h'), hw =>
    obtain ⟨rfl, hk⟩ := hw
    refine ⟨.normal, e', h', Runs.draw ?_, hk⟩
    simp only [drawA, hs, cond_true, hr, hn, Bool.true_or]
theorem WP.drawDyn {id : Nat} {ops : Array Oper} {e : List AV} {h : Heap} {K : Post} (hs : drawStatic P ops (masks ops.toList []) = true) (hn : dynOk (callT ov P) P ops e h = true)
    (hw : W (fun o e h => o = .normal ∧ K .normal e h) (opsA (callT ov P) P ops ops.toList e h)) : WP ov P (.region id ops true) e h K := by
  generalize hr : opsA (callT ov P) P ops ops.toList e h = r at hw
  match r, hw with
  | some (o, e', h'), hw =>
    obtain ⟨rfl, hk⟩ := hw
    refine ⟨.normal, e', h', Runs.draw ?_, hk⟩
    simp only [drawA, hs, cond_true, hr, hn, Bool.or_true]

/-- A function's call. -/
theorem callT_wp {f : FuncId} {fn : Func} {c : Code} {a : List AV} {h : Heap} {Q : AV → Heap → Prop} (hov : ov f a h = none) (hf : P.funcs[f]? = some fn) (hb : fn.body = some c)
    (hw : WP ov P c (frameA fn a) h (fun o e h' => (o = .normal ∨ o = .ret) ∧ ∃ vs, resultsA P e h' fn.results.toList = some vs ∧ Q (single vs) h')) : ∃ v h', callT ov P f a h = some (.ret v h') ∧ Q v h' := by
  obtain ⟨o, e, h', h1, ho, vs, hv, hq⟩ := hw
  exact ⟨_, _, callT_ret hov hf hb h1 ho hv, hq⟩

/-! ### Frames by what they hold -/

theorem nth_set_eq : ∀ {e : List AV} {i : Nat} {v : AV}, i < e.length → nth (e.set i v) i = v
  | _ :: _, 0, _, _ => rfl
  | _ :: e, i + 1, v, h => by simp only [List.set_cons_succ, nth]; exact nth_set_eq (by simpa using h)
theorem nth_set_ne : ∀ {e : List AV} {i j : Nat} {v : AV}, i ≠ j → nth (e.set i v) j = nth e j
  | [], _, _, _, _ => rfl
  | _ :: _, 0, 0, _, h => absurd rfl h
  | _ :: _, 0, _ + 1, _, _ => rfl
  | _ :: _, _ + 1, 0, _, _ => rfl
  | _ :: e, i + 1, j + 1, v, h => by simp only [List.set_cons_succ, nth]; exact nth_set_ne (by omega)

/-! ### Memory by what it holds -/

def Wf (h : Heap) : Prop := ∀ i o, h.get i = some o → i < h.next
theorem Wf.set {h : Heap} (hw : Wf h) {i : Nat} (o : Obj) (hi : i < h.next) : Wf (h.set i o) := by
  intro j o' hj
  rw [Heap.next_set]
  by_cases hij : i = j
  · omega
  · rw [Heap.get_set_ne _ _ hij] at hj; exact hw _ _ hj
theorem Wf.alloc {h : Heap} (hw : Wf h) (o : Obj) : Wf (h.alloc o) := by
  intro j o' hj
  rw [Heap.next_alloc]
  by_cases hij : h.next = j
  · omega
  · rw [Heap.get_alloc_ne _ _ hij] at hj; have := hw _ _ hj; omega
theorem Wf.del {h : Heap} (hw : Wf h) (i : Nat) : Wf (h.del i) := by
  intro j o' hj
  rw [Heap.next_del]
  by_cases hij : i = j
  · subst hij; rw [Heap.get_del] at hj; cases hj
  · rw [Heap.get_del_ne _ hij] at hj; exact hw _ _ hj
theorem Wf.none {h : Heap} (hw : Wf h) {i : Nat} (hi : h.next ≤ i) : h.get i = none := by
  cases hg : h.get i with
  | none => rfl
  | some o => have := hw _ _ hg; omega

/-- Behind h0 all that was there is still there, but for some. -/
structure Keep (ex : List Nat) (h0 h : Heap) : Prop where
  wf0 : Wf h0
  wf : Wf h
  le : h0.next ≤ h.next
  get : ∀ i o, h0.get i = some o → i ∉ ex → h.get i = some o
theorem Keep.refl {ex : List Nat} {h : Heap} (hw : Wf h) : Keep ex h h := ⟨hw, hw, Nat.le_refl _, fun _ _ h _ => h⟩
theorem Keep.trans {ex : List Nat} {a b c : Heap} (h : Keep ex a b) (h' : Keep ex b c) : Keep ex a c := ⟨h.wf0, h'.wf, Nat.le_trans h.le h'.le, fun i o hi hx => h'.get i o (h.get i o hi hx) hx⟩
theorem Keep.more {ex ex' : List Nat} {a b : Heap} (h : Keep ex a b) (hx : ∀ i, i ∈ ex → i ∈ ex' ∨ a.next ≤ i) : Keep ex' a b := ⟨h.wf0, h.wf, h.le, fun i o hi hn => h.get i o hi (fun hm => by
  rcases hx i hm with h1 | h1
  · exact hn h1
  · have := h.wf0 _ _ hi; omega)⟩
theorem Keep.alloc {ex : List Nat} {h0 h : Heap} (hk : Keep ex h0 h) (o : Obj) : Keep ex h0 (h.alloc o) :=
  ⟨hk.wf0, hk.wf.alloc o, by rw [Heap.next_alloc]; have := hk.le; omega, fun i o' hi hx => by
    have h1 := hk.get i o' hi hx
    have := hk.wf _ _ h1
    rw [Heap.get_alloc_ne _ _ (by omega)]; exact h1⟩
theorem Keep.set {ex : List Nat} {h0 h : Heap} (hk : Keep ex h0 h) {i : Nat} (o : Obj) (hi : i < h.next) (hx : i ∈ ex ∨ h0.next ≤ i) : Keep ex h0 (h.set i o) :=
  ⟨hk.wf0, hk.wf.set o hi, hk.le, fun j o' hj hn => by
    have h1 := hk.get j o' hj hn
    have h2 := hk.wf0 _ _ hj
    rw [Heap.get_set_ne _ _ (by rintro rfl; rcases hx with hx | hx; exact hn hx; omega)]; exact h1⟩
theorem Keep.del {ex : List Nat} {h0 h : Heap} (hk : Keep ex h0 h) {i : Nat} (hx : i ∈ ex ∨ h0.next ≤ i) : Keep ex h0 (h.del i) :=
  ⟨hk.wf0, hk.wf.del i, hk.le, fun j o' hj hn => by
    have h1 := hk.get j o' hj hn
    have h2 := hk.wf0 _ _ hj
    rw [Heap.get_del_ne _ (by rintro rfl; rcases hx with hx | hx; exact hn hx; omega)]; exact h1⟩

/-- What is said of a capacity fits the length. -/
def capOk (n : Nat) : Cap → Prop
  | .exact m => n ≤ m
  | .tip e => e = 1
  | .dim => True
/-- What a slice of one-cell elements shows. -/
def Sl (h : Heap) (v : AV) (xs : List AV) : Prop :=
  match v with
  | .slice none n _ => n = 0 ∧ xs = []
  | .slice (some l) n c => (xs.length = n ∧ capOk n c) ∧ (n = 0 ∨ ∃ cs k, h.get l.id = some (.cells cs k) ∧ l.off + n ≤ cs.length ∧ (cs.drop l.off).take n = xs)
  | _ => False
/-- Its block (none where it shows nothing). -/
def idOf : AV → Option Nat
  | .slice (some l) _ _ => some l.id
  | .ptr (some l) => some l.id
  | _ => none

theorem Sl.keep {ex : List Nat} {h0 h : Heap} (hk : Keep ex h0 h) {v : AV} {xs : List AV} (hs : Sl h0 v xs) (hx : ∀ i, idOf v = some i → i ∉ ex) : Sl h v xs := by
  match v, hs with
  | .slice none n _, hs => exact hs
  | .slice (some l) n _, hs =>
    obtain ⟨h1, h2⟩ := hs
    refine ⟨h1, h2.imp id ?_⟩
    rintro ⟨cs, k, h3, h4⟩
    exact ⟨cs, k, hk.get _ _ h3 (hx _ rfl), h4⟩
theorem Sl.keep' {ex : List Nat} {h0 h : Heap} (hk : Keep ex h0 h) {v : AV} {xs : List AV} (hs : Sl h0 v xs) (hx : xs ≠ [] → ∀ i, idOf v = some i → i ∉ ex) : Sl h v xs := by
  match v, hs with
  | .slice none n _, hs => exact hs
  | .slice (some l) n _, hs =>
    obtain ⟨h1, h2⟩ := hs
    refine ⟨h1, ?_⟩
    rcases h2 with h2 | ⟨cs, k, h3, h4⟩
    · exact .inl h2
    · by_cases hn : n = 0
      · exact .inl hn
      · refine .inr ⟨cs, k, hk.get _ _ h3 (hx ?_ _ rfl), h4⟩
        intro hh
        rw [hh] at h1
        exact hn h1.1.symm
theorem Sl.lt {h : Heap} (hw : Wf h) {v : AV} {xs : List AV} (hs : Sl h v xs) (hne : xs ≠ []) {i : Nat} (hi : idOf v = some i) : i < h.next := by
  match v, hs with
  | .slice (some l) n _, hs =>
    cases hi
    obtain ⟨h1, h2 | ⟨cs, k, h3, h4⟩⟩ := hs
    · exact absurd (List.length_eq_zero_iff.1 (h1.1.trans h2)) hne
    · exact hw _ _ h3
theorem Sl.slice {h : Heap} {v : AV} {xs : List AV} (hs : Sl h v xs) : ∃ l c, v = .slice l xs.length c := by
  match v, hs with
  | .slice none n c, hs => obtain ⟨rfl, rfl⟩ := hs; exact ⟨none, c, rfl⟩
  | .slice (some l) n c, hs => obtain ⟨⟨rfl, _⟩, _⟩ := hs; exact ⟨some l, c, rfl⟩
theorem Sl.len {h : Heap} {v : AV} {xs : List AV} (hs : Sl h v xs) {t el : TypeId} (hu : P.underlying t = some (.slice el)) : lenA P h t v = some (.int .i64 xs.length) := by
  obtain ⟨l, c, rfl⟩ := hs.slice
  exact lenA_slice hu
theorem Sl.at {h : Heap} {v : AV} {xs : List AV} (hs : Sl h v xs) {t el : TypeId} (hu : P.underlying t = some (.slice el)) (h1 : sizeA P el = some 1) (ha : aggA P el = some false) {i : Nat} {x : AV} (hx : xs[i]? = some x) {k : IntKind} :
    ∃ l, indexAddrA P t v (.int k (i : Int)) = some (.ptr (some l)) ∧ loadA P h el l = some x ∧ idOf v = some l.id := by
  have hlt := (List.getElem?_eq_some_iff.1 hx).1
  match v, hs with
  | .slice none n c, hs => obtain ⟨rfl, rfl⟩ := hs; simp at hx
  | .slice (some l) n c, hs =>
    obtain ⟨⟨rfl, _⟩, h0 | ⟨cs, k', hg, hle, hd⟩⟩ := hs
    · omega
    · refine ⟨_, index_at hu h1 hlt, ?_, rfl⟩
      refine load_cell ha hg ?_
      rw [← hd, List.getElem?_take_of_lt hlt, List.getElem?_drop] at hx
      simpa using hx
theorem Sl.src {h : Heap} {v : AV} {xs : List AV} (hs : Sl h v xs) {t el : TypeId} (hu : P.underlying t = some (.slice el)) (hok : cellsOk xs = true) : srcA P h 1 t v = some (xs.length, xs) := by
  match v, hs with
  | .slice none n c, hs => obtain ⟨rfl, rfl⟩ := hs; simp [srcA, hu]
  | .slice (some l) n c, hs =>
    obtain ⟨⟨rfl, _⟩, h0⟩ := hs
    cases hn : xs.length with
    | zero =>
      have : xs = [] := List.length_eq_zero_iff.1 hn
      simp [srcA, hu, this]
    | succ n =>
      rcases h0 with h0 | ⟨cs, k', hg, hle, hd⟩
      · omega
      · simp only [srcA, hu, readA, Nat.mul_one, hg]
        rw [hn] at hle hd
        rw [(ble_iff _ _).2 hle]
        simp only [cond_true, hd, hok]

/-- A slice that is all of a block of the call's own. -/
def Own (h : Heap) (v : AV) (i : Nat) (xs : List AV) : Prop := ∃ c, (v = .slice (some ⟨i, 0⟩) xs.length c ∧ capOk xs.length c) ∧ h.get i = some (.cells xs .own)
theorem Own.sl {h : Heap} {v : AV} {i : Nat} {xs : List AV} (ho : Own h v i xs) : Sl h v xs := by
  obtain ⟨c, ⟨rfl, hcap⟩, hg⟩ := ho
  exact ⟨⟨rfl, hcap⟩, .inr ⟨xs, .own, hg, by simp, by simp⟩⟩
theorem Own.id {h : Heap} {v : AV} {i : Nat} {xs : List AV} (ho : Own h v i xs) : idOf v = some i := by
  obtain ⟨c, ⟨rfl, _⟩, hg⟩ := ho; rfl
theorem Own.keep {ex : List Nat} {h0 h : Heap} (hk : Keep ex h0 h) {v : AV} {i : Nat} {xs : List AV} (hs : Own h0 v i xs) (hx : i ∉ ex) : Own h v i xs := by
  obtain ⟨c, h1, h2⟩ := hs
  exact ⟨c, h1, hk.get _ _ h2 hx⟩
theorem Own.addr {h : Heap} {v : AV} {b : Nat} {xs : List AV} (hs : Own h v b xs) {t el : TypeId} (hu : P.underlying t = some (.slice el)) (h1 : sizeA P el = some 1) {i : Nat} (hi : i < xs.length) {k : IntKind} :
    indexAddrA P t v (.int k (i : Int)) = some (.ptr (some ⟨b, i⟩)) := by
  obtain ⟨c, ⟨rfl, hcap⟩, hg⟩ := hs
  rw [index_at hu h1 hi]; simp
theorem Own.load {h : Heap} {v : AV} {b : Nat} {xs : List AV} (hs : Own h v b xs) {el : TypeId} (ha : aggA P el = some false) {i : Nat} {x : AV} (hx : xs[i]? = some x) : loadA P h el ⟨b, i⟩ = some x := by
  obtain ⟨c, ⟨rfl, hcap⟩, hg⟩ := hs
  exact load_cell ha hg hx
theorem Own.store {h : Heap} {v : AV} {b : Nat} {xs : List AV} (hs : Own h v b xs) {el : TypeId} (h1 : sizeA P el = some 1) {i : Nat} (hi : i < xs.length) {x : AV} (hc : cellsA x = some [x]) (hok : cellOk x = true) :
    storeA P h el ⟨b, i⟩ x = some (h.set b (.cells (xs.set i x) .own)) ∧ Own (h.set b (.cells (xs.set i x) .own)) v b (xs.set i x) := by
  obtain ⟨c, ⟨rfl, hcap⟩, hg⟩ := hs
  exact ⟨store_cell h1 hc hok hg (by simp) hi, ⟨c, ⟨by simp, by simpa using hcap⟩, Heap.get_set _ _ _⟩⟩

/-- What is appended to, from nothing on, in blocks of the call's own. -/
def Acc (n0 : Nat) (h : Heap) (v : AV) (xs : List AV) : Prop :=
  (xs = [] ∧ ∃ l, v = .slice l 0 (.exact 0) ∧ ∀ x, l = some x → n0 ≤ x.id ∧ x.off = 0 ∧ ∃ cs, h.get x.id = some (.cells cs .own)) ∨ (∃ i, n0 ≤ i ∧ xs ≠ [] ∧ v = .slice (some ⟨i, 0⟩) xs.length (.tip 1) ∧ h.get i = some (.cells xs .own))
theorem Acc.nil {n0 : Nat} {h : Heap} : Acc n0 h (.slice none 0 (.exact 0)) [] := .inl ⟨rfl, none, rfl, fun _ hx => by cases hx⟩
theorem Acc.empty {n0 : Nat} {h : Heap} {i : Nat} {cs : List AV} (hi : n0 ≤ i) (hg : h.get i = some (.cells cs .own)) : Acc n0 h (.slice (some ⟨i, 0⟩) 0 (.exact 0)) [] := .inl ⟨rfl, _, rfl, fun _ hx => by cases hx; exact ⟨hi, rfl, cs, hg⟩⟩
theorem Acc.sl {n0 : Nat} {h : Heap} {v : AV} {xs : List AV} (ha : Acc n0 h v xs) : Sl h v xs := by
  rcases ha with ⟨rfl, l, rfl, hl⟩ | ⟨i, _, _, rfl, hg⟩
  · cases l with
    | none => exact ⟨rfl, rfl⟩
    | some x => exact ⟨⟨rfl, Nat.le_refl _⟩, .inl rfl⟩
  · exact ⟨⟨rfl, rfl⟩, .inr ⟨xs, .own, hg, by simp, by simp⟩⟩
theorem Acc.id {n0 : Nat} {h : Heap} {v : AV} {xs : List AV} (ha : Acc n0 h v xs) {i : Nat} (hi : idOf v = some i) : n0 ≤ i := by
  rcases ha with ⟨rfl, l, rfl, hl⟩ | ⟨j, h1, _, rfl, hg⟩
  · cases l with
    | none => cases hi
    | some x => cases hi; exact (hl x rfl).1
  · cases hi; exact h1
theorem Acc.keep {n0 : Nat} {ex : List Nat} {h0 h : Heap} (hk : Keep ex h0 h) {v : AV} {xs : List AV} (hs : Acc n0 h0 v xs) (hx : ∀ i ∈ ex, i < n0) : Acc n0 h v xs := by
  rcases hs with ⟨h1, l, h2, h3⟩ | ⟨j, h1, h2, h3, hg⟩
  · refine .inl ⟨h1, l, h2, fun x hx' => ?_⟩
    obtain ⟨h4, h5, cs, h6⟩ := h3 x hx'
    exact ⟨h4, h5, cs, hk.get _ _ h6 (fun hm => by have := hx _ hm; omega)⟩
  · exact .inr ⟨j, h1, h2, h3, hk.get _ _ hg (fun hm => by have := hx _ hm; omega)⟩
theorem cellsOk_append : ∀ {xs ys : List AV}, cellsOk (xs ++ ys) = (cellsOk xs && cellsOk ys)
  | [], _ => by simp [cellsOk]
  | x :: xs, ys => by simp [cellsOk, cellsOk_append, Bool.and_assoc]

/-- One more is appended. -/
theorem Acc.push {n0 : Nat} {ex : List Nat} {h0 h : Heap} {v : AV} {xs : List AV} (ha : Acc n0 h v xs) (hk : Keep ex h0 h) (hn : h0.next ≤ n0) (hn' : n0 ≤ h.next) {t el : TypeId} (hu : P.underlying t = some (.slice el)) (h1 : sizeA P el = some 1) (hroom : roomA P el (xs.length + 1) = true)
    {x y : AV} (hy : Sl h y [x]) (hok : cellOk x = true) : ∃ v' h', appendA P h t t v y = some (v', h') ∧ Acc n0 h' v' (xs ++ [x]) ∧ Keep ex h0 h' ∧ h.next ≤ h'.next := by
  have hsrc := hy.src (P := P) hu (by simp [cellsOk, hok])
  rcases ha with ⟨rfl, l, rfl, hl⟩ | ⟨i, hi, hne, rfl, hg⟩
  · simp only [List.length_nil, Nat.zero_add] at hroom
    refine ⟨.slice (some ⟨h.next, 0⟩) 1 (.tip 1), h.alloc (.cells [x] .own), ?_, .inr ⟨h.next, hn', by simp, by simp, Heap.get_alloc _ _⟩, hk.alloc _, by simp [Heap.next_alloc]⟩
    cases l with
    | none => simp only [appendA, hu, h1, hsrc, List.length_singleton, Nat.zero_add, hroom, cond_true]
    | some y =>
      obtain ⟨_, hx0, cs, hgx⟩ := hl y rfl
      have hb : Nat.ble 1 0 = false := rfl
      have hrd : readA h y (0 * 1) = some [] := by
        have : Nat.ble y.off cs.length = true := by rw [ble_iff, hx0]; omega
        simp [readA, hgx, this]
      simp only [appendA, hu, h1, hsrc, List.length_singleton, Nat.zero_add, hroom, cond_true, hb, cond_false, hrd, List.nil_append]
  · refine ⟨.slice (some ⟨h.next, 0⟩) (xs.length + 1) (.tip 1), (h.del i).alloc (.cells (xs ++ [x]) .own), ?_, .inr ⟨h.next, hn', by simp, by simp, Heap.get_alloc _ _⟩, (hk.del (.inr (by omega))).alloc _, by simp [Heap.next_alloc, Heap.next_del]⟩
    have hb : Nat.ble (0 + (xs.length + 1) * 1) xs.length = false := by
      cases hb : Nat.ble (0 + (xs.length + 1) * 1) xs.length with
      | false => rfl
      | true => rw [ble_iff] at hb; omega
    have hb2 : Nat.beq (0 + xs.length * 1) xs.length = true := by simp
    have hx : cellsOk [x] = true := by simp [cellsOk, hok]
    simp only [appendA, hu, h1, hsrc, List.length_singleton, hroom, cond_true, hg, hb, cond_false]
    rw [hb2]
    simp only [hx, Bool.and_true, cond_true, List.drop_zero]
    rfl

theorem room_of {e : TypeId} {i : TypeInfo} (hi : P.info? e = some i) {b n : Nat} (hb : i.bytes = b) (h1 : n * b ≤ 140737488355328) (h2 : n ≤ 9223372036854775807) {z : Value} (hz : i.zero = some z) (hzs : z.cells.size = i.size) (hsz : Nat.ble 1 i.size = true) : roomA P e n = true := by
  subst hb
  unfold roomA
  rw [hi]
  simp only [hz, hzs, hsz, (ble_iff _ _).2 h1, (ble_iff _ _).2 h2, Trie.beq1, decide_true, Bool.and_self]

/-- A list with one element, built. -/
theorem build_one {h : Heap} {t el : TypeId} (hu : P.underlying t = some (.slice el)) {i : TypeInfo} (hi : P.info? el = some i) {z : Value} (hz : i.zero = some z) (hzs : z.cells.size = 1) (hsz : i.size = 1) {za zc : AV} (hza : ofValue z = some za) (hzc : cellsA za = some [zc])
    {x : AV} (hx : cellsA x = some [x]) : buildSliceA P h t 1 [(0, x)] = some (.slice (some ⟨h.next, 0⟩) 1 (.exact 1), h.alloc (.cells [x] .own)) := by
  have hb : (Nat.beq z.cells.size i.size && Nat.ble 1 i.size && Nat.ble (1 * i.size) 16777216) = true := by rw [hzs, hsz]; rfl
  simp only [buildSliceA, hu, hi, hz, hb, cond_true, hza, hzc]
  rw [hsz]
  have hb3 : Nat.ble 1 1 = true := rfl
  simp [rep, fillA, hx, over, hb3]
theorem build_none {h : Heap} {t el : TypeId} (hu : P.underlying t = some (.slice el)) {i : TypeInfo} (hi : P.info? el = some i) {z : Value} (hz : i.zero = some z) (hzs : z.cells.size = i.size) (hsz : Nat.ble 1 i.size = true) {za : AV} {zc : List AV} (hza : ofValue z = some za) (hzc : cellsA za = some zc) :
    buildSliceA P h t 0 [] = some (.slice (some ⟨h.next, 0⟩) 0 (.exact 0), h.alloc (.cells [] .own)) := by
  have hb : (Nat.beq z.cells.size i.size && Nat.ble 1 i.size && Nat.ble (0 * i.size) 16777216) = true := by
    rw [hzs, Trie.beq1, hsz]
    simp
  simp only [buildSliceA, hu, hi, hz, hb, cond_true, hza, hzc]
  simp [rep, fillA]

/-- A copy in new memory: append to an empty list. -/
theorem Sl.clone {h : Heap} {v : AV} {xs : List AV} (hs : Sl h v xs) (hw : Wf h) {t el : TypeId} (hu : P.underlying t = some (.slice el)) (h1 : sizeA P el = some 1) (hroom : xs ≠ [] → roomA P el xs.length = true) (hok : cellsOk xs = true) :
    ∃ v' h' i, appendA P (h.alloc (.cells [] .own)) t t (.slice (some ⟨h.next, 0⟩) 0 (.exact 0)) v = some (v', h') ∧ Own h' v' i xs ∧ h.next ≤ i ∧ Keep [] h h' := by
  have hk0 := Keep.refl (ex := []) hw
  have hk := hk0.alloc (.cells [] .own)
  have hs' : Sl (h.alloc (.cells [] .own)) v xs := hs.keep hk (by simp)
  have hsrc := hs'.src (P := P) hu hok
  cases hn : xs.length with
  | zero =>
    have hxs : xs = [] := List.length_eq_zero_iff.1 hn
    subst hxs
    refine ⟨_, _, h.next, ?_, ⟨.exact 0, ⟨rfl, Nat.le_refl _⟩, Heap.get_alloc _ _⟩, Nat.le_refl _, hk⟩
    simp only [appendA, hu, h1, hsrc, List.length_nil]
  | succ n =>
    rw [hn] at hsrc hroom
    refine ⟨_, _, h.next + 1, ?_, ⟨.tip 1, ⟨by rw [hn], rfl⟩, ?_⟩, by omega, hk.alloc (.cells xs .own)⟩
    · have hb : Nat.ble (0 + (n + 1)) 0 = false := by simp [Nat.ble]
      have hr : roomA P el (0 + (n + 1)) = true := by rw [Nat.zero_add]; exact hroom (by intro h; simp [h] at hn)
      simp only [appendA, hu, h1, hsrc, hr, cond_true, hb, cond_false]
      have hread : readA (h.alloc (.cells [] .own)) ⟨h.next, 0⟩ (0 * 1) = some [] := by
        simp [readA, Heap.get_alloc, Nat.ble]
      simp only [hread, Heap.next_alloc, List.nil_append, Nat.zero_add]
    · have := Heap.get_alloc (h.alloc (.cells [] .own)) (.cells xs .own)
      simpa [Heap.next_alloc] using this

/-- Zeroes. -/
theorem make_zeros {h : Heap} {t el : TypeId} (hu : P.underlying t = some (.slice el)) {i : TypeInfo} (hi : P.info? el = some i) {z : Value} (hz : i.zero = some z) (hzs : z.cells.size = 1) (hsz : i.size = 1) {za zc : AV} (hza : ofValue z = some za) (hzc : cellsA za = some [zc])
    {n : Nat} (hn : i.bytes * n ≤ 281474976710656) (hn' : n ≤ 9223372036854775807) {k k' : IntKind} : makeSliceA P h t (.int k (n : Int)) (.int k' (n : Int)) = some (.slice (some ⟨h.next, 0⟩) n (.exact n), h.alloc (.cells (List.replicate n zc) .own)) := by
  have hc : 0 ≤ (n : Int) ∧ (n : Int) ≤ n ∧ (i.bytes : Int) * n ≤ 281474976710656 ∧ (n : Int) ≤ 9223372036854775807 ∧ z.cells.size = i.size ∧ 0 < i.size := by
    refine ⟨by omega, by omega, by rw [← Int.natCast_mul]; exact Int.ofNat_le.2 hn, by omega, by omega, by omega⟩
  unfold makeSliceA
  rw [hu]
  simp only []
  rw [hi]
  simp only []
  rw [hz]
  simp only []
  rw [if_pos hc]
  simp only [hza, hzc, Int.toNat_natCast, rep_one]

/-- Copying onto a list of the call's own. -/
theorem copy_own {h : Heap} {d s : AV} {b : Nat} {xs ys : List AV} (hd : Own h d b ys) (hs : Sl h s xs) (hx : cellsOk xs = true) {t el : TypeId} (hu : P.underlying t = some (.slice el)) (h1 : sizeA P el = some 1) :
    ∃ h', copyA P h t d s = some (.int .i64 (Nat.min xs.length ys.length : Nat), h') ∧ Own h' d b (xs.take ys.length ++ ys.drop xs.length) ∧ (h' = h ∨ h' = h.set b (.cells (xs.take ys.length ++ ys.drop xs.length) .own)) := by
  obtain ⟨c, ⟨rfl, hcap⟩, hg⟩ := hd
  have hlo : lenOfA s = some xs.length := by obtain ⟨l, c, rfl⟩ := hs.slice; rfl
  have htake : takeA h 1 s (Nat.min xs.length ys.length) = some (xs.take ys.length) := by
    cases hm : Nat.min xs.length ys.length with
    | zero =>
      have h0 : xs.take ys.length = [] := by
        apply List.length_eq_zero_iff.1
        rw [List.length_take]; simpa [Nat.min_comm] using hm
      simp [takeA, h0]
    | succ m =>
      have hm' : min xs.length ys.length = m + 1 := hm
      clear hlo
      match s, hs with
      | .slice none n c, hs => obtain ⟨_, rfl⟩ := hs; simp at hm'
      | .slice (some l) n c, hs =>
        obtain ⟨⟨rfl, _⟩, h0 | ⟨cs, k', hg', hle, hd⟩⟩ := hs
        · rw [h0] at hm'; simp at hm'
        · have hb : Nat.ble (m + 1) xs.length = true := by rw [ble_iff]; omega
          have hb2 : Nat.ble (l.off + (m + 1)) cs.length = true := by rw [ble_iff]; omega
          simp only [takeA, hb, cond_true, readA, hg', Nat.mul_one, hb2]
          have h5 : List.take ys.length xs = List.take (m + 1) (List.drop l.off cs) := by
            conv => lhs; rw [← hd]
            rw [List.take_take, Nat.min_comm, hm']
          rw [h5]
  have hlen : (xs.take ys.length).length = min xs.length ys.length := by simp [Nat.min_comm]
  cases hc : xs.take ys.length with
  | nil =>
    have hl2 : (List.nil ++ ys.drop xs.length).length = ys.length := by
      rw [hc] at hlen
      simp only [List.length_nil] at hlen
      have : ys.length = 0 ∨ xs.length = 0 := by omega
      rcases this with h0 | h0 <;> simp [h0]
    refine ⟨h, ?_, ⟨c, ⟨by rw [hl2], by rw [hl2]; exact hcap⟩, ?_⟩, .inl rfl⟩
    · simp only [copyA, hu, h1, hlo, htake, hc]
    · rw [hc] at hlen
      simp only [List.length_nil] at hlen
      have : ys.length = 0 ∨ xs.length = 0 := by omega
      rcases this with h0 | h0
      · have hy : ys = [] := List.length_eq_zero_iff.1 h0
        subst hy; simpa using hg
      · simpa [h0] using hg
  | cons a as =>
    have hne : 1 ≤ min xs.length ys.length := by rw [← hlen, hc]; simp
    have hb : Nat.ble 1 ys.length = true := by rw [ble_iff]; omega
    have hok : cellsOk (a :: as) = true := by
      rw [← hc]
      have := List.take_append_drop ys.length xs
      rw [← this, cellsOk_append, Bool.and_eq_true] at hx
      exact hx.1
    have hb2 : Nat.ble (0 + (a :: as).length) ys.length = true := by rw [ble_iff, ← hc, hlen]; omega
    have hover : over ys 0 (a :: as) = (a :: as) ++ ys.drop xs.length := by
      rw [← hc]
      simp only [over, List.take_zero, List.nil_append, Nat.zero_add, hlen]
      congr 1
      by_cases hle : xs.length ≤ ys.length
      · rw [Nat.min_eq_left hle]
      · rw [Nat.min_eq_right (by omega), List.drop_length, List.drop_eq_nil_of_le (by omega)]
    have hl2 : ((a :: as) ++ ys.drop xs.length).length = ys.length := by rw [← hc]; simp; omega
    refine ⟨h.set b (.cells ((a :: as) ++ ys.drop xs.length) .own), ?_, ⟨c, ⟨by rw [hl2], by rw [hl2]; exact hcap⟩, Heap.get_set _ _ _⟩, .inr rfl⟩
    · simp only [copyA, hu, h1, hlo, htake, hc, hb, cond_true, writeA, hg, hok, hb2, Bool.and_true, hover]

/-- What is behind the first. -/
theorem Sl.tail {h : Heap} {v x : AV} {xs : List AV} (hs : Sl h v (x :: xs)) {t el : TypeId} (hu : P.underlying t = some (.slice el)) (h1 : sizeA P el = some 1) {k : IntKind} :
    ∃ v', sliceA P t v (some (.int k 1)) none none = some v' ∧ Sl h v' xs ∧ (∀ i, idOf v' = some i → idOf v = some i) := by
  match v, hs with
  | .slice none n c, hs => obtain ⟨_, hh⟩ := hs; cases hh
  | .slice (some l) n c, hs =>
    obtain ⟨⟨rfl, hcap⟩, h0 | ⟨cs, k', hg, hle, hd⟩⟩ := hs
    · simp at h0
    · simp only [List.length_cons] at hcap hle hd
      have hd' : (cs.drop (l.off + 1)).take xs.length = xs := by
        have h2 : cs.drop l.off = (cs.drop l.off).headD .unk :: cs.drop (l.off + 1) := by
          rw [List.drop_eq_getElem_cons (by omega)]; rfl
        rw [h2, List.take_succ_cons] at hd
        exact (List.cons.inj hd).2
      have b1 : boundA none (xs.length + 1) (c.sure (xs.length + 1)) = some (xs.length + 1) := rfl
      have b2 : boundA (some (.int k 1)) 0 (xs.length + 1) = some 1 := by
        simp only [boundA]
        split
        · rfl
        · omega
      simp only [sliceA, hu, sliceOf, h1, List.length_cons, b1, b2]
      cases c with
      | exact m =>
        simp only [capOk] at hcap
        refine ⟨_, rfl, ⟨⟨by omega, by simp only [capOk]; omega⟩, ?_⟩, ?_⟩
        · by_cases hm : m = 1
          · left; omega
          · right
            have hb : Nat.beq m 1 = false := by rw [Trie.beq1]; simp [hm]
            simp only [hb, cond_false, locAdd, Nat.mul_one, Nat.add_sub_cancel]
            exact ⟨cs, k', hg, by omega, hd'⟩
        · intro i hi
          by_cases hm : m = 1
          · simp only [hm, Trie.beq1, decide_true, cond_true] at hi
            exact hi
          · have hb : Nat.beq m 1 = false := by rw [Trie.beq1]; simp [hm]
            simp only [hb, cond_false, locAdd] at hi
            exact hi
      | tip e =>
        simp only [capOk] at hcap
        subst hcap
        have hb0 : Nat.beq 1 0 = false := rfl
        have hb1 : Nat.beq 1 1 = true := rfl
        simp only [hb1, cond_true, hb0, cond_false]
        by_cases hx : 1 < xs.length + 1
        · rw [(blt_iff _ _).2 hx]
          simp only [cond_true, locAdd, Nat.mul_one, Nat.add_sub_cancel]
          exact ⟨_, rfl, ⟨⟨rfl, rfl⟩, .inr ⟨cs, k', hg, by simp only []; omega, hd'⟩⟩, fun i hi => hi⟩
        · have hb : Nat.blt 1 (xs.length + 1) = false := by
            cases hb : Nat.blt 1 (xs.length + 1) with
            | false => rfl
            | true => exact absurd ((blt_iff _ _).1 hb) hx
          rw [hb]
          simp only [cond_false]
          exact ⟨_, rfl, ⟨⟨by omega, trivial⟩, .inl rfl⟩, fun i hi => hi⟩
      | dim =>
        by_cases hx : 1 < xs.length + 1
        · rw [(blt_iff _ _).2 hx]
          simp only [cond_true, locAdd, Nat.mul_one, Nat.add_sub_cancel]
          exact ⟨_, rfl, ⟨⟨rfl, trivial⟩, .inr ⟨cs, k', hg, by simp only []; omega, hd'⟩⟩, fun i hi => hi⟩
        · have hb : Nat.blt 1 (xs.length + 1) = false := by
            cases hb : Nat.blt 1 (xs.length + 1) with
            | false => rfl
            | true => exact absurd ((blt_iff _ _).1 hb) hx
          rw [hb]
          simp only [cond_false]
          exact ⟨_, rfl, ⟨⟨by omega, trivial⟩, .inl rfl⟩, fun i hi => hi⟩
end
attribute [irreducible] WP W
end Go.Am
