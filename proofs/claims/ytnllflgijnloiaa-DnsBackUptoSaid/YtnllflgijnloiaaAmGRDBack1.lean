/- An abstract machine for one goroutine: its values, its memory, and how both stand to the model's world. -/
import Derived.Below
import Derived.Orders
import Derived.Defers
import Derived.Laws.Cells
import Derived.Laws.CopyRow
import Derived.Laws.AppendOwn
namespace Go.Am
open Go.RowKit

/-! ### Values -/

structure Loc where
  id : Nat
  off : Nat

/-- What is known of a slice's capacity: the number; 'it reaches to the end of its block, an element takes e cells'; nothing. -/
inductive Cap where
  | exact (n : Nat)
  | tip (e : Nat)
  | dim

inductive AV where
  | unk
  | bool (b : Bool)
  | int (k : IntKind) (n : Int)
  | str (s : List UInt8)
  | ptr (l : Option Loc)
  | slice (l : Option Loc) (len : Nat) (cap : Cap)
  | map (r : Option Nat)
  | chan (r : Option Nat)
  | func (fn : Fn) (first captured : List AV)
  | nilFunc
  | iface (t : TypeId) (v : AV)
  | nilIface
  | agg (cs : List AV)
  | tuple (vs : List AV)

instance : Inhabited AV := ⟨.unk⟩

/-- Where an abstract object lies: the block, the first cell, how many cells there are from it on to the block's end. -/
structure Emb where
  blk : Nat
  off : Nat
  tot : Nat

def CapOk (e : Emb) (off cap : Nat) : Cap → Prop
  | .exact n => cap = n
  | .tip s => 0 < s ∧ off + cap * s = e.tot
  | .dim => True

mutual
/-- The model's value that an abstract value stands for. -/
def V (φ : List Emb) : AV → Value → Prop
  | .unk, _ => True
  | .bool b, v => v = .bool b
  | .int k n, v => v = .int k n
  | .str s, v => v = .string ⟨s.toArray⟩
  | .ptr none, v => v = .pointer none
  | .ptr (some l), v => ∃ e, φ[l.id]? = some e ∧ v = .pointer (some ⟨e.blk, e.off + l.off, none⟩)
  | .slice none n c, v => n = 0 ∧ v = .slice none 0 0 ∧ (match c with | .exact k => k = 0 | .tip _ => False | .dim => True)
  | .slice (some l) n c, v => ∃ e cap a, φ[l.id]? = some e ∧ v = .slice (some a) n cap ∧ n ≤ cap ∧ CapOk e l.off cap c ∧ (a = ⟨e.blk, e.off + l.off, none⟩ ∨ (n = 0 ∧ c = .dim))
  | .map none, v => v = .map none
  | .map (some i), v => ∃ e, φ[i]? = some e ∧ v = .map (some e.blk)
  | .chan none, v => v = .chan none
  | .chan (some i), v => ∃ e, φ[i]? = some e ∧ v = .chan (some e.blk)
  | .func fn a b, v => ∃ x y, v = .func fn x y ∧ Vs φ a x.toList ∧ Vs φ b y.toList
  | .nilFunc, v => v = .nilFunc
  | .iface t x, v => ∃ y, v = .iface t y ∧ V φ x y
  | .nilIface, v => v = .nilIface
  | .agg cs, v => ∃ x, v = .agg x ∧ Vs φ cs x.toList
  | .tuple cs, v => ∃ x, v = .tuple x ∧ Vs φ cs x.toList
def Vs (φ : List Emb) : List AV → List Value → Prop
  | [], l => l = []
  | a :: as, l => ∃ y ys, l = y :: ys ∧ V φ a y ∧ Vs φ as ys
end

/-- One list of places goes on from another. -/
def Up (φ φ' : List Emb) : Prop := ∃ ψ, φ' = φ ++ ψ
theorem Up.refl (φ : List Emb) : Up φ φ := ⟨[], by simp⟩
theorem Up.trans {a b c : List Emb} (h : Up a b) (h' : Up b c) : Up a c := by
  obtain ⟨x, rfl⟩ := h
  obtain ⟨y, rfl⟩ := h'
  exact ⟨x ++ y, by simp⟩
theorem Up.get {φ φ' : List Emb} (h : Up φ φ') {i : Nat} {e : Emb} (he : φ[i]? = some e) : φ'[i]? = some e := by
  obtain ⟨x, rfl⟩ := h
  rw [List.getElem?_append_left (List.getElem?_eq_some_iff.1 he).1, he]
theorem Up.snoc (φ : List Emb) (e : Emb) : Up φ (φ ++ [e]) := ⟨[e], rfl⟩

mutual
theorem V.up {φ φ' : List Emb} (h : Up φ φ') : ∀ (a : AV) (v : Value), V φ a v → V φ' a v
  | .unk, _, _ => by simp [V]
  | .bool _, _, hv => by simpa [V] using hv
  | .int _ _, _, hv => by simpa [V] using hv
  | .str _, _, hv => by simpa [V] using hv
  | .ptr none, _, hv => by simpa [V] using hv
  | .ptr (some l), _, hv => by
    simp only [V] at hv ⊢
    obtain ⟨e, he, hv⟩ := hv
    exact ⟨e, h.get he, hv⟩
  | .slice none _ c, _, hv => by cases c <;> simp [V] at hv ⊢ <;> exact hv
  | .slice (some l) n c, _, hv => by
    simp only [V] at hv ⊢
    obtain ⟨e, cap, a, he, hv⟩ := hv
    exact ⟨e, cap, a, h.get he, hv⟩
  | .map none, _, hv => by simpa [V] using hv
  | .map (some i), _, hv => by
    simp only [V] at hv ⊢
    obtain ⟨e, he, hv⟩ := hv
    exact ⟨e, h.get he, hv⟩
  | .chan none, _, hv => by simpa [V] using hv
  | .chan (some i), _, hv => by
    simp only [V] at hv ⊢
    obtain ⟨e, he, hv⟩ := hv
    exact ⟨e, h.get he, hv⟩
  | .func fn a b, _, hv => by
    simp only [V] at hv ⊢
    obtain ⟨x, y, he, ha, hb⟩ := hv
    exact ⟨x, y, he, Vs.up h a _ ha, Vs.up h b _ hb⟩
  | .nilFunc, _, hv => by simpa [V] using hv
  | .iface t x, _, hv => by
    simp only [V] at hv ⊢
    obtain ⟨y, he, hv⟩ := hv
    exact ⟨y, he, V.up h x _ hv⟩
  | .nilIface, _, hv => by simpa [V] using hv
  | .agg cs, _, hv => by
    simp only [V] at hv ⊢
    obtain ⟨x, he, hv⟩ := hv
    exact ⟨x, he, Vs.up h cs _ hv⟩
  | .tuple cs, _, hv => by
    simp only [V] at hv ⊢
    obtain ⟨x, he, hv⟩ := hv
    exact ⟨x, he, Vs.up h cs _ hv⟩
theorem Vs.up {φ φ' : List Emb} (h : Up φ φ') : ∀ (as : List AV) (vs : List Value), Vs φ as vs → Vs φ' as vs
  | [], _, hv => by simpa [Vs] using hv
  | a :: as, _, hv => by
    simp only [Vs] at hv ⊢
    obtain ⟨y, ys, he, h1, h2⟩ := hv
    exact ⟨y, ys, he, V.up h a _ h1, Vs.up h as _ h2⟩
end

theorem Vs_nil {φ : List Emb} {l : List Value} : Vs φ [] l ↔ l = [] := by simp [Vs]
theorem Vs_cons {φ : List Emb} {a : AV} {as : List AV} {v : Value} {vs : List Value} : Vs φ (a :: as) (v :: vs) ↔ V φ a v ∧ Vs φ as vs := by
  simp only [Vs, List.cons.injEq]
  constructor
  · rintro ⟨y, ys, ⟨rfl, rfl⟩, h⟩; exact h
  · intro h; exact ⟨v, vs, ⟨rfl, rfl⟩, h⟩
theorem Vs.length {φ : List Emb} : ∀ {as : List AV} {vs : List Value}, Vs φ as vs → vs.length = as.length
  | [], _, h => by simp [Vs] at h; simp [h]
  | a :: as, _, h => by
    simp only [Vs] at h
    obtain ⟨y, ys, rfl, _, h⟩ := h
    simp [h.length]
theorem Vs.get {φ : List Emb} : ∀ {as : List AV} {vs : List Value}, Vs φ as vs → ∀ (i : Nat) (a : AV), as[i]? = some a → ∃ v, vs[i]? = some v ∧ V φ a v
  | [], _, _ => by simp
  | b :: as, _, h => by
    simp only [Vs] at h
    obtain ⟨y, ys, rfl, h1, h⟩ := h
    intro i a ha
    cases i with
    | zero => simp at ha; subst ha; exact ⟨y, by simp, h1⟩
    | succ i => simp at ha; obtain ⟨v, hv, hh⟩ := h.get i a ha; exact ⟨v, by simpa using hv, hh⟩
theorem Vs.of_get {φ : List Emb} : ∀ {as : List AV} {vs : List Value}, vs.length = as.length → (∀ (i : Nat) (a : AV) (v : Value), as[i]? = some a → vs[i]? = some v → V φ a v) → Vs φ as vs
  | [], vs, hl, _ => by simp [Vs]; exact List.eq_nil_of_length_eq_zero hl
  | a :: as, vs, hl, h => by
    cases vs with
    | nil => simp at hl
    | cons v vs =>
      rw [Vs_cons]
      exact ⟨h 0 a v (by simp) (by simp), Vs.of_get (by simpa using hl) fun i b u hb hu => h (i + 1) b u (by simpa using hb) (by simpa using hu)⟩
theorem Vs.append {φ : List Emb} {as bs : List AV} {us vs : List Value} (h : Vs φ as us) (h' : Vs φ bs vs) : Vs φ (as ++ bs) (us ++ vs) := by
  induction as generalizing us with
  | nil => simp [Vs] at h; subst h; simpa using h'
  | cons a as ih =>
    simp only [Vs] at h
    obtain ⟨y, ys, rfl, h1, h⟩ := h
    simp only [List.cons_append, Vs_cons]
    exact ⟨h1, ih h⟩
theorem Vs.take {φ : List Emb} {as : List AV} {vs : List Value} (h : Vs φ as vs) (n : Nat) : Vs φ (as.take n) (vs.take n) := by
  refine Vs.of_get (by simp [h.length]) fun i a v ha hv => ?_
  rw [List.getElem?_take] at ha hv
  split at ha
  · obtain ⟨u, hu, hh⟩ := h.get i a ha
    rename_i hlt
    simp [hlt] at hv
    rw [hu] at hv
    cases hv
    exact hh
  · cases ha
theorem Vs.drop {φ : List Emb} {as : List AV} {vs : List Value} (h : Vs φ as vs) (n : Nat) : Vs φ (as.drop n) (vs.drop n) := by
  refine Vs.of_get (by simp [h.length]) fun i a v ha hv => ?_
  rw [List.getElem?_drop] at ha hv
  obtain ⟨u, hu, hh⟩ := h.get _ a ha
  rw [hu] at hv
  cases hv
  exact hh
theorem Vs.set {φ : List Emb} {as : List AV} {vs : List Value} (h : Vs φ as vs) (n : Nat) {a : AV} {v : Value} (hv : V φ a v) : Vs φ (as.set n a) (vs.set n v) := by
  refine Vs.of_get (by simp [h.length]) fun i b u hb hu => ?_
  rw [List.getElem?_set] at hb hu
  by_cases hin : n = i
  · subst hin
    simp only [if_true] at hb hu
    split at hb
    · rename_i hlt
      simp [h.length, hlt] at hu
      cases hb
      subst hu
      exact hv
    · cases hb
  · simp only [hin, if_false] at hb hu
    obtain ⟨x, hx, hh⟩ := h.get _ b hb
    rw [hx] at hu
    cases hu
    exact hh

/-! ### A trie: numbers to things -/

inductive Trie (α : Type) where
  | leaf
  | node (v : Option α) (l r : Trie α)

namespace Trie
variable {α : Type}
def get : Trie α → Nat → Option α
  | .leaf, _ => none
  | .node v l r, n => bif Nat.beq n 0 then v else bif Nat.beq (n % 2) 1 then l.get (n / 2) else r.get (n / 2 - 1)
def put : Nat → Trie α → Nat → Option α → Trie α
  | 0, t, _, _ => t
  | f + 1, .leaf, n, x => bif Nat.beq n 0 then .node x .leaf .leaf else bif Nat.beq (n % 2) 1 then .node none (put f .leaf (n / 2) x) .leaf else .node none .leaf (put f .leaf (n / 2 - 1) x)
  | f + 1, .node v l r, n, x => bif Nat.beq n 0 then .node x l r else bif Nat.beq (n % 2) 1 then .node v (put f l (n / 2) x) r else .node v l (put f r (n / 2 - 1) x)

theorem beq1 (n m : Nat) : Nat.beq n m = decide (n = m) := by
  cases h : Nat.beq n m with
  | true => simp [Nat.eq_of_beq_eq_true h]
  | false => simp [Nat.ne_of_beq_eq_false h]

theorem get_leaf (n : Nat) : (Trie.leaf : Trie α).get n = none := rfl
theorem get_put_same : ∀ (f : Nat) (t : Trie α) (n : Nat) (x : Option α), n < f → (put f t n x).get n = x
  | 0, _, _, _, h => by omega
  | f + 1, .leaf, n, x, h => by
    unfold put
    simp only [beq1]
    by_cases h0 : n = 0
    · simp [h0, get, beq1]
    · by_cases h1 : n % 2 = 1
      · simp [h0, h1, get, beq1, get_put_same f _ (n / 2) x (by omega)]
      · simp [h0, h1, get, beq1, get_put_same f _ (n / 2 - 1) x (by omega)]
  | f + 1, .node v l r, n, x, h => by
    unfold put
    simp only [beq1]
    by_cases h0 : n = 0
    · simp [h0, get, beq1]
    · by_cases h1 : n % 2 = 1
      · simp [h0, h1, get, beq1, get_put_same f _ (n / 2) x (by omega)]
      · simp [h0, h1, get, beq1, get_put_same f _ (n / 2 - 1) x (by omega)]
theorem get_put_ne : ∀ (f : Nat) (t : Trie α) (n m : Nat) (x : Option α), n ≠ m → (put f t n x).get m = t.get m
  | 0, _, _, _, _, _ => rfl
  | f + 1, .leaf, n, m, x, h => by
    unfold put
    simp only [beq1]
    by_cases h0 : n = 0
    · subst h0
      simp [get, beq1, Ne.symm h]
    · by_cases h1 : n % 2 = 1
      · by_cases m0 : m = 0
        · simp [h0, h1, get, beq1, m0]
        · by_cases m1 : m % 2 = 1
          · simp [h0, h1, get, beq1, m0, m1, get_put_ne f .leaf (n / 2) (m / 2) x (by omega)]
          · simp [h0, h1, get, beq1, m0, m1]
      · by_cases m0 : m = 0
        · simp [h0, h1, get, beq1, m0]
        · by_cases m1 : m % 2 = 1
          · simp [h0, h1, get, beq1, m0, m1]
          · simp [h0, h1, get, beq1, m0, m1, get_put_ne f .leaf (n / 2 - 1) (m / 2 - 1) x (by omega)]
  | f + 1, .node v l r, n, m, x, h => by
    unfold put
    simp only [beq1]
    by_cases h0 : n = 0
    · subst h0
      simp [get, beq1, Ne.symm h]
    · by_cases h1 : n % 2 = 1
      · by_cases m0 : m = 0
        · simp [h0, h1, get, beq1, m0]
        · by_cases m1 : m % 2 = 1
          · simp [h0, h1, get, beq1, m0, m1, get_put_ne f l (n / 2) (m / 2) x (by omega)]
          · simp [h0, h1, get, beq1, m0, m1]
      · by_cases m0 : m = 0
        · simp [h0, h1, get, beq1, m0]
        · by_cases m1 : m % 2 = 1
          · simp [h0, h1, get, beq1, m0, m1]
          · simp [h0, h1, get, beq1, m0, m1, get_put_ne f r (n / 2 - 1) (m / 2 - 1) x (by omega)]
end Trie

/-! ### Memory -/

/-- own: the call's own, to be written; str: its own, a string's letters; ro: what came in, never written. -/
inductive Kind where
  | own | str | ro
  deriving DecidableEq

inductive Obj where
  | cells (cs : List AV) (k : Kind)
  | map (es : List (AV × AV × Nat)) (clock : Nat)
  | chan (cap : Nat) (buf : List AV) (closed : Bool)

def Obj.isOwn : Obj → Bool
  | .cells _ .ro => false
  | _ => true

structure Heap where
  next : Nat
  tr : Trie Obj

namespace Heap
def get (h : Heap) (i : Nat) : Option Obj := h.tr.get i
def put (h : Heap) (i : Nat) (o : Option Obj) : Heap := { h with tr := Trie.put (i + 1) h.tr i o }
def set (h : Heap) (i : Nat) (o : Obj) : Heap := h.put i (some o)
def del (h : Heap) (i : Nat) : Heap := h.put i none
def alloc (h : Heap) (o : Obj) : Heap := { next := h.next + 1, tr := Trie.put (h.next + 1) h.tr h.next (some o) }
theorem get_set (h : Heap) (i : Nat) (o : Obj) : (h.set i o).get i = some o := Trie.get_put_same _ _ _ _ (by omega)
theorem get_set_ne (h : Heap) {i j : Nat} (o : Obj) (hn : i ≠ j) : (h.set i o).get j = h.get j := Trie.get_put_ne _ _ _ _ _ hn
theorem get_del (h : Heap) (i : Nat) : (h.del i).get i = none := Trie.get_put_same _ _ _ _ (by omega)
theorem get_del_ne (h : Heap) {i j : Nat} (hn : i ≠ j) : (h.del i).get j = h.get j := Trie.get_put_ne _ _ _ _ _ hn
theorem get_alloc (h : Heap) (o : Obj) : (h.alloc o).get h.next = some o := Trie.get_put_same _ _ _ _ (by omega)
theorem get_alloc_ne (h : Heap) {j : Nat} (o : Obj) (hn : h.next ≠ j) : (h.alloc o).get j = h.get j := Trie.get_put_ne _ _ _ _ _ hn
theorem next_set (h : Heap) (i : Nat) (o : Obj) : (h.set i o).next = h.next := rfl
theorem next_del (h : Heap) (i : Nat) : (h.del i).next = h.next := rfl
theorem next_alloc (h : Heap) (o : Obj) : (h.alloc o).next = h.next + 1 := rfl
end Heap

/-! ### How abstract memory stands to the world -/

def entryOf (φ : List Emb) (x : AV × AV × Nat) (y : MapEntry) : Prop := V φ x.1 y.key ∧ V φ x.2.1 y.val ∧ x.2.2 = y.born
def Entries (φ : List Emb) : List (AV × AV × Nat) → List MapEntry → Prop
  | [], l => l = []
  | x :: xs, l => ∃ y ys, l = y :: ys ∧ entryOf φ x y ∧ Entries φ xs ys

/-- No cell of a block of n cells is frozen. -/
def Thawed (fr : Nat × Nat) (n : Nat) : Prop := ∀ k, k < n → ¬ (fr.1 ≤ k ∧ k < fr.2)
theorem Thawed.zero (n : Nat) : Thawed (0, 0) n := fun k _ h => by simp at h

def O (φ : List Emb) (e : Emb) (w : World) : Obj → Prop
  | .cells cs k => ∃ C t fr, w.heap[e.blk]? = some (.cells C t fr) ∧ e.off + e.tot = C.size ∧ cs.length ≤ e.tot ∧
      (k = .own → fr = (0, 0)) ∧ (k = .str → Thawed fr C.size) ∧ Vs φ cs ((C.toList.drop e.off).take cs.length)
  | .map es clock => ∃ ES, w.heap[e.blk]? = some (.map ES clock) ∧ Entries φ es ES.toList
  | .chan cap buf closed => ∃ B s r, w.heap[e.blk]? = some (.chan cap B closed s r false) ∧ Vs φ buf B.toList

structure R (P : Program) (φ : List Emb) (h : Heap) (w0 w : World) : Prop where
  below : Below w0.heap.size w0 w
  len : φ.length = h.next
  objs : ∀ i o, h.get i = some o → ∃ e, φ[i]? = some e ∧ O φ e w o ∧ (o.isOwn = true → w0.heap.size ≤ e.blk)
  sep : ∀ i j oi oj ei ej, i ≠ j → h.get i = some oi → h.get j = some oj → φ[i]? = some ei → φ[j]? = some ej → oi.isOwn = true → ei.blk ≠ ej.blk
  glob : ∀ g, g < P.globals.size → ∃ n, φ[g]? = some ⟨g, 0, n⟩

theorem Entries.up {φ φ' : List Emb} (h : Up φ φ') : ∀ (es : List (AV × AV × Nat)) (l : List MapEntry), Entries φ es l → Entries φ' es l
  | [], _, he => by simpa [Entries] using he
  | x :: xs, _, he => by
    simp only [Entries] at he ⊢
    obtain ⟨y, ys, rfl, ⟨h1, h2, h3⟩, he⟩ := he
    exact ⟨y, ys, rfl, ⟨V.up h _ _ h1, V.up h _ _ h2, h3⟩, Entries.up h _ _ he⟩
theorem O.up {φ φ' : List Emb} (h : Up φ φ') {e : Emb} {w : World} {o : Obj} (ho : O φ e w o) : O φ' e w o := by
  cases o with
  | cells cs k =>
    obtain ⟨C, t, fr, h1, h2, h3, h4, h5, h6⟩ := ho
    exact ⟨C, t, fr, h1, h2, h3, h4, h5, Vs.up h _ _ h6⟩
  | map es c =>
    obtain ⟨ES, h1, h2⟩ := ho
    exact ⟨ES, h1, Entries.up h _ _ h2⟩
  | chan c b cl =>
    obtain ⟨B, s, r, h1, h2⟩ := ho
    exact ⟨B, s, r, h1, Vs.up h _ _ h2⟩
theorem O.same {φ : List Emb} {e : Emb} {w w' : World} {o : Obj} (hb : w'.heap[e.blk]? = w.heap[e.blk]?) (ho : O φ e w o) : O φ e w' o := by
  cases o with
  | cells cs k =>
    obtain ⟨C, t, fr, h1, h⟩ := ho
    exact ⟨C, t, fr, hb.trans h1, h⟩
  | map es c =>
    obtain ⟨ES, h1, h2⟩ := ho
    exact ⟨ES, hb.trans h1, h2⟩
  | chan c b cl =>
    obtain ⟨B, s, r, h1, h2⟩ := ho
    exact ⟨B, s, r, hb.trans h1, h2⟩
theorem O.lt {φ : List Emb} {e : Emb} {w : World} {o : Obj} (ho : O φ e w o) : e.blk < w.heap.size := by
  cases o with
  | cells cs k => obtain ⟨C, t, fr, h1, h⟩ := ho; exact (Array.getElem?_eq_some_iff.1 h1).1
  | map es c => obtain ⟨ES, h1, h⟩ := ho; exact (Array.getElem?_eq_some_iff.1 h1).1
  | chan c b cl => obtain ⟨B, s, r, h1, h⟩ := ho; exact (Array.getElem?_eq_some_iff.1 h1).1

/-- The world draws; nothing else. -/
theorem R.drew {P : Program} {φ : List Emb} {h : Heap} {w0 w w' : World} (hR : R P φ h w0 w) (hh : w'.heap = w.heap) (hos : w'.os = w.os) (ht : w'.tape = w.tape) (hout : w'.output = w.output) : R P φ h w0 w' where
  below := hR.below.trans ⟨hos, ht, hout, by simp [hh], fun k _ => by rw [hh]⟩
  len := hR.len
  objs := fun i o hi => by
    obtain ⟨e, he, ho, hw⟩ := hR.objs i o hi
    exact ⟨e, he, O.same (by rw [hh]) ho, hw⟩
  sep := hR.sep
  glob := hR.glob

theorem R.lt {P : Program} {φ : List Emb} {h : Heap} {w0 w : World} (hR : R P φ h w0 w) {i : Nat} {o : Obj} (hi : h.get i = some o) : i < h.next := by
  obtain ⟨e, he, _⟩ := hR.objs i o hi
  rw [← hR.len]
  exact (List.getElem?_eq_some_iff.1 he).1

/-- A new object, in a block that no other object lies in. -/
theorem R.allocAt {P : Program} {φ : List Emb} {h : Heap} {w0 w w' : World} (hR : R P φ h w0 w) (o : Obj) (e' : Emb)
    (hfree : ∀ j oj ej, h.get j = some oj → φ[j]? = some ej → ej.blk ≠ e'.blk) (hbase : w0.heap.size ≤ e'.blk) (hb : ∀ k, k ≠ e'.blk → k < w.heap.size → w'.heap[k]? = w.heap[k]?) (hsz : w.heap.size ≤ w'.heap.size)
    (hos : w'.os = w.os) (ht : w'.tape = w.tape) (hout : w'.output = w.output)
    (ho : O (φ ++ [e']) e' w' o) : R P (φ ++ [e']) (h.alloc o) w0 w' where
  below := hR.below.trans ⟨hos, ht, hout, hsz, fun k hk => hb k (by omega) (by have := hR.below.size; omega)⟩
  len := by simp [hR.len, Heap.next_alloc]
  objs := fun i o' hi => by
    by_cases hn : h.next = i
    · subst hn
      rw [Heap.get_alloc] at hi
      cases hi
      refine ⟨e', ?_, ho, fun _ => hbase⟩
      rw [← hR.len]
      simp
    · rw [Heap.get_alloc_ne _ _ hn] at hi
      obtain ⟨e, he, hoo, hw⟩ := hR.objs i o' hi
      exact ⟨e, Up.get (Up.snoc _ _) he, O.same (hb _ (hfree i o' e hi he) hoo.lt) (O.up (Up.snoc _ _) hoo), hw⟩
  sep := fun i j oi oj ei ej hij hi hj hei hej hown => by
    have key : ∀ k o' e, h.next ≠ k → (h.alloc o).get k = some o' → (φ ++ [e'])[k]? = some e → h.get k = some o' ∧ φ[k]? = some e := by
      intro k o' e hk h1 h2
      rw [Heap.get_alloc_ne _ _ hk] at h1
      obtain ⟨e'', he', hoo, _⟩ := hR.objs k o' h1
      have := Up.get (Up.snoc φ e') he'
      rw [this] at h2
      cases h2
      exact ⟨h1, he'⟩
    have last : ∀ k e, h.next = k → (φ ++ [e'])[k]? = some e → e.blk = e'.blk := by
      intro k e hk h2
      subst hk
      rw [← hR.len] at h2
      simp at h2
      rw [← h2]
    by_cases hin : h.next = i
    · have h1 := last i ei hin hei
      obtain ⟨a1, a2⟩ := key j oj ej (by omega) hj hej
      rw [h1]
      exact Ne.symm (hfree j oj ej a1 a2)
    · obtain ⟨a1, a2⟩ := key i oi ei hin hi hei
      by_cases hjn : h.next = j
      · have h1 := last j ej hjn hej
        rw [h1]
        exact hfree i oi ei a1 a2
      · obtain ⟨b1, b2⟩ := key j oj ej hjn hj hej
        exact hR.sep i j oi oj ei ej hij a1 b1 a2 b2 hown
  glob := fun g hg => by
    obtain ⟨m, hm⟩ := hR.glob g hg
    exact ⟨m, Up.get (Up.snoc _ _) hm⟩

/-- A new object in a new block. -/
theorem R.alloc {P : Program} {φ : List Emb} {h : Heap} {w0 w w' : World} (hR : R P φ h w0 w) (o : Obj) (x : Go.Obj) (n : Nat)
    (hh : w'.heap = w.heap.push x) (hos : w'.os = w.os) (ht : w'.tape = w.tape) (hout : w'.output = w.output)
    (ho : O (φ ++ [⟨w.heap.size, 0, n⟩]) ⟨w.heap.size, 0, n⟩ w' o) : R P (φ ++ [⟨w.heap.size, 0, n⟩]) (h.alloc o) w0 w' :=
  R.allocAt hR o _ (fun j oj ej hj hej => by
      obtain ⟨e, he, hoo, _⟩ := hR.objs j oj hj
      rw [he] at hej
      cases hej
      exact Nat.ne_of_lt hoo.lt)
    hR.below.size (fun k hk hlt => by rw [hh, Array.getElem?_push, if_neg (by omega)]) (by simp [hh]) hos ht hout ho

/-- An own object is changed, in its own block. -/
theorem R.set {P : Program} {φ : List Emb} {h : Heap} {w0 w w' : World} (hR : R P φ h w0 w) {i : Nat} {o o' : Obj} {e : Emb} (hi : h.get i = some o) (hown : o.isOwn = true) (he : φ[i]? = some e)
    (hb : ∀ k, k ≠ e.blk → w'.heap[k]? = w.heap[k]?) (hsz : w'.heap.size = w.heap.size) (hos : w'.os = w.os) (ht : w'.tape = w.tape) (hout : w'.output = w.output)
    (ho : O φ e w' o') : R P φ (h.set i o') w0 w' where
  below := hR.below.trans ⟨hos, ht, hout, by omega, fun k hk => by
    refine hb k ?_
    obtain ⟨e', he', _, hw⟩ := hR.objs i o hi
    rw [he] at he'
    cases he'
    have := hw hown
    omega⟩
  len := by simp [hR.len, Heap.next_set]
  objs := fun j oj hj => by
    by_cases hij : i = j
    · subst hij
      rw [Heap.get_set] at hj
      cases hj
      obtain ⟨e', he', _, hw⟩ := hR.objs i o hi
      rw [he] at he'
      cases he'
      exact ⟨e, he, ho, fun _ => hw hown⟩
    · rw [Heap.get_set_ne _ _ hij] at hj
      obtain ⟨ej, hej, hoj, hwj⟩ := hR.objs j oj hj
      exact ⟨ej, hej, O.same (hb _ (Ne.symm (hR.sep i j o oj e ej hij hi hj he hej hown))) hoj, hwj⟩
  sep := fun a b oa ob ea eb hab ha hb' hea heb hoa => by
    have key : ∀ k ok, (h.set i o').get k = some ok → ∃ ok', h.get k = some ok' ∧ (k ≠ i → ok' = ok) ∧ (k = i → ok' = o) := by
      intro k ok hk
      by_cases hki : i = k
      · subst hki
        exact ⟨o, hi, fun hx => absurd rfl hx, fun _ => rfl⟩
      · rw [Heap.get_set_ne _ _ hki] at hk
        exact ⟨ok, hk, fun _ => rfl, fun hx => absurd hx.symm hki⟩
    obtain ⟨oa', a1, a2, a3⟩ := key a oa ha
    obtain ⟨ob', b1, b2, b3⟩ := key b ob hb'
    by_cases hai : a = i
    · have := a3 hai
      subst this
      exact hR.sep a b oa' ob' ea eb hab a1 b1 hea heb hown
    · have := a2 hai
      subst this
      exact hR.sep a b oa' ob' ea eb hab a1 b1 hea heb hoa
  glob := hR.glob

/-- An object is forgotten. -/
theorem R.del {P : Program} {φ : List Emb} {h : Heap} {w0 w : World} (hR : R P φ h w0 w) (i : Nat) : R P φ (h.del i) w0 w where
  below := hR.below
  len := by simp [hR.len, Heap.next_del]
  objs := fun j oj hj => by
    by_cases hij : i = j
    · subst hij; rw [Heap.get_del] at hj; cases hj
    · rw [Heap.get_del_ne _ hij] at hj; exact hR.objs j oj hj
  sep := fun a b oa ob ea eb hab ha hb hea heb hoa => by
    have key : ∀ k ok, (h.del i).get k = some ok → h.get k = some ok := by
      intro k ok hk
      by_cases hki : i = k
      · subst hki; rw [Heap.get_del] at hk; cases hk
      · rwa [Heap.get_del_ne _ hki] at hk
    exact hR.sep a b oa ob ea eb hab (key _ _ ha) (key _ _ hb) hea heb hoa
  glob := hR.glob
end Go.Am
