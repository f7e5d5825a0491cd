/- Parts of the proof by the abstract machine: Base, Tab. -/
import Derived.Below
import Derived.Orders
import Derived.Defers
import Derived.Laws.Cells
import Derived.Laws.CopyRow
import Derived.Laws.AppendOwn
set_option linter.all false
noncomputable section
namespace Go.Am
open Go.RowKit

/-! ### Values -/

structure Loc where
  id : Nat
  off : Nat

/-- What is known of a slice's capacity: the number; 'it reaches to the end of its block, an element takes e cells'; nothing. -/
inductive Cap where
  | exact (n : Nat)
  | tip (e : Nat)
  | dim

inductive AV where
  | unk
  | bool (b : Bool)
  | int (k : IntKind) (n : Int)
  | str (s : List UInt8)
  | ptr (l : Option Loc)
  | slice (l : Option Loc) (len : Nat) (cap : Cap)
  | map (r : Option Nat)
  | chan (r : Option Nat)
  | func (fn : Fn) (first captured : List AV)
  | nilFunc
  | iface (t : TypeId) (v : AV)
  | nilIface
  | agg (cs : List AV)
  | tuple (vs : List AV)
  /-- The function that a range over a function hands out; k: where the loop's record lies. -/
  | yield (k : Nat)

instance : Inhabited AV := ⟨.unk⟩

/-- Where an abstract object lies: the block, the first cell, how many cells there are from it on to the block's end. -/
structure Emb where
  blk : Nat
  off : Nat
  tot : Nat

def CapOk (e : Emb) (off cap : Nat) : Cap → Prop
  | .exact n => cap = n
  | .tip s => 0 < s ∧ off + cap * s = e.tot
  | .dim => True

mutual
/-- The model's value that an abstract value stands for. -/
def V (φ : List Emb) : AV → Value → Prop
  | .unk, _ => True
  | .bool b, v => v = .bool b
  | .int k n, v => v = .int k n
  | .str s, v => v = .string ⟨s.toArray⟩
  | .ptr none, v => v = .pointer none
  | .ptr (some l), v => ∃ e, φ[l.id]? = some e ∧ v = .pointer (some ⟨e.blk, e.off + l.off, none⟩)
  | .slice none n c, v => n = 0 ∧ v = .slice none 0 0 ∧ (match c with | .exact k => k = 0 | .tip _ => False | .dim => True)
  | .slice (some l) n c, v => ∃ e cap a, φ[l.id]? = some e ∧ v = .slice (some a) n cap ∧ n ≤ cap ∧ CapOk e l.off cap c ∧ (a = ⟨e.blk, e.off + l.off, none⟩ ∨ (n = 0 ∧ c = .dim))
  | .map none, v => v = .map none
  | .map (some i), v => ∃ e, φ[i]? = some e ∧ v = .map (some e.blk)
  | .chan none, v => v = .chan none
  | .chan (some i), v => ∃ e, φ[i]? = some e ∧ v = .chan (some e.blk)
  | .func fn a b, v => ∃ x y, v = .func fn x y ∧ Vs φ a x.toList ∧ Vs φ b y.toList
  | .nilFunc, v => v = .nilFunc
  | .iface t x, v => ∃ y, v = .iface t y ∧ V φ x y
  | .nilIface, v => v = .nilIface
  | .agg cs, v => ∃ x, v = .agg x ∧ Vs φ cs x.toList
  | .tuple cs, v => ∃ x, v = .tuple x ∧ Vs φ cs x.toList
  | .yield k, v => ∃ e, φ[k]? = some e ∧ v = .func (.yield e.blk) #[] #[]
def Vs (φ : List Emb) : List AV → List Value → Prop
  | [], l => l = []
  | a :: as, l => ∃ y ys, l = y :: ys ∧ V φ a y ∧ Vs φ as ys
end

/-- One list of places goes on from another. -/
def Up (φ φ' : List Emb) : Prop := ∃ ψ, φ' = φ ++ ψ
theorem Up.refl (φ : List Emb) : Up φ φ := ⟨[], by simp⟩
theorem Up.trans {a b c : List Emb} (h : Up a b) (h' : Up b c) : Up a c := by
  obtain ⟨x, rfl⟩ := h
  obtain ⟨y, rfl⟩ := h'
  exact ⟨x ++ y, by simp⟩
theorem Up.get {φ φ' : List Emb} (h : Up φ φ') {i : Nat} {e : Emb} (he : φ[i]? = some e) : φ'[i]? = some e := by
  obtain ⟨x, rfl⟩ := h
  rw [List.getElem?_append_left (List.getElem?_eq_some_iff.1 he).1, he]
theorem Up.snoc (φ : List Emb) (e : Emb) : Up φ (φ ++ [e]) := ⟨[e], rfl⟩

mutual
theorem V.up {φ φ' : List Emb} (h : Up φ φ') : ∀ (a : AV) (v : Value), V φ a v → V φ' a v
  | .unk, _, _ => by simp [V]
  | .bool _, _, hv => by simpa [V] using hv
  | .int _ _, _, hv => by simpa [V] using hv
  | .str _, _, hv => by simpa [V] using hv
  | .ptr none, _, hv => by simpa [V] using hv
  | .ptr (some l), _, hv => by
    simp only [V] at hv ⊢
    obtain ⟨e, he, hv⟩ := hv
    exact ⟨e, h.get he, hv⟩
  | .slice none _ c, _, hv => by cases c <;> simp [V] at hv ⊢ <;> exact hv
  | .slice (some l) n c, _, hv => by
    simp only [V] at hv ⊢
    obtain ⟨e, cap, a, he, hv⟩ := hv
    exact ⟨e, cap, a, h.get he, hv⟩
  | .map none, _, hv => by simpa [V] using hv
  | .map (some i), _, hv => by
    simp only [V] at hv ⊢
    obtain ⟨e, he, hv⟩ := hv
    exact ⟨e, h.get he, hv⟩
  | .chan none, _, hv => by simpa [V] using hv
  | .chan (some i), _, hv => by
    simp only [V] at hv ⊢
    obtain ⟨e, he, hv⟩ := hv
    exact ⟨e, h.get he, hv⟩
  | .func fn a b, _, hv => by
    simp only [V] at hv ⊢
    obtain ⟨x, y, he, ha, hb⟩ := hv
    exact ⟨x, y, he, Vs.up h a _ ha, Vs.up h b _ hb⟩
  | .nilFunc, _, hv => by simpa [V] using hv
  | .iface t x, _, hv => by
    simp only [V] at hv ⊢
    obtain ⟨y, he, hv⟩ := hv
    exact ⟨y, he, V.up h x _ hv⟩
  | .nilIface, _, hv => by simpa [V] using hv
  | .agg cs, _, hv => by
    simp only [V] at hv ⊢
    obtain ⟨x, he, hv⟩ := hv
    exact ⟨x, he, Vs.up h cs _ hv⟩
  | .tuple cs, _, hv => by
    simp only [V] at hv ⊢
    obtain ⟨x, he, hv⟩ := hv
    exact ⟨x, he, Vs.up h cs _ hv⟩
  | .yield k, _, hv => by
    simp only [V] at hv ⊢
    obtain ⟨e, he, hv⟩ := hv
    exact ⟨e, h.get he, hv⟩
theorem Vs.up {φ φ' : List Emb} (h : Up φ φ') : ∀ (as : List AV) (vs : List Value), Vs φ as vs → Vs φ' as vs
  | [], _, hv => by simpa [Vs] using hv
  | a :: as, _, hv => by
    simp only [Vs] at hv ⊢
    obtain ⟨y, ys, he, h1, h2⟩ := hv
    exact ⟨y, ys, he, V.up h a _ h1, Vs.up h as _ h2⟩
end

theorem Vs_nil {φ : List Emb} {l : List Value} : Vs φ [] l ↔ l = [] := by simp [Vs]
theorem Vs_cons {φ : List Emb} {a : AV} {as : List AV} {v : Value} {vs : List Value} : Vs φ (a :: as) (v :: vs) ↔ V φ a v ∧ Vs φ as vs := by
  simp only [Vs, List.cons.injEq]
  constructor
  · rintro ⟨y, ys, ⟨rfl, rfl⟩, h⟩; exact h
  · intro h; exact ⟨v, vs, ⟨rfl, rfl⟩, h⟩
theorem Vs.length {φ : List Emb} : ∀ {as : List AV} {vs : List Value}, Vs φ as vs → vs.length = as.length
  | [], _, h => by simp [Vs] at h; simp [h]
  | a :: as, _, h => by
    simp only [Vs] at h
    obtain ⟨y, ys, rfl, _, h⟩ := h
    simp [h.length]
theorem Vs.get {φ : List Emb} : ∀ {as : List AV} {vs : List Value}, Vs φ as vs → ∀ (i : Nat) (a : AV), as[i]? = some a → ∃ v, vs[i]? = some v ∧ V φ a v
  | [], _, _ => by simp
  | b :: as, _, h => by
    simp only [Vs] at h
    obtain ⟨y, ys, rfl, h1, h⟩ := h
    intro i a ha
    cases i with
    | zero => simp at ha; subst ha; exact ⟨y, by simp, h1⟩
    | succ i => simp at ha; obtain ⟨v, hv, hh⟩ := h.get i a ha; exact ⟨v, by simpa using hv, hh⟩
theorem Vs.of_get {φ : List Emb} : ∀ {as : List AV} {vs : List Value}, vs.length = as.length → (∀ (i : Nat) (a : AV) (v : Value), as[i]? = some a → vs[i]? = some v → V φ a v) → Vs φ as vs
  | [], vs, hl, _ => by simp [Vs]; exact List.eq_nil_of_length_eq_zero hl
  | a :: as, vs, hl, h => by
    cases vs with
    | nil => simp at hl
    | cons v vs =>
      rw [Vs_cons]
      exact ⟨h 0 a v (by simp) (by simp), Vs.of_get (by simpa using hl) fun i b u hb hu => h (i + 1) b u (by simpa using hb) (by simpa using hu)⟩
theorem Vs.append {φ : List Emb} {as bs : List AV} {us vs : List Value} (h : Vs φ as us) (h' : Vs φ bs vs) : Vs φ (as ++ bs) (us ++ vs) := by
  induction as generalizing us with
  | nil => simp [Vs] at h; subst h; simpa using h'
  | cons a as ih =>
    simp only [Vs] at h
    obtain ⟨y, ys, rfl, h1, h⟩ := h
    simp only [List.cons_append, Vs_cons]
    exact ⟨h1, ih h⟩
theorem Vs.take {φ : List Emb} {as : List AV} {vs : List Value} (h : Vs φ as vs) (n : Nat) : Vs φ (as.take n) (vs.take n) := by
  refine Vs.of_get (by simp [h.length]) fun i a v ha hv => ?_
  rw [List.getElem?_take] at ha hv
  split at ha
  · obtain ⟨u, hu, hh⟩ := h.get i a ha
    rename_i hlt
    simp [hlt] at hv
    rw [hu] at hv
    cases hv
    exact hh
  · cases ha
theorem Vs.drop {φ : List Emb} {as : List AV} {vs : List Value} (h : Vs φ as vs) (n : Nat) : Vs φ (as.drop n) (vs.drop n) := by
  refine Vs.of_get (by simp [h.length]) fun i a v ha hv => ?_
  rw [List.getElem?_drop] at ha hv
  obtain ⟨u, hu, hh⟩ := h.get _ a ha
  rw [hu] at hv
  cases hv
  exact hh
theorem Vs.set {φ : List Emb} {as : List AV} {vs : List Value} (h : Vs φ as vs) (n : Nat) {a : AV} {v : Value} (hv : V φ a v) : Vs φ (as.set n a) (vs.set n v) := by
  refine Vs.of_get (by simp [h.length]) fun i b u hb hu => ?_
  rw [List.getElem?_set] at hb hu
  by_cases hin : n = i
  · subst hin
    simp only [if_true] at hb hu
    split at hb
    · rename_i hlt
      simp [h.length, hlt] at hu
      cases hb
      subst hu
      exact hv
    · cases hb
  · simp only [hin, if_false] at hb hu
    obtain ⟨x, hx, hh⟩ := h.get _ b hb
    rw [hx] at hu
    cases hu
    exact hh

/-! ### Frames: sixteen rows of sixteen -/

inductive D16 where
  | d0 | d1 | d2 | d3 | d4 | d5 | d6 | d7 | d8 | d9 | da | db | dc | dd | de | df
structure Row where
  (a0 a1 a2 a3 a4 a5 a6 a7 a8 a9 aa ab ac ad ae af : AV)
structure Env where
  (a0 a1 a2 a3 a4 a5 a6 a7 a8 a9 aa ab ac ad ae af : Row)
def Row.g0 (r : Row) : AV := r.a0
def Row.g1 (r : Row) : AV := r.a1
def Row.g2 (r : Row) : AV := r.a2
def Row.g3 (r : Row) : AV := r.a3
def Row.g4 (r : Row) : AV := r.a4
def Row.g5 (r : Row) : AV := r.a5
def Row.g6 (r : Row) : AV := r.a6
def Row.g7 (r : Row) : AV := r.a7
def Row.g8 (r : Row) : AV := r.a8
def Row.g9 (r : Row) : AV := r.a9
def Row.ga (r : Row) : AV := r.aa
def Row.gb (r : Row) : AV := r.ab
def Row.gc (r : Row) : AV := r.ac
def Row.gd (r : Row) : AV := r.ad
def Row.ge (r : Row) : AV := r.ae
def Row.gf (r : Row) : AV := r.af
def Row.s0 (v : AV) (r : Row) : Row := Row.rec (motive := fun _ => Row) (fun _ a1 a2 a3 a4 a5 a6 a7 a8 a9 aa ab ac ad ae af => .mk v a1 a2 a3 a4 a5 a6 a7 a8 a9 aa ab ac ad ae af) r
def Row.s1 (v : AV) (r : Row) : Row := Row.rec (motive := fun _ => Row) (fun a0 _ a2 a3 a4 a5 a6 a7 a8 a9 aa ab ac ad ae af => .mk a0 v a2 a3 a4 a5 a6 a7 a8 a9 aa ab ac ad ae af) r
def Row.s2 (v : AV) (r : Row) : Row := Row.rec (motive := fun _ => Row) (fun a0 a1 _ a3 a4 a5 a6 a7 a8 a9 aa ab ac ad ae af => .mk a0 a1 v a3 a4 a5 a6 a7 a8 a9 aa ab ac ad ae af) r
def Row.s3 (v : AV) (r : Row) : Row := Row.rec (motive := fun _ => Row) (fun a0 a1 a2 _ a4 a5 a6 a7 a8 a9 aa ab ac ad ae af => .mk a0 a1 a2 v a4 a5 a6 a7 a8 a9 aa ab ac ad ae af) r
def Row.s4 (v : AV) (r : Row) : Row := Row.rec (motive := fun _ => Row) (fun a0 a1 a2 a3 _ a5 a6 a7 a8 a9 aa ab ac ad ae af => .mk a0 a1 a2 a3 v a5 a6 a7 a8 a9 aa ab ac ad ae af) r
def Row.s5 (v : AV) (r : Row) : Row := Row.rec (motive := fun _ => Row) (fun a0 a1 a2 a3 a4 _ a6 a7 a8 a9 aa ab ac ad ae af => .mk a0 a1 a2 a3 a4 v a6 a7 a8 a9 aa ab ac ad ae af) r
def Row.s6 (v : AV) (r : Row) : Row := Row.rec (motive := fun _ => Row) (fun a0 a1 a2 a3 a4 a5 _ a7 a8 a9 aa ab ac ad ae af => .mk a0 a1 a2 a3 a4 a5 v a7 a8 a9 aa ab ac ad ae af) r
def Row.s7 (v : AV) (r : Row) : Row := Row.rec (motive := fun _ => Row) (fun a0 a1 a2 a3 a4 a5 a6 _ a8 a9 aa ab ac ad ae af => .mk a0 a1 a2 a3 a4 a5 a6 v a8 a9 aa ab ac ad ae af) r
def Row.s8 (v : AV) (r : Row) : Row := Row.rec (motive := fun _ => Row) (fun a0 a1 a2 a3 a4 a5 a6 a7 _ a9 aa ab ac ad ae af => .mk a0 a1 a2 a3 a4 a5 a6 a7 v a9 aa ab ac ad ae af) r
def Row.s9 (v : AV) (r : Row) : Row := Row.rec (motive := fun _ => Row) (fun a0 a1 a2 a3 a4 a5 a6 a7 a8 _ aa ab ac ad ae af => .mk a0 a1 a2 a3 a4 a5 a6 a7 a8 v aa ab ac ad ae af) r
def Row.sa (v : AV) (r : Row) : Row := Row.rec (motive := fun _ => Row) (fun a0 a1 a2 a3 a4 a5 a6 a7 a8 a9 _ ab ac ad ae af => .mk a0 a1 a2 a3 a4 a5 a6 a7 a8 a9 v ab ac ad ae af) r
def Row.sb (v : AV) (r : Row) : Row := Row.rec (motive := fun _ => Row) (fun a0 a1 a2 a3 a4 a5 a6 a7 a8 a9 aa _ ac ad ae af => .mk a0 a1 a2 a3 a4 a5 a6 a7 a8 a9 aa v ac ad ae af) r
def Row.sc (v : AV) (r : Row) : Row := Row.rec (motive := fun _ => Row) (fun a0 a1 a2 a3 a4 a5 a6 a7 a8 a9 aa ab _ ad ae af => .mk a0 a1 a2 a3 a4 a5 a6 a7 a8 a9 aa ab v ad ae af) r
def Row.sd (v : AV) (r : Row) : Row := Row.rec (motive := fun _ => Row) (fun a0 a1 a2 a3 a4 a5 a6 a7 a8 a9 aa ab ac _ ae af => .mk a0 a1 a2 a3 a4 a5 a6 a7 a8 a9 aa ab ac v ae af) r
def Row.se (v : AV) (r : Row) : Row := Row.rec (motive := fun _ => Row) (fun a0 a1 a2 a3 a4 a5 a6 a7 a8 a9 aa ab ac ad _ af => .mk a0 a1 a2 a3 a4 a5 a6 a7 a8 a9 aa ab ac ad v af) r
def Row.sf (v : AV) (r : Row) : Row := Row.rec (motive := fun _ => Row) (fun a0 a1 a2 a3 a4 a5 a6 a7 a8 a9 aa ab ac ad ae _ => .mk a0 a1 a2 a3 a4 a5 a6 a7 a8 a9 aa ab ac ad ae v) r
def Row.get (d : D16) : Row → AV := D16.rec (motive := fun _ => Row → AV) Row.g0 Row.g1 Row.g2 Row.g3 Row.g4 Row.g5 Row.g6 Row.g7 Row.g8 Row.g9 Row.ga Row.gb Row.gc Row.gd Row.ge Row.gf d
def Row.set (d : D16) : AV → Row → Row := D16.rec (motive := fun _ => AV → Row → Row) Row.s0 Row.s1 Row.s2 Row.s3 Row.s4 Row.s5 Row.s6 Row.s7 Row.s8 Row.s9 Row.sa Row.sb Row.sc Row.sd Row.se Row.sf d
theorem Row.get_set (d : D16) (v : AV) (r : Row) : Row.get d (Row.set d v r) = v := by cases r; cases d <;> rfl
theorem Row.get_set_ne (d c : D16) (h : d ≠ c) (v : AV) (r : Row) : Row.get d (Row.set c v r) = Row.get d r := by cases r; cases d <;> cases c <;> first | rfl | exact absurd rfl h
def Row.all (v : AV) : Row := .mk v v v v v v v v v v v v v v v v
theorem Row.get_all (d : D16) (v : AV) : Row.get d (Row.all v) = v := by cases d <;> rfl
def Env.g0 (r : Env) : Row := r.a0
def Env.g1 (r : Env) : Row := r.a1
def Env.g2 (r : Env) : Row := r.a2
def Env.g3 (r : Env) : Row := r.a3
def Env.g4 (r : Env) : Row := r.a4
def Env.g5 (r : Env) : Row := r.a5
def Env.g6 (r : Env) : Row := r.a6
def Env.g7 (r : Env) : Row := r.a7
def Env.g8 (r : Env) : Row := r.a8
def Env.g9 (r : Env) : Row := r.a9
def Env.ga (r : Env) : Row := r.aa
def Env.gb (r : Env) : Row := r.ab
def Env.gc (r : Env) : Row := r.ac
def Env.gd (r : Env) : Row := r.ad
def Env.ge (r : Env) : Row := r.ae
def Env.gf (r : Env) : Row := r.af
def Env.s0 (v : Row) (r : Env) : Env := Env.rec (motive := fun _ => Env) (fun _ a1 a2 a3 a4 a5 a6 a7 a8 a9 aa ab ac ad ae af => .mk v a1 a2 a3 a4 a5 a6 a7 a8 a9 aa ab ac ad ae af) r
def Env.s1 (v : Row) (r : Env) : Env := Env.rec (motive := fun _ => Env) (fun a0 _ a2 a3 a4 a5 a6 a7 a8 a9 aa ab ac ad ae af => .mk a0 v a2 a3 a4 a5 a6 a7 a8 a9 aa ab ac ad ae af) r
def Env.s2 (v : Row) (r : Env) : Env := Env.rec (motive := fun _ => Env) (fun a0 a1 _ a3 a4 a5 a6 a7 a8 a9 aa ab ac ad ae af => .mk a0 a1 v a3 a4 a5 a6 a7 a8 a9 aa ab ac ad ae af) r
def Env.s3 (v : Row) (r : Env) : Env := Env.rec (motive := fun _ => Env) (fun a0 a1 a2 _ a4 a5 a6 a7 a8 a9 aa ab ac ad ae af => .mk a0 a1 a2 v a4 a5 a6 a7 a8 a9 aa ab ac ad ae af) r
def Env.s4 (v : Row) (r : Env) : Env := Env.rec (motive := fun _ => Env) (fun a0 a1 a2 a3 _ a5 a6 a7 a8 a9 aa ab ac ad ae af => .mk a0 a1 a2 a3 v a5 a6 a7 a8 a9 aa ab ac ad ae af) r
def Env.s5 (v : Row) (r : Env) : Env := Env.rec (motive := fun _ => Env) (fun a0 a1 a2 a3 a4 _ a6 a7 a8 a9 aa ab ac ad ae af => .mk a0 a1 a2 a3 a4 v a6 a7 a8 a9 aa ab ac ad ae af) r
def Env.s6 (v : Row) (r : Env) : Env := Env.rec (motive := fun _ => Env) (fun a0 a1 a2 a3 a4 a5 _ a7 a8 a9 aa ab ac ad ae af => .mk a0 a1 a2 a3 a4 a5 v a7 a8 a9 aa ab ac ad ae af) r
def Env.s7 (v : Row) (r : Env) : Env := Env.rec (motive := fun _ => Env) (fun a0 a1 a2 a3 a4 a5 a6 _ a8 a9 aa ab ac ad ae af => .mk a0 a1 a2 a3 a4 a5 a6 v a8 a9 aa ab ac ad ae af) r
def Env.s8 (v : Row) (r : Env) : Env := Env.rec (motive := fun _ => Env) (fun a0 a1 a2 a3 a4 a5 a6 a7 _ a9 aa ab ac ad ae af => .mk a0 a1 a2 a3 a4 a5 a6 a7 v a9 aa ab ac ad ae af) r
def Env.s9 (v : Row) (r : Env) : Env := Env.rec (motive := fun _ => Env) (fun a0 a1 a2 a3 a4 a5 a6 a7 a8 _ aa ab ac ad ae af => .mk a0 a1 a2 a3 a4 a5 a6 a7 a8 v aa ab ac ad ae af) r
def Env.sa (v : Row) (r : Env) : Env := Env.rec (motive := fun _ => Env) (fun a0 a1 a2 a3 a4 a5 a6 a7 a8 a9 _ ab ac ad ae af => .mk a0 a1 a2 a3 a4 a5 a6 a7 a8 a9 v ab ac ad ae af) r
def Env.sb (v : Row) (r : Env) : Env := Env.rec (motive := fun _ => Env) (fun a0 a1 a2 a3 a4 a5 a6 a7 a8 a9 aa _ ac ad ae af => .mk a0 a1 a2 a3 a4 a5 a6 a7 a8 a9 aa v ac ad ae af) r
def Env.sc (v : Row) (r : Env) : Env := Env.rec (motive := fun _ => Env) (fun a0 a1 a2 a3 a4 a5 a6 a7 a8 a9 aa ab _ ad ae af => .mk a0 a1 a2 a3 a4 a5 a6 a7 a8 a9 aa ab v ad ae af) r
def Env.sd (v : Row) (r : Env) : Env := Env.rec (motive := fun _ => Env) (fun a0 a1 a2 a3 a4 a5 a6 a7 a8 a9 aa ab ac _ ae af => .mk a0 a1 a2 a3 a4 a5 a6 a7 a8 a9 aa ab ac v ae af) r
def Env.se (v : Row) (r : Env) : Env := Env.rec (motive := fun _ => Env) (fun a0 a1 a2 a3 a4 a5 a6 a7 a8 a9 aa ab ac ad _ af => .mk a0 a1 a2 a3 a4 a5 a6 a7 a8 a9 aa ab ac ad v af) r
def Env.sf (v : Row) (r : Env) : Env := Env.rec (motive := fun _ => Env) (fun a0 a1 a2 a3 a4 a5 a6 a7 a8 a9 aa ab ac ad ae _ => .mk a0 a1 a2 a3 a4 a5 a6 a7 a8 a9 aa ab ac ad ae v) r
def Env.get (d : D16) : Env → Row := D16.rec (motive := fun _ => Env → Row) Env.g0 Env.g1 Env.g2 Env.g3 Env.g4 Env.g5 Env.g6 Env.g7 Env.g8 Env.g9 Env.ga Env.gb Env.gc Env.gd Env.ge Env.gf d
def Env.set (d : D16) : Row → Env → Env := D16.rec (motive := fun _ => Row → Env → Env) Env.s0 Env.s1 Env.s2 Env.s3 Env.s4 Env.s5 Env.s6 Env.s7 Env.s8 Env.s9 Env.sa Env.sb Env.sc Env.sd Env.se Env.sf d
theorem Env.get_set (d : D16) (v : Row) (r : Env) : Env.get d (Env.set d v r) = v := by cases r; cases d <;> rfl
theorem Env.get_set_ne (d c : D16) (h : d ≠ c) (v : Row) (r : Env) : Env.get d (Env.set c v r) = Env.get d r := by cases r; cases d <;> cases c <;> first | rfl | exact absurd rfl h
def Env.all (v : Row) : Env := .mk v v v v v v v v v v v v v v v v
theorem Env.get_all (d : D16) (v : Row) : Env.get d (Env.all v) = v := by cases d <;> rfl

/-- Which row, which place: temporary t. -/
structure Ref where
  i : D16
  j : D16
def dig (n : Nat) : D16 := Bool.rec (Bool.rec (Bool.rec (Bool.rec (.df) (.de) (Nat.ble n 14)) (Bool.rec (.dd) (.dc) (Nat.ble n 12)) (Nat.ble n 13)) (Bool.rec (Bool.rec (.db) (.da) (Nat.ble n 10)) (Bool.rec (.d9) (.d8) (Nat.ble n 8)) (Nat.ble n 9)) (Nat.ble n 11)) (Bool.rec (Bool.rec (Bool.rec (.d7) (.d6) (Nat.ble n 6)) (Bool.rec (.d5) (.d4) (Nat.ble n 4)) (Nat.ble n 5)) (Bool.rec (Bool.rec (.d3) (.d2) (Nat.ble n 2)) (Bool.rec (.d1) (.d0) (Nat.ble n 0)) (Nat.ble n 1)) (Nat.ble n 3)) (Nat.ble n 7)
def D16.val (d : D16) : Nat := D16.rec 0 1 2 3 4 5 6 7 8 9 10 11 12 13 14 15 d
theorem dig_val {a : Nat} (ha : a < 16) : (dig a).val = a := by
  match a with
  | 0 => rfl
  | 1 => rfl
  | 2 => rfl
  | 3 => rfl
  | 4 => rfl
  | 5 => rfl
  | 6 => rfl
  | 7 => rfl
  | 8 => rfl
  | 9 => rfl
  | 10 => rfl
  | 11 => rfl
  | 12 => rfl
  | 13 => rfl
  | 14 => rfl
  | 15 => rfl
  | n + 16 => omega
theorem dig_inj {a b : Nat} (ha : a < 16) (hb : b < 16) (h : dig a = dig b) : a = b := by rw [← dig_val ha, ← dig_val hb, h]
def refOf (t : Nat) : Ref := ⟨dig (t / 16), dig (t % 16)⟩
def Env.at (r : Ref) (e : Env) : AV := Row.get r.j (Env.get r.i e)
def Env.put (r : Ref) (v : AV) (e : Env) : Env := Env.set r.i (Row.set r.j v (Env.get r.i e)) e
def Env.none : Env := Env.all (Row.all (.tuple []))
theorem Env.at_put (r : Ref) (v : AV) (e : Env) : (e.put r v).at r = v := by simp [Env.at, Env.put, Env.get_set, Row.get_set]
theorem Env.at_put_ne {s t : Nat} (hs : s < 256) (ht : t < 256) (hn : s ≠ t) (v : AV) (e : Env) : (e.put (refOf t) v).at (refOf s) = e.at (refOf s) := by
  simp only [Env.at, Env.put, refOf]
  by_cases hi : dig (s / 16) = dig (t / 16)
  · have h1 := dig_inj (by omega) (by omega) hi
    have h2 : dig (s % 16) ≠ dig (t % 16) := fun h => hn (by have := dig_inj (by omega) (by omega) h; omega)
    rw [hi, Env.get_set, Row.get_set_ne _ _ h2]
  · rw [Env.get_set_ne _ _ hi]
theorem Env.at_none (r : Ref) : Env.none.at r = .tuple [] := by simp [Env.at, Env.none, Env.get_all, Row.get_all]
/-- What a frame's temporaries show. -/
def VE (φ : List Emb) (e : Env) (tmps : Array Value) : Prop := tmps.size ≤ 256 ∧ ∀ t, t < tmps.size → V φ (e.at (refOf t)) (tmps.getD t undef)
theorem VE.up {φ φ' : List Emb} (h : Up φ φ') {e : Env} {tmps : Array Value} (hv : VE φ e tmps) : VE φ' e tmps := ⟨hv.1, fun t ht => V.up h _ _ (hv.2 t ht)⟩
theorem VE.put {φ : List Emb} {e : Env} {tmps : Array Value} (hv : VE φ e tmps) {d : Nat} (hd : d < tmps.size) {v : AV} {v' : Value} (h : V φ v v') : VE φ (e.put (refOf d) v) (tmps.setIfInBounds d v') := by
  refine ⟨by simpa using hv.1, fun t ht => ?_⟩
  have h256 := hv.1
  simp only [Array.size_setIfInBounds] at ht
  by_cases hdt : d = t
  · subst hdt
    rw [Env.at_put]
    simpa [Array.getD_eq_getD_getElem?, Array.getElem?_setIfInBounds, hd] using h
  · rw [Env.at_put_ne (by omega) (by omega) (Ne.symm hdt)]
    have := hv.2 t ht
    simpa [Array.getD_eq_getD_getElem?, Array.getElem?_setIfInBounds_ne hdt] using this

/-! ### Memory -/

/-- own: the call's own, to be written; str: its own, a string's letters; ro: what came in, never written. -/
inductive Kind where
  | own (t : Option TypeId)
  /-- A variable's whole block. -/
  | var (t : TypeId)
  | str | ro
  deriving DecidableEq

inductive Obj where
  | cells (cs : List AV) (k : Kind)
  | map (es : List (AV × AV × Nat)) (clock : Nat)
  /-- A map whose entries stand in some order, with some births. -/
  | bag (es : List (AV × AV)) (clock : Nat)
  | chan (cap : Nat) (buf : List AV) (closed : Bool)
  /-- A walk over a map's entries, over a string's letters. -/
  | iter (m : Option Nat) (since : Nat) (seen : List Nat) (cur : Option Nat) (last : Nat)
  | siter (s : List UInt8) (pos : Nat)
  /-- The record of a range over a function; n: how many temporaries the frame has. -/
  | loop (state : LoopState) (pending : Option Code) (n : Nat) (env : Env) (params : Array Tmp) (assign body : Code) (defers : Nat)
  /-- The block for the rounds' deferred calls: none. -/
  | defs

def Obj.isOwn : Obj → Bool
  | .cells _ .ro => false
  | _ => true

theorem beq1 (n m : Nat) : Nat.beq n m = decide (n = m) := by
  cases h : Nat.beq n m with
  | true => simp [Nat.eq_of_beq_eq_true h]
  | false => simp [Nat.ne_of_beq_eq_false h]

/-! ### Numbers to things: sixteen times sixteen times sixteen times sixteen; beyond them a list -/

structure L1 where
  (a0 a1 a2 a3 a4 a5 a6 a7 a8 a9 aa ab ac ad ae af : Option Obj)
structure L2 where
  (a0 a1 a2 a3 a4 a5 a6 a7 a8 a9 aa ab ac ad ae af : L1)
structure L3 where
  (a0 a1 a2 a3 a4 a5 a6 a7 a8 a9 aa ab ac ad ae af : L2)
structure L4 where
  (a0 a1 a2 a3 a4 a5 a6 a7 a8 a9 aa ab ac ad ae af : L3)
def L1.g0 (r : L1) : Option Obj := r.a0
def L1.g1 (r : L1) : Option Obj := r.a1
def L1.g2 (r : L1) : Option Obj := r.a2
def L1.g3 (r : L1) : Option Obj := r.a3
def L1.g4 (r : L1) : Option Obj := r.a4
def L1.g5 (r : L1) : Option Obj := r.a5
def L1.g6 (r : L1) : Option Obj := r.a6
def L1.g7 (r : L1) : Option Obj := r.a7
def L1.g8 (r : L1) : Option Obj := r.a8
def L1.g9 (r : L1) : Option Obj := r.a9
def L1.ga (r : L1) : Option Obj := r.aa
def L1.gb (r : L1) : Option Obj := r.ab
def L1.gc (r : L1) : Option Obj := r.ac
def L1.gd (r : L1) : Option Obj := r.ad
def L1.ge (r : L1) : Option Obj := r.ae
def L1.gf (r : L1) : Option Obj := r.af
def L1.s0 (v : Option Obj) (r : L1) : L1 := L1.rec (motive := fun _ => L1) (fun _ a1 a2 a3 a4 a5 a6 a7 a8 a9 aa ab ac ad ae af => .mk v a1 a2 a3 a4 a5 a6 a7 a8 a9 aa ab ac ad ae af) r
def L1.s1 (v : Option Obj) (r : L1) : L1 := L1.rec (motive := fun _ => L1) (fun a0 _ a2 a3 a4 a5 a6 a7 a8 a9 aa ab ac ad ae af => .mk a0 v a2 a3 a4 a5 a6 a7 a8 a9 aa ab ac ad ae af) r
def L1.s2 (v : Option Obj) (r : L1) : L1 := L1.rec (motive := fun _ => L1) (fun a0 a1 _ a3 a4 a5 a6 a7 a8 a9 aa ab ac ad ae af => .mk a0 a1 v a3 a4 a5 a6 a7 a8 a9 aa ab ac ad ae af) r
def L1.s3 (v : Option Obj) (r : L1) : L1 := L1.rec (motive := fun _ => L1) (fun a0 a1 a2 _ a4 a5 a6 a7 a8 a9 aa ab ac ad ae af => .mk a0 a1 a2 v a4 a5 a6 a7 a8 a9 aa ab ac ad ae af) r
def L1.s4 (v : Option Obj) (r : L1) : L1 := L1.rec (motive := fun _ => L1) (fun a0 a1 a2 a3 _ a5 a6 a7 a8 a9 aa ab ac ad ae af => .mk a0 a1 a2 a3 v a5 a6 a7 a8 a9 aa ab ac ad ae af) r
def L1.s5 (v : Option Obj) (r : L1) : L1 := L1.rec (motive := fun _ => L1) (fun a0 a1 a2 a3 a4 _ a6 a7 a8 a9 aa ab ac ad ae af => .mk a0 a1 a2 a3 a4 v a6 a7 a8 a9 aa ab ac ad ae af) r
def L1.s6 (v : Option Obj) (r : L1) : L1 := L1.rec (motive := fun _ => L1) (fun a0 a1 a2 a3 a4 a5 _ a7 a8 a9 aa ab ac ad ae af => .mk a0 a1 a2 a3 a4 a5 v a7 a8 a9 aa ab ac ad ae af) r
def L1.s7 (v : Option Obj) (r : L1) : L1 := L1.rec (motive := fun _ => L1) (fun a0 a1 a2 a3 a4 a5 a6 _ a8 a9 aa ab ac ad ae af => .mk a0 a1 a2 a3 a4 a5 a6 v a8 a9 aa ab ac ad ae af) r
def L1.s8 (v : Option Obj) (r : L1) : L1 := L1.rec (motive := fun _ => L1) (fun a0 a1 a2 a3 a4 a5 a6 a7 _ a9 aa ab ac ad ae af => .mk a0 a1 a2 a3 a4 a5 a6 a7 v a9 aa ab ac ad ae af) r
def L1.s9 (v : Option Obj) (r : L1) : L1 := L1.rec (motive := fun _ => L1) (fun a0 a1 a2 a3 a4 a5 a6 a7 a8 _ aa ab ac ad ae af => .mk a0 a1 a2 a3 a4 a5 a6 a7 a8 v aa ab ac ad ae af) r
def L1.sa (v : Option Obj) (r : L1) : L1 := L1.rec (motive := fun _ => L1) (fun a0 a1 a2 a3 a4 a5 a6 a7 a8 a9 _ ab ac ad ae af => .mk a0 a1 a2 a3 a4 a5 a6 a7 a8 a9 v ab ac ad ae af) r
def L1.sb (v : Option Obj) (r : L1) : L1 := L1.rec (motive := fun _ => L1) (fun a0 a1 a2 a3 a4 a5 a6 a7 a8 a9 aa _ ac ad ae af => .mk a0 a1 a2 a3 a4 a5 a6 a7 a8 a9 aa v ac ad ae af) r
def L1.sc (v : Option Obj) (r : L1) : L1 := L1.rec (motive := fun _ => L1) (fun a0 a1 a2 a3 a4 a5 a6 a7 a8 a9 aa ab _ ad ae af => .mk a0 a1 a2 a3 a4 a5 a6 a7 a8 a9 aa ab v ad ae af) r
def L1.sd (v : Option Obj) (r : L1) : L1 := L1.rec (motive := fun _ => L1) (fun a0 a1 a2 a3 a4 a5 a6 a7 a8 a9 aa ab ac _ ae af => .mk a0 a1 a2 a3 a4 a5 a6 a7 a8 a9 aa ab ac v ae af) r
def L1.se (v : Option Obj) (r : L1) : L1 := L1.rec (motive := fun _ => L1) (fun a0 a1 a2 a3 a4 a5 a6 a7 a8 a9 aa ab ac ad _ af => .mk a0 a1 a2 a3 a4 a5 a6 a7 a8 a9 aa ab ac ad v af) r
def L1.sf (v : Option Obj) (r : L1) : L1 := L1.rec (motive := fun _ => L1) (fun a0 a1 a2 a3 a4 a5 a6 a7 a8 a9 aa ab ac ad ae _ => .mk a0 a1 a2 a3 a4 a5 a6 a7 a8 a9 aa ab ac ad ae v) r
def L1.get (d : D16) : L1 → Option Obj := D16.rec (motive := fun _ => L1 → Option Obj) L1.g0 L1.g1 L1.g2 L1.g3 L1.g4 L1.g5 L1.g6 L1.g7 L1.g8 L1.g9 L1.ga L1.gb L1.gc L1.gd L1.ge L1.gf d
def L1.set (d : D16) : Option Obj → L1 → L1 := D16.rec (motive := fun _ => Option Obj → L1 → L1) L1.s0 L1.s1 L1.s2 L1.s3 L1.s4 L1.s5 L1.s6 L1.s7 L1.s8 L1.s9 L1.sa L1.sb L1.sc L1.sd L1.se L1.sf d
theorem L1.get_set (d : D16) (v : Option Obj) (r : L1) : L1.get d (L1.set d v r) = v := by cases r; cases d <;> rfl
theorem L1.get_set_ne (d c : D16) (h : d ≠ c) (v : Option Obj) (r : L1) : L1.get d (L1.set c v r) = L1.get d r := by cases r; cases d <;> cases c <;> first | rfl | exact absurd rfl h
def L1.all (v : Option Obj) : L1 := .mk v v v v v v v v v v v v v v v v
theorem L1.get_all (d : D16) (v : Option Obj) : L1.get d (L1.all v) = v := by cases d <;> rfl
def L2.g0 (r : L2) : L1 := r.a0
def L2.g1 (r : L2) : L1 := r.a1
def L2.g2 (r : L2) : L1 := r.a2
def L2.g3 (r : L2) : L1 := r.a3
def L2.g4 (r : L2) : L1 := r.a4
def L2.g5 (r : L2) : L1 := r.a5
def L2.g6 (r : L2) : L1 := r.a6
def L2.g7 (r : L2) : L1 := r.a7
def L2.g8 (r : L2) : L1 := r.a8
def L2.g9 (r : L2) : L1 := r.a9
def L2.ga (r : L2) : L1 := r.aa
def L2.gb (r : L2) : L1 := r.ab
def L2.gc (r : L2) : L1 := r.ac
def L2.gd (r : L2) : L1 := r.ad
def L2.ge (r : L2) : L1 := r.ae
def L2.gf (r : L2) : L1 := r.af
def L2.s0 (v : L1) (r : L2) : L2 := L2.rec (motive := fun _ => L2) (fun _ a1 a2 a3 a4 a5 a6 a7 a8 a9 aa ab ac ad ae af => .mk v a1 a2 a3 a4 a5 a6 a7 a8 a9 aa ab ac ad ae af) r
def L2.s1 (v : L1) (r : L2) : L2 := L2.rec (motive := fun _ => L2) (fun a0 _ a2 a3 a4 a5 a6 a7 a8 a9 aa ab ac ad ae af => .mk a0 v a2 a3 a4 a5 a6 a7 a8 a9 aa ab ac ad ae af) r
def L2.s2 (v : L1) (r : L2) : L2 := L2.rec (motive := fun _ => L2) (fun a0 a1 _ a3 a4 a5 a6 a7 a8 a9 aa ab ac ad ae af => .mk a0 a1 v a3 a4 a5 a6 a7 a8 a9 aa ab ac ad ae af) r
def L2.s3 (v : L1) (r : L2) : L2 := L2.rec (motive := fun _ => L2) (fun a0 a1 a2 _ a4 a5 a6 a7 a8 a9 aa ab ac ad ae af => .mk a0 a1 a2 v a4 a5 a6 a7 a8 a9 aa ab ac ad ae af) r
def L2.s4 (v : L1) (r : L2) : L2 := L2.rec (motive := fun _ => L2) (fun a0 a1 a2 a3 _ a5 a6 a7 a8 a9 aa ab ac ad ae af => .mk a0 a1 a2 a3 v a5 a6 a7 a8 a9 aa ab ac ad ae af) r
def L2.s5 (v : L1) (r : L2) : L2 := L2.rec (motive := fun _ => L2) (fun a0 a1 a2 a3 a4 _ a6 a7 a8 a9 aa ab ac ad ae af => .mk a0 a1 a2 a3 a4 v a6 a7 a8 a9 aa ab ac ad ae af) r
def L2.s6 (v : L1) (r : L2) : L2 := L2.rec (motive := fun _ => L2) (fun a0 a1 a2 a3 a4 a5 _ a7 a8 a9 aa ab ac ad ae af => .mk a0 a1 a2 a3 a4 a5 v a7 a8 a9 aa ab ac ad ae af) r
def L2.s7 (v : L1) (r : L2) : L2 := L2.rec (motive := fun _ => L2) (fun a0 a1 a2 a3 a4 a5 a6 _ a8 a9 aa ab ac ad ae af => .mk a0 a1 a2 a3 a4 a5 a6 v a8 a9 aa ab ac ad ae af) r
def L2.s8 (v : L1) (r : L2) : L2 := L2.rec (motive := fun _ => L2) (fun a0 a1 a2 a3 a4 a5 a6 a7 _ a9 aa ab ac ad ae af => .mk a0 a1 a2 a3 a4 a5 a6 a7 v a9 aa ab ac ad ae af) r
def L2.s9 (v : L1) (r : L2) : L2 := L2.rec (motive := fun _ => L2) (fun a0 a1 a2 a3 a4 a5 a6 a7 a8 _ aa ab ac ad ae af => .mk a0 a1 a2 a3 a4 a5 a6 a7 a8 v aa ab ac ad ae af) r
def L2.sa (v : L1) (r : L2) : L2 := L2.rec (motive := fun _ => L2) (fun a0 a1 a2 a3 a4 a5 a6 a7 a8 a9 _ ab ac ad ae af => .mk a0 a1 a2 a3 a4 a5 a6 a7 a8 a9 v ab ac ad ae af) r
def L2.sb (v : L1) (r : L2) : L2 := L2.rec (motive := fun _ => L2) (fun a0 a1 a2 a3 a4 a5 a6 a7 a8 a9 aa _ ac ad ae af => .mk a0 a1 a2 a3 a4 a5 a6 a7 a8 a9 aa v ac ad ae af) r
def L2.sc (v : L1) (r : L2) : L2 := L2.rec (motive := fun _ => L2) (fun a0 a1 a2 a3 a4 a5 a6 a7 a8 a9 aa ab _ ad ae af => .mk a0 a1 a2 a3 a4 a5 a6 a7 a8 a9 aa ab v ad ae af) r
def L2.sd (v : L1) (r : L2) : L2 := L2.rec (motive := fun _ => L2) (fun a0 a1 a2 a3 a4 a5 a6 a7 a8 a9 aa ab ac _ ae af => .mk a0 a1 a2 a3 a4 a5 a6 a7 a8 a9 aa ab ac v ae af) r
def L2.se (v : L1) (r : L2) : L2 := L2.rec (motive := fun _ => L2) (fun a0 a1 a2 a3 a4 a5 a6 a7 a8 a9 aa ab ac ad _ af => .mk a0 a1 a2 a3 a4 a5 a6 a7 a8 a9 aa ab ac ad v af) r
def L2.sf (v : L1) (r : L2) : L2 := L2.rec (motive := fun _ => L2) (fun a0 a1 a2 a3 a4 a5 a6 a7 a8 a9 aa ab ac ad ae _ => .mk a0 a1 a2 a3 a4 a5 a6 a7 a8 a9 aa ab ac ad ae v) r
def L2.get (d : D16) : L2 → L1 := D16.rec (motive := fun _ => L2 → L1) L2.g0 L2.g1 L2.g2 L2.g3 L2.g4 L2.g5 L2.g6 L2.g7 L2.g8 L2.g9 L2.ga L2.gb L2.gc L2.gd L2.ge L2.gf d
def L2.set (d : D16) : L1 → L2 → L2 := D16.rec (motive := fun _ => L1 → L2 → L2) L2.s0 L2.s1 L2.s2 L2.s3 L2.s4 L2.s5 L2.s6 L2.s7 L2.s8 L2.s9 L2.sa L2.sb L2.sc L2.sd L2.se L2.sf d
theorem L2.get_set (d : D16) (v : L1) (r : L2) : L2.get d (L2.set d v r) = v := by cases r; cases d <;> rfl
theorem L2.get_set_ne (d c : D16) (h : d ≠ c) (v : L1) (r : L2) : L2.get d (L2.set c v r) = L2.get d r := by cases r; cases d <;> cases c <;> first | rfl | exact absurd rfl h
def L2.all (v : L1) : L2 := .mk v v v v v v v v v v v v v v v v
theorem L2.get_all (d : D16) (v : L1) : L2.get d (L2.all v) = v := by cases d <;> rfl
def L3.g0 (r : L3) : L2 := r.a0
def L3.g1 (r : L3) : L2 := r.a1
def L3.g2 (r : L3) : L2 := r.a2
def L3.g3 (r : L3) : L2 := r.a3
def L3.g4 (r : L3) : L2 := r.a4
def L3.g5 (r : L3) : L2 := r.a5
def L3.g6 (r : L3) : L2 := r.a6
def L3.g7 (r : L3) : L2 := r.a7
def L3.g8 (r : L3) : L2 := r.a8
def L3.g9 (r : L3) : L2 := r.a9
def L3.ga (r : L3) : L2 := r.aa
def L3.gb (r : L3) : L2 := r.ab
def L3.gc (r : L3) : L2 := r.ac
def L3.gd (r : L3) : L2 := r.ad
def L3.ge (r : L3) : L2 := r.ae
def L3.gf (r : L3) : L2 := r.af
def L3.s0 (v : L2) (r : L3) : L3 := L3.rec (motive := fun _ => L3) (fun _ a1 a2 a3 a4 a5 a6 a7 a8 a9 aa ab ac ad ae af => .mk v a1 a2 a3 a4 a5 a6 a7 a8 a9 aa ab ac ad ae af) r
def L3.s1 (v : L2) (r : L3) : L3 := L3.rec (motive := fun _ => L3) (fun a0 _ a2 a3 a4 a5 a6 a7 a8 a9 aa ab ac ad ae af => .mk a0 v a2 a3 a4 a5 a6 a7 a8 a9 aa ab ac ad ae af) r
def L3.s2 (v : L2) (r : L3) : L3 := L3.rec (motive := fun _ => L3) (fun a0 a1 _ a3 a4 a5 a6 a7 a8 a9 aa ab ac ad ae af => .mk a0 a1 v a3 a4 a5 a6 a7 a8 a9 aa ab ac ad ae af) r
def L3.s3 (v : L2) (r : L3) : L3 := L3.rec (motive := fun _ => L3) (fun a0 a1 a2 _ a4 a5 a6 a7 a8 a9 aa ab ac ad ae af => .mk a0 a1 a2 v a4 a5 a6 a7 a8 a9 aa ab ac ad ae af) r
def L3.s4 (v : L2) (r : L3) : L3 := L3.rec (motive := fun _ => L3) (fun a0 a1 a2 a3 _ a5 a6 a7 a8 a9 aa ab ac ad ae af => .mk a0 a1 a2 a3 v a5 a6 a7 a8 a9 aa ab ac ad ae af) r
def L3.s5 (v : L2) (r : L3) : L3 := L3.rec (motive := fun _ => L3) (fun a0 a1 a2 a3 a4 _ a6 a7 a8 a9 aa ab ac ad ae af => .mk a0 a1 a2 a3 a4 v a6 a7 a8 a9 aa ab ac ad ae af) r
def L3.s6 (v : L2) (r : L3) : L3 := L3.rec (motive := fun _ => L3) (fun a0 a1 a2 a3 a4 a5 _ a7 a8 a9 aa ab ac ad ae af => .mk a0 a1 a2 a3 a4 a5 v a7 a8 a9 aa ab ac ad ae af) r
def L3.s7 (v : L2) (r : L3) : L3 := L3.rec (motive := fun _ => L3) (fun a0 a1 a2 a3 a4 a5 a6 _ a8 a9 aa ab ac ad ae af => .mk a0 a1 a2 a3 a4 a5 a6 v a8 a9 aa ab ac ad ae af) r
def L3.s8 (v : L2) (r : L3) : L3 := L3.rec (motive := fun _ => L3) (fun a0 a1 a2 a3 a4 a5 a6 a7 _ a9 aa ab ac ad ae af => .mk a0 a1 a2 a3 a4 a5 a6 a7 v a9 aa ab ac ad ae af) r
def L3.s9 (v : L2) (r : L3) : L3 := L3.rec (motive := fun _ => L3) (fun a0 a1 a2 a3 a4 a5 a6 a7 a8 _ aa ab ac ad ae af => .mk a0 a1 a2 a3 a4 a5 a6 a7 a8 v aa ab ac ad ae af) r
def L3.sa (v : L2) (r : L3) : L3 := L3.rec (motive := fun _ => L3) (fun a0 a1 a2 a3 a4 a5 a6 a7 a8 a9 _ ab ac ad ae af => .mk a0 a1 a2 a3 a4 a5 a6 a7 a8 a9 v ab ac ad ae af) r
def L3.sb (v : L2) (r : L3) : L3 := L3.rec (motive := fun _ => L3) (fun a0 a1 a2 a3 a4 a5 a6 a7 a8 a9 aa _ ac ad ae af => .mk a0 a1 a2 a3 a4 a5 a6 a7 a8 a9 aa v ac ad ae af) r
def L3.sc (v : L2) (r : L3) : L3 := L3.rec (motive := fun _ => L3) (fun a0 a1 a2 a3 a4 a5 a6 a7 a8 a9 aa ab _ ad ae af => .mk a0 a1 a2 a3 a4 a5 a6 a7 a8 a9 aa ab v ad ae af) r
def L3.sd (v : L2) (r : L3) : L3 := L3.rec (motive := fun _ => L3) (fun a0 a1 a2 a3 a4 a5 a6 a7 a8 a9 aa ab ac _ ae af => .mk a0 a1 a2 a3 a4 a5 a6 a7 a8 a9 aa ab ac v ae af) r
def L3.se (v : L2) (r : L3) : L3 := L3.rec (motive := fun _ => L3) (fun a0 a1 a2 a3 a4 a5 a6 a7 a8 a9 aa ab ac ad _ af => .mk a0 a1 a2 a3 a4 a5 a6 a7 a8 a9 aa ab ac ad v af) r
def L3.sf (v : L2) (r : L3) : L3 := L3.rec (motive := fun _ => L3) (fun a0 a1 a2 a3 a4 a5 a6 a7 a8 a9 aa ab ac ad ae _ => .mk a0 a1 a2 a3 a4 a5 a6 a7 a8 a9 aa ab ac ad ae v) r
def L3.get (d : D16) : L3 → L2 := D16.rec (motive := fun _ => L3 → L2) L3.g0 L3.g1 L3.g2 L3.g3 L3.g4 L3.g5 L3.g6 L3.g7 L3.g8 L3.g9 L3.ga L3.gb L3.gc L3.gd L3.ge L3.gf d
def L3.set (d : D16) : L2 → L3 → L3 := D16.rec (motive := fun _ => L2 → L3 → L3) L3.s0 L3.s1 L3.s2 L3.s3 L3.s4 L3.s5 L3.s6 L3.s7 L3.s8 L3.s9 L3.sa L3.sb L3.sc L3.sd L3.se L3.sf d
theorem L3.get_set (d : D16) (v : L2) (r : L3) : L3.get d (L3.set d v r) = v := by cases r; cases d <;> rfl
theorem L3.get_set_ne (d c : D16) (h : d ≠ c) (v : L2) (r : L3) : L3.get d (L3.set c v r) = L3.get d r := by cases r; cases d <;> cases c <;> first | rfl | exact absurd rfl h
def L3.all (v : L2) : L3 := .mk v v v v v v v v v v v v v v v v
theorem L3.get_all (d : D16) (v : L2) : L3.get d (L3.all v) = v := by cases d <;> rfl
def L4.g0 (r : L4) : L3 := r.a0
def L4.g1 (r : L4) : L3 := r.a1
def L4.g2 (r : L4) : L3 := r.a2
def L4.g3 (r : L4) : L3 := r.a3
def L4.g4 (r : L4) : L3 := r.a4
def L4.g5 (r : L4) : L3 := r.a5
def L4.g6 (r : L4) : L3 := r.a6
def L4.g7 (r : L4) : L3 := r.a7
def L4.g8 (r : L4) : L3 := r.a8
def L4.g9 (r : L4) : L3 := r.a9
def L4.ga (r : L4) : L3 := r.aa
def L4.gb (r : L4) : L3 := r.ab
def L4.gc (r : L4) : L3 := r.ac
def L4.gd (r : L4) : L3 := r.ad
def L4.ge (r : L4) : L3 := r.ae
def L4.gf (r : L4) : L3 := r.af
def L4.s0 (v : L3) (r : L4) : L4 := L4.rec (motive := fun _ => L4) (fun _ a1 a2 a3 a4 a5 a6 a7 a8 a9 aa ab ac ad ae af => .mk v a1 a2 a3 a4 a5 a6 a7 a8 a9 aa ab ac ad ae af) r
def L4.s1 (v : L3) (r : L4) : L4 := L4.rec (motive := fun _ => L4) (fun a0 _ a2 a3 a4 a5 a6 a7 a8 a9 aa ab ac ad ae af => .mk a0 v a2 a3 a4 a5 a6 a7 a8 a9 aa ab ac ad ae af) r
def L4.s2 (v : L3) (r : L4) : L4 := L4.rec (motive := fun _ => L4) (fun a0 a1 _ a3 a4 a5 a6 a7 a8 a9 aa ab ac ad ae af => .mk a0 a1 v a3 a4 a5 a6 a7 a8 a9 aa ab ac ad ae af) r
def L4.s3 (v : L3) (r : L4) : L4 := L4.rec (motive := fun _ => L4) (fun a0 a1 a2 _ a4 a5 a6 a7 a8 a9 aa ab ac ad ae af => .mk a0 a1 a2 v a4 a5 a6 a7 a8 a9 aa ab ac ad ae af) r
def L4.s4 (v : L3) (r : L4) : L4 := L4.rec (motive := fun _ => L4) (fun a0 a1 a2 a3 _ a5 a6 a7 a8 a9 aa ab ac ad ae af => .mk a0 a1 a2 a3 v a5 a6 a7 a8 a9 aa ab ac ad ae af) r
def L4.s5 (v : L3) (r : L4) : L4 := L4.rec (motive := fun _ => L4) (fun a0 a1 a2 a3 a4 _ a6 a7 a8 a9 aa ab ac ad ae af => .mk a0 a1 a2 a3 a4 v a6 a7 a8 a9 aa ab ac ad ae af) r
def L4.s6 (v : L3) (r : L4) : L4 := L4.rec (motive := fun _ => L4) (fun a0 a1 a2 a3 a4 a5 _ a7 a8 a9 aa ab ac ad ae af => .mk a0 a1 a2 a3 a4 a5 v a7 a8 a9 aa ab ac ad ae af) r
def L4.s7 (v : L3) (r : L4) : L4 := L4.rec (motive := fun _ => L4) (fun a0 a1 a2 a3 a4 a5 a6 _ a8 a9 aa ab ac ad ae af => .mk a0 a1 a2 a3 a4 a5 a6 v a8 a9 aa ab ac ad ae af) r
def L4.s8 (v : L3) (r : L4) : L4 := L4.rec (motive := fun _ => L4) (fun a0 a1 a2 a3 a4 a5 a6 a7 _ a9 aa ab ac ad ae af => .mk a0 a1 a2 a3 a4 a5 a6 a7 v a9 aa ab ac ad ae af) r
def L4.s9 (v : L3) (r : L4) : L4 := L4.rec (motive := fun _ => L4) (fun a0 a1 a2 a3 a4 a5 a6 a7 a8 _ aa ab ac ad ae af => .mk a0 a1 a2 a3 a4 a5 a6 a7 a8 v aa ab ac ad ae af) r
def L4.sa (v : L3) (r : L4) : L4 := L4.rec (motive := fun _ => L4) (fun a0 a1 a2 a3 a4 a5 a6 a7 a8 a9 _ ab ac ad ae af => .mk a0 a1 a2 a3 a4 a5 a6 a7 a8 a9 v ab ac ad ae af) r
def L4.sb (v : L3) (r : L4) : L4 := L4.rec (motive := fun _ => L4) (fun a0 a1 a2 a3 a4 a5 a6 a7 a8 a9 aa _ ac ad ae af => .mk a0 a1 a2 a3 a4 a5 a6 a7 a8 a9 aa v ac ad ae af) r
def L4.sc (v : L3) (r : L4) : L4 := L4.rec (motive := fun _ => L4) (fun a0 a1 a2 a3 a4 a5 a6 a7 a8 a9 aa ab _ ad ae af => .mk a0 a1 a2 a3 a4 a5 a6 a7 a8 a9 aa ab v ad ae af) r
def L4.sd (v : L3) (r : L4) : L4 := L4.rec (motive := fun _ => L4) (fun a0 a1 a2 a3 a4 a5 a6 a7 a8 a9 aa ab ac _ ae af => .mk a0 a1 a2 a3 a4 a5 a6 a7 a8 a9 aa ab ac v ae af) r
def L4.se (v : L3) (r : L4) : L4 := L4.rec (motive := fun _ => L4) (fun a0 a1 a2 a3 a4 a5 a6 a7 a8 a9 aa ab ac ad _ af => .mk a0 a1 a2 a3 a4 a5 a6 a7 a8 a9 aa ab ac ad v af) r
def L4.sf (v : L3) (r : L4) : L4 := L4.rec (motive := fun _ => L4) (fun a0 a1 a2 a3 a4 a5 a6 a7 a8 a9 aa ab ac ad ae _ => .mk a0 a1 a2 a3 a4 a5 a6 a7 a8 a9 aa ab ac ad ae v) r
def L4.get (d : D16) : L4 → L3 := D16.rec (motive := fun _ => L4 → L3) L4.g0 L4.g1 L4.g2 L4.g3 L4.g4 L4.g5 L4.g6 L4.g7 L4.g8 L4.g9 L4.ga L4.gb L4.gc L4.gd L4.ge L4.gf d
def L4.set (d : D16) : L3 → L4 → L4 := D16.rec (motive := fun _ => L3 → L4 → L4) L4.s0 L4.s1 L4.s2 L4.s3 L4.s4 L4.s5 L4.s6 L4.s7 L4.s8 L4.s9 L4.sa L4.sb L4.sc L4.sd L4.se L4.sf d
theorem L4.get_set (d : D16) (v : L3) (r : L4) : L4.get d (L4.set d v r) = v := by cases r; cases d <;> rfl
theorem L4.get_set_ne (d c : D16) (h : d ≠ c) (v : L3) (r : L4) : L4.get d (L4.set c v r) = L4.get d r := by cases r; cases d <;> cases c <;> first | rfl | exact absurd rfl h
def L4.all (v : L3) : L4 := .mk v v v v v v v v v v v v v v v v
theorem L4.get_all (d : D16) (v : L3) : L4.get d (L4.all v) = v := by cases d <;> rfl
def L4.empty : L4 := .all (.all (.all (.all none)))
def L4.at (i : Nat) (t : L4) : Option Obj := L1.get (dig (Nat.mod i 16)) (L2.get (dig (Nat.mod (Nat.div i 16) 16)) (L3.get (dig (Nat.mod (Nat.div i 256) 16)) (L4.get (dig (Nat.div i 4096)) t)))
def L4.put (i : Nat) (v : Option Obj) (t : L4) : L4 :=
  L4.set (dig (Nat.div i 4096)) (L3.set (dig (Nat.mod (Nat.div i 256) 16)) (L2.set (dig (Nat.mod (Nat.div i 16) 16)) (L1.set (dig (Nat.mod i 16)) v (L2.get (dig (Nat.mod (Nat.div i 16) 16)) (L3.get (dig (Nat.mod (Nat.div i 256) 16)) (L4.get (dig (Nat.div i 4096)) t))))
    (L3.get (dig (Nat.mod (Nat.div i 256) 16)) (L4.get (dig (Nat.div i 4096)) t))) (L4.get (dig (Nat.div i 4096)) t)) t
theorem L4.at_put (i : Nat) (v : Option Obj) (t : L4) : (t.put i v).at i = v := by simp only [L4.at, L4.put, L4.get_set, L3.get_set, L2.get_set, L1.get_set]
theorem L4.at_put_ne {i j : Nat} (hi : i < 65536) (hj : j < 65536) (hn : i ≠ j) (v : Option Obj) (t : L4) : (t.put j v).at i = t.at i := by
  simp only [L4.at, L4.put]
  by_cases h4 : dig (Nat.div i 4096) = dig (Nat.div j 4096)
  · have e4 := dig_inj (by show i / 4096 < 16; omega) (by show j / 4096 < 16; omega) h4
    rw [h4, L4.get_set]
    by_cases h3 : dig (Nat.mod (Nat.div i 256) 16) = dig (Nat.mod (Nat.div j 256) 16)
    · have e3 := dig_inj (by show i / 256 % 16 < 16; omega) (by show j / 256 % 16 < 16; omega) h3
      rw [h3, L3.get_set]
      by_cases h2 : dig (Nat.mod (Nat.div i 16) 16) = dig (Nat.mod (Nat.div j 16) 16)
      · have e2 := dig_inj (by show i / 16 % 16 < 16; omega) (by show j / 16 % 16 < 16; omega) h2
        rw [h2, L2.get_set]
        by_cases h1 : dig (Nat.mod i 16) = dig (Nat.mod j 16)
        · have e1 := dig_inj (by show i % 16 < 16; omega) (by show j % 16 < 16; omega) h1
          exfalso
          apply hn
          have f4 : i / 4096 = j / 4096 := e4
          have f3 : i / 256 % 16 = j / 256 % 16 := e3
          have f2 : i / 16 % 16 = j / 16 % 16 := e2
          have f1 : i % 16 = j % 16 := e1
          omega
        · rw [L1.get_set_ne _ _ h1]
      · rw [L2.get_set_ne _ _ h2]
    · rw [L3.get_set_ne _ _ h3]
  · rw [L4.get_set_ne _ _ h4]
theorem L4.at_empty (i : Nat) : L4.empty.at i = none := by simp only [L4.at, L4.empty, L4.get_all, L3.get_all, L2.get_all, L1.get_all]

structure T16 where
  t : L4
  big : Nat → Option Obj
namespace T16
def leaf : T16 := ⟨L4.empty, fun _ => none⟩
def get (t : T16) (n : Nat) : Option Obj := Bool.rec (t.big n) (t.t.at n) (Nat.ble n 65535)
def put (t : T16) (n : Nat) (v : Option Obj) : T16 := Bool.rec (T16.mk t.t (fun k => Bool.rec (t.big k) v (Nat.beq k n))) (T16.mk (t.t.put n v) t.big) (Nat.ble n 65535)
theorem get_put (t : T16) (n : Nat) (v : Option Obj) : (t.put n v).get n = v := by
  unfold get put
  cases hb : Nat.ble n 65535 with
  | true => simp only [L4.at_put]
  | false => simp only [beq1, decide_true]
theorem get_put_ne (t : T16) {m n : Nat} (h : n ≠ m) (v : Option Obj) : (t.put n v).get m = t.get m := by
  unfold get put
  cases hn : Nat.ble n 65535 with
  | true =>
    cases hm : Nat.ble m 65535 with
    | true =>
      have h1 := Nat.le_of_ble_eq_true hn
      have h2 := Nat.le_of_ble_eq_true hm
      exact L4.at_put_ne (by omega) (by omega) (Ne.symm h) _ _
    | false => rfl
  | false =>
    cases hm : Nat.ble m 65535 with
    | true => rfl
    | false =>
      simp only [beq1]
      rw [show decide (m = n) = false by simpa using Ne.symm h]
theorem get_leaf (n : Nat) : leaf.get n = none := by
  unfold get leaf
  cases Nat.ble n 65535 <;> simp [L4.at_empty]
end T16

/-- log: what has been written or forgotten. -/
structure Heap where
  next : Nat
  tr : T16
  log : List Nat

namespace Heap
def get (h : Heap) (i : Nat) : Option Obj := h.tr.get i
def put (h : Heap) (i : Nat) (o : Option Obj) : Heap := ⟨h.next, h.tr.put i o, i :: h.log⟩
def set (h : Heap) (i : Nat) (o : Obj) : Heap := h.put i (some o)
def del (h : Heap) (i : Nat) : Heap := h.put i none
def alloc (h : Heap) (o : Obj) : Heap := ⟨Nat.succ h.next, h.tr.put h.next (some o), h.log⟩
theorem get_put (h : Heap) (i : Nat) (o : Option Obj) : (h.put i o).get i = o := T16.get_put _ _ _
theorem get_put_ne (h : Heap) {i j : Nat} (o : Option Obj) (hn : i ≠ j) : (h.put i o).get j = h.get j := T16.get_put_ne _ hn _
theorem get_set (h : Heap) (i : Nat) (o : Obj) : (h.set i o).get i = some o := get_put _ _ _
theorem get_set_ne (h : Heap) {i j : Nat} (o : Obj) (hn : i ≠ j) : (h.set i o).get j = h.get j := get_put_ne _ _ hn
theorem get_del (h : Heap) (i : Nat) : (h.del i).get i = none := get_put _ _ _
theorem get_del_ne (h : Heap) {i j : Nat} (hn : i ≠ j) : (h.del i).get j = h.get j := get_put_ne _ _ hn
theorem get_alloc (h : Heap) (o : Obj) : (h.alloc o).get h.next = some o := T16.get_put _ _ _
theorem get_alloc_ne (h : Heap) {j : Nat} (o : Obj) (hn : h.next ≠ j) : (h.alloc o).get j = h.get j := T16.get_put_ne _ hn _
theorem next_set (h : Heap) (i : Nat) (o : Obj) : (h.set i o).next = h.next := rfl
theorem next_del (h : Heap) (i : Nat) : (h.del i).next = h.next := rfl
theorem next_alloc (h : Heap) (o : Obj) : (h.alloc o).next = h.next + 1 := rfl
end Heap

/-! ### How abstract memory stands to the world -/

def entryOf (φ : List Emb) (x : AV × AV × Nat) (y : MapEntry) : Prop := V φ x.1 y.key ∧ V φ x.2.1 y.val ∧ x.2.2 = y.born
def Entries (φ : List Emb) : List (AV × AV × Nat) → List MapEntry → Prop
  | [], l => l = []
  | x :: xs, l => ∃ y ys, l = y :: ys ∧ entryOf φ x y ∧ Entries φ xs ys

/-- No cell of a block of n cells is frozen. -/
def Thawed (fr : Nat × Nat) (n : Nat) : Prop := ∀ k, k < n → ¬ (fr.1 ≤ k ∧ k < fr.2)
theorem Thawed.zero (n : Nat) : Thawed (0, 0) n := fun k _ h => by simp at h

/-- What is known of an own block: nothing in it is frozen; its type, if that is known. -/
def OwnOk (k : Kind) (t : TypeId) (fr : Nat × Nat) (off size len : Nat) : Prop := (∀ u, k = .own u → fr = (0, 0) ∧ ∀ v, u = some v → t = v) ∧ (∀ u, k = .var u → fr = (0, 0) ∧ t = u ∧ off = 0 ∧ size = len)
theorem OwnOk.mk (t : TypeId) (off size len : Nat) : OwnOk (.own (some t)) t (0, 0) off size len := ⟨fun u hu => by cases hu; exact ⟨rfl, fun v hv => by cases hv; rfl⟩, fun u hu => by cases hu⟩
theorem OwnOk.whole (t : TypeId) (n : Nat) : OwnOk (.var t) t (0, 0) 0 n n := ⟨(fun u hu => by cases hu), fun u hu => by cases hu; exact ⟨rfl, rfl, rfl, rfl⟩⟩
theorem OwnOk.free {k : Kind} {t : TypeId} {fr : Nat × Nat} {off size len : Nat} (h : ∀ u, k ≠ .own u) (h' : ∀ u, k ≠ .var u) : OwnOk k t fr off size len := ⟨fun u hu => absurd hu (h u), fun u hu => absurd hu (h' u)⟩
theorem OwnOk.thawed {k : Kind} {t : TypeId} {fr : Nat × Nat} {off size len : Nat} (h : OwnOk k t fr off size len) (hk : k ≠ .ro) (hs : k = .str → Thawed fr size) : Thawed fr size := by
  cases k with
  | own u => rw [(h.1 u rfl).1]; exact Thawed.zero _
  | var u => rw [(h.2 u rfl).1]; exact Thawed.zero _
  | str => exact hs rfl
  | ro => exact absurd rfl hk

/-- The births of a map's entries. -/
def Births (c : Nat) (es : List (AV × AV × Nat)) : Prop := (∀ x ∈ es, x.2.2 < c) ∧ (es.map fun x => x.2.2).Nodup

def O (φ : List Emb) (e : Emb) (w : World) : Obj → Prop
  | .cells cs k => ∃ C t fr, w.heap[e.blk]? = some (.cells C t fr) ∧ e.off + e.tot = C.size ∧ cs.length ≤ e.tot ∧
      OwnOk k t fr e.off C.size cs.length ∧ (k = .str → Thawed fr C.size) ∧ Vs φ cs ((C.toList.drop e.off).take cs.length)
  | .map es clock => ∃ ES, w.heap[e.blk]? = some (.map ES clock) ∧ Entries φ es ES.toList
  | .bag kvs clock => ∃ ES es, w.heap[e.blk]? = some (.map ES clock) ∧ Entries φ es ES.toList ∧ (es.map fun x => (x.1, x.2.1)).Perm kvs ∧ Births clock es
  | .chan cap buf closed => ∃ B s r, w.heap[e.blk]? = some (.chan cap B closed s r false) ∧ Vs φ buf B.toList
  | .iter m since seen cur last => ∃ m' S, e.off = 0 ∧ w.heap[e.blk]? = some (.mapIter m' since S last) ∧ (∀ b, b ∈ S.toList ↔ b ∈ seen) ∧ (∀ b, cur = some b → S.back? = some b) ∧ (match m with | none => m' = none | some i => ∃ em, φ[i]? = some em ∧ m' = some em.blk)
  | .siter s pos => e.off = 0 ∧ w.heap[e.blk]? = some (.stringIter ⟨s.toArray⟩ pos)
  | .loop state pending n env params assign body defers => ∃ fn T ed, w.heap[e.blk]? = some (.loop { state, pending, fn, tmps := T, params, assign, body, defers := ed.blk }) ∧ T.size = n ∧ VE φ env T ∧ φ[defers]? = some ed
  | .defs => w.heap[e.blk]? = some (.deferred (some []))

structure R (P : Program) (φ : List Emb) (h : Heap) (w0 w : World) : Prop where
  below : Below w0.heap.size w0 w
  len : φ.length = h.next
  objs : ∀ i o, h.get i = some o → ∃ e, φ[i]? = some e ∧ O φ e w o ∧ (o.isOwn = true → w0.heap.size ≤ e.blk)
  sep : ∀ i j oi oj ei ej, i ≠ j → h.get i = some oi → h.get j = some oj → φ[i]? = some ei → φ[j]? = some ej → oi.isOwn = true → ei.blk ≠ ej.blk
  glob : ∀ g, g < P.globals.size → ∃ n, φ[g]? = some ⟨g, 0, n⟩

theorem Entries.up {φ φ' : List Emb} (h : Up φ φ') : ∀ (es : List (AV × AV × Nat)) (l : List MapEntry), Entries φ es l → Entries φ' es l
  | [], _, he => by simpa [Entries] using he
  | x :: xs, _, he => by
    simp only [Entries] at he ⊢
    obtain ⟨y, ys, rfl, ⟨h1, h2, h3⟩, he⟩ := he
    exact ⟨y, ys, rfl, ⟨V.up h _ _ h1, V.up h _ _ h2, h3⟩, Entries.up h _ _ he⟩
theorem O.up {φ φ' : List Emb} (h : Up φ φ') {e : Emb} {w : World} {o : Obj} (ho : O φ e w o) : O φ' e w o := by
  cases o with
  | cells cs k =>
    obtain ⟨C, t, fr, h1, h2, h3, h4, h5, h6⟩ := ho
    exact ⟨C, t, fr, h1, h2, h3, h4, h5, Vs.up h _ _ h6⟩
  | map es c =>
    obtain ⟨ES, h1, h2⟩ := ho
    exact ⟨ES, h1, Entries.up h _ _ h2⟩
  | bag es c =>
    obtain ⟨ES, es', h1, h2, h3⟩ := ho
    exact ⟨ES, es', h1, Entries.up h _ _ h2, h3⟩
  | chan c b cl =>
    obtain ⟨B, s, r, h1, h2⟩ := ho
    exact ⟨B, s, r, h1, Vs.up h _ _ h2⟩
  | iter m a b c d =>
    obtain ⟨m', S, h0, h1, hs, hc, h2⟩ := ho
    refine ⟨m', S, h0, h1, hs, hc, ?_⟩
    cases m with
    | none => exact h2
    | some i => obtain ⟨em, h3, h4⟩ := h2; exact ⟨em, h.get h3, h4⟩
  | siter a b => exact ho
  | loop a b c d f g i j =>
    obtain ⟨fn, T, ed, h1, h2, h3, h4⟩ := ho
    exact ⟨fn, T, ed, h1, h2, h3.up h, h.get h4⟩
  | defs => exact ho
theorem O.same {φ : List Emb} {e : Emb} {w w' : World} {o : Obj} (hb : w'.heap[e.blk]? = w.heap[e.blk]?) (ho : O φ e w o) : O φ e w' o := by
  cases o with
  | cells cs k =>
    obtain ⟨C, t, fr, h1, h⟩ := ho
    exact ⟨C, t, fr, hb.trans h1, h⟩
  | map es c =>
    obtain ⟨ES, h1, h2⟩ := ho
    exact ⟨ES, hb.trans h1, h2⟩
  | bag es c =>
    obtain ⟨ES, es', h1, h2⟩ := ho
    exact ⟨ES, es', hb.trans h1, h2⟩
  | chan c b cl =>
    obtain ⟨B, s, r, h1, h2⟩ := ho
    exact ⟨B, s, r, hb.trans h1, h2⟩
  | iter m a b c d => obtain ⟨m', S, h0, h1, h2⟩ := ho; exact ⟨m', S, h0, hb.trans h1, h2⟩
  | siter a b => exact ⟨ho.1, hb.trans ho.2⟩
  | loop a b c d f g i j => obtain ⟨fn, T, ed, h1, h2⟩ := ho; exact ⟨fn, T, ed, hb.trans h1, h2⟩
  | defs => exact hb.trans ho
theorem O.lt {φ : List Emb} {e : Emb} {w : World} {o : Obj} (ho : O φ e w o) : e.blk < w.heap.size := by
  cases o with
  | cells cs k => obtain ⟨C, t, fr, h1, h⟩ := ho; exact (Array.getElem?_eq_some_iff.1 h1).1
  | map es c => obtain ⟨ES, h1, h⟩ := ho; exact (Array.getElem?_eq_some_iff.1 h1).1
  | bag es c => obtain ⟨ES, es', h1, h⟩ := ho; exact (Array.getElem?_eq_some_iff.1 h1).1
  | chan c b cl => obtain ⟨B, s, r, h1, h⟩ := ho; exact (Array.getElem?_eq_some_iff.1 h1).1
  | iter m a b c d => obtain ⟨m', S, h0, h1, h2⟩ := ho; exact (Array.getElem?_eq_some_iff.1 h1).1
  | siter a b => exact (Array.getElem?_eq_some_iff.1 ho.2).1
  | loop a b c d f g i j => obtain ⟨fn, T, ed, h1, h2⟩ := ho; exact (Array.getElem?_eq_some_iff.1 h1).1
  | defs => exact (Array.getElem?_eq_some_iff.1 ho).1

/-- The world draws; nothing else. -/
theorem R.drew {P : Program} {φ : List Emb} {h : Heap} {w0 w w' : World} (hR : R P φ h w0 w) (hh : w'.heap = w.heap) (hos : w'.os = w.os) (ht : w'.tape = w.tape) (hout : w'.output = w.output) : R P φ h w0 w' where
  below := hR.below.trans ⟨hos, ht, hout, by simp [hh], fun k _ => by rw [hh]⟩
  len := hR.len
  objs := fun i o hi => by
    obtain ⟨e, he, ho, hw⟩ := hR.objs i o hi
    exact ⟨e, he, O.same (by rw [hh]) ho, hw⟩
  sep := hR.sep
  glob := hR.glob

theorem R.lt {P : Program} {φ : List Emb} {h : Heap} {w0 w : World} (hR : R P φ h w0 w) {i : Nat} {o : Obj} (hi : h.get i = some o) : i < h.next := by
  obtain ⟨e, he, _⟩ := hR.objs i o hi
  rw [← hR.len]
  exact (List.getElem?_eq_some_iff.1 he).1

/-- A new object, in a block that no other object lies in. -/
theorem R.allocAt {P : Program} {φ : List Emb} {h : Heap} {w0 w w' : World} (hR : R P φ h w0 w) (o : Obj) (e' : Emb)
    (hfree : ∀ j oj ej, h.get j = some oj → φ[j]? = some ej → ej.blk ≠ e'.blk) (hbase : w0.heap.size ≤ e'.blk) (hb : ∀ k, k ≠ e'.blk → k < w.heap.size → w'.heap[k]? = w.heap[k]?) (hsz : w.heap.size ≤ w'.heap.size)
    (hos : w'.os = w.os) (ht : w'.tape = w.tape) (hout : w'.output = w.output)
    (ho : O (φ ++ [e']) e' w' o) : R P (φ ++ [e']) (h.alloc o) w0 w' where
  below := hR.below.trans ⟨hos, ht, hout, hsz, fun k hk => hb k (by omega) (by have := hR.below.size; omega)⟩
  len := by simp [hR.len, Heap.next_alloc]
  objs := fun i o' hi => by
    by_cases hn : h.next = i
    · subst hn
      rw [Heap.get_alloc] at hi
      cases hi
      refine ⟨e', ?_, ho, fun _ => hbase⟩
      rw [← hR.len]
      simp
    · rw [Heap.get_alloc_ne _ _ hn] at hi
      obtain ⟨e, he, hoo, hw⟩ := hR.objs i o' hi
      exact ⟨e, Up.get (Up.snoc _ _) he, O.same (hb _ (hfree i o' e hi he) hoo.lt) (O.up (Up.snoc _ _) hoo), hw⟩
  sep := fun i j oi oj ei ej hij hi hj hei hej hown => by
    have key : ∀ k o' e, h.next ≠ k → (h.alloc o).get k = some o' → (φ ++ [e'])[k]? = some e → h.get k = some o' ∧ φ[k]? = some e := by
      intro k o' e hk h1 h2
      rw [Heap.get_alloc_ne _ _ hk] at h1
      obtain ⟨e'', he', hoo, _⟩ := hR.objs k o' h1
      have := Up.get (Up.snoc φ e') he'
      rw [this] at h2
      cases h2
      exact ⟨h1, he'⟩
    have last : ∀ k e, h.next = k → (φ ++ [e'])[k]? = some e → e.blk = e'.blk := by
      intro k e hk h2
      subst hk
      rw [← hR.len] at h2
      simp at h2
      rw [← h2]
    by_cases hin : h.next = i
    · have h1 := last i ei hin hei
      obtain ⟨a1, a2⟩ := key j oj ej (by omega) hj hej
      rw [h1]
      exact Ne.symm (hfree j oj ej a1 a2)
    · obtain ⟨a1, a2⟩ := key i oi ei hin hi hei
      by_cases hjn : h.next = j
      · have h1 := last j ej hjn hej
        rw [h1]
        exact hfree i oi ei a1 a2
      · obtain ⟨b1, b2⟩ := key j oj ej hjn hj hej
        exact hR.sep i j oi oj ei ej hij a1 b1 a2 b2 hown
  glob := fun g hg => by
    obtain ⟨m, hm⟩ := hR.glob g hg
    exact ⟨m, Up.get (Up.snoc _ _) hm⟩

/-- A new object in a new block. -/
theorem R.alloc {P : Program} {φ : List Emb} {h : Heap} {w0 w w' : World} (hR : R P φ h w0 w) (o : Obj) (x : Go.Obj) (n : Nat)
    (hh : w'.heap = w.heap.push x) (hos : w'.os = w.os) (ht : w'.tape = w.tape) (hout : w'.output = w.output)
    (ho : O (φ ++ [⟨w.heap.size, 0, n⟩]) ⟨w.heap.size, 0, n⟩ w' o) : R P (φ ++ [⟨w.heap.size, 0, n⟩]) (h.alloc o) w0 w' :=
  R.allocAt hR o _ (fun j oj ej hj hej => by
      obtain ⟨e, he, hoo, _⟩ := hR.objs j oj hj
      rw [he] at hej
      cases hej
      exact Nat.ne_of_lt hoo.lt)
    hR.below.size (fun k hk hlt => by rw [hh, Array.getElem?_push, if_neg (by omega)]) (by simp [hh]) hos ht hout ho

/-- An own object is changed, in its own block. -/
theorem R.set {P : Program} {φ : List Emb} {h : Heap} {w0 w w' : World} (hR : R P φ h w0 w) {i : Nat} {o o' : Obj} {e : Emb} (hi : h.get i = some o) (hown : o.isOwn = true) (he : φ[i]? = some e)
    (hb : ∀ k, k ≠ e.blk → w'.heap[k]? = w.heap[k]?) (hsz : w'.heap.size = w.heap.size) (hos : w'.os = w.os) (ht : w'.tape = w.tape) (hout : w'.output = w.output)
    (ho : O φ e w' o') : R P φ (h.set i o') w0 w' where
  below := hR.below.trans ⟨hos, ht, hout, by omega, fun k hk => by
    refine hb k ?_
    obtain ⟨e', he', _, hw⟩ := hR.objs i o hi
    rw [he] at he'
    cases he'
    have := hw hown
    omega⟩
  len := by simp [hR.len, Heap.next_set]
  objs := fun j oj hj => by
    by_cases hij : i = j
    · subst hij
      rw [Heap.get_set] at hj
      cases hj
      obtain ⟨e', he', _, hw⟩ := hR.objs i o hi
      rw [he] at he'
      cases he'
      exact ⟨e, he, ho, fun _ => hw hown⟩
    · rw [Heap.get_set_ne _ _ hij] at hj
      obtain ⟨ej, hej, hoj, hwj⟩ := hR.objs j oj hj
      exact ⟨ej, hej, O.same (hb _ (Ne.symm (hR.sep i j o oj e ej hij hi hj he hej hown))) hoj, hwj⟩
  sep := fun a b oa ob ea eb hab ha hb' hea heb hoa => by
    have key : ∀ k ok, (h.set i o').get k = some ok → ∃ ok', h.get k = some ok' ∧ (k ≠ i → ok' = ok) ∧ (k = i → ok' = o) := by
      intro k ok hk
      by_cases hki : i = k
      · subst hki
        exact ⟨o, hi, fun hx => absurd rfl hx, fun _ => rfl⟩
      · rw [Heap.get_set_ne _ _ hki] at hk
        exact ⟨ok, hk, fun _ => rfl, fun hx => absurd hx.symm hki⟩
    obtain ⟨oa', a1, a2, a3⟩ := key a oa ha
    obtain ⟨ob', b1, b2, b3⟩ := key b ob hb'
    by_cases hai : a = i
    · have := a3 hai
      subst this
      exact hR.sep a b oa' ob' ea eb hab a1 b1 hea heb hown
    · have := a2 hai
      subst this
      exact hR.sep a b oa' ob' ea eb hab a1 b1 hea heb hoa
  glob := hR.glob

/-- An object is forgotten. -/
theorem R.del {P : Program} {φ : List Emb} {h : Heap} {w0 w : World} (hR : R P φ h w0 w) (i : Nat) : R P φ (h.del i) w0 w where
  below := hR.below
  len := by simp [hR.len, Heap.next_del]
  objs := fun j oj hj => by
    by_cases hij : i = j
    · subst hij; rw [Heap.get_del] at hj; cases hj
    · rw [Heap.get_del_ne _ hij] at hj; exact hR.objs j oj hj
  sep := fun a b oa ob ea eb hab ha hb hea heb hoa => by
    have key : ∀ k ok, (h.del i).get k = some ok → h.get k = some ok := by
      intro k ok hk
      by_cases hki : i = k
      · subst hki; rw [Heap.get_del] at hk; cases hk
      · rwa [Heap.get_del_ne _ hki] at hk
    exact hR.sep a b oa ob ea eb hab (key _ _ ha) (key _ _ hb) hea heb hoa
  glob := hR.glob
end Go.Am

noncomputable section
namespace Go.Am
def Row.q0 (r : Row) : AV := Row.rec (motive := fun _ => AV) (fun x _ _ _ _ _ _ _ _ _ _ _ _ _ _ _ => x) r
def Row.q1 (r : Row) : AV := Row.rec (motive := fun _ => AV) (fun _ x _ _ _ _ _ _ _ _ _ _ _ _ _ _ => x) r
def Row.q2 (r : Row) : AV := Row.rec (motive := fun _ => AV) (fun _ _ x _ _ _ _ _ _ _ _ _ _ _ _ _ => x) r
def Row.q3 (r : Row) : AV := Row.rec (motive := fun _ => AV) (fun _ _ _ x _ _ _ _ _ _ _ _ _ _ _ _ => x) r
def Row.q4 (r : Row) : AV := Row.rec (motive := fun _ => AV) (fun _ _ _ _ x _ _ _ _ _ _ _ _ _ _ _ => x) r
def Row.q5 (r : Row) : AV := Row.rec (motive := fun _ => AV) (fun _ _ _ _ _ x _ _ _ _ _ _ _ _ _ _ => x) r
def Row.q6 (r : Row) : AV := Row.rec (motive := fun _ => AV) (fun _ _ _ _ _ _ x _ _ _ _ _ _ _ _ _ => x) r
def Row.q7 (r : Row) : AV := Row.rec (motive := fun _ => AV) (fun _ _ _ _ _ _ _ x _ _ _ _ _ _ _ _ => x) r
def Row.q8 (r : Row) : AV := Row.rec (motive := fun _ => AV) (fun _ _ _ _ _ _ _ _ x _ _ _ _ _ _ _ => x) r
def Row.q9 (r : Row) : AV := Row.rec (motive := fun _ => AV) (fun _ _ _ _ _ _ _ _ _ x _ _ _ _ _ _ => x) r
def Row.qa (r : Row) : AV := Row.rec (motive := fun _ => AV) (fun _ _ _ _ _ _ _ _ _ _ x _ _ _ _ _ => x) r
def Row.qb (r : Row) : AV := Row.rec (motive := fun _ => AV) (fun _ _ _ _ _ _ _ _ _ _ _ x _ _ _ _ => x) r
def Row.qc (r : Row) : AV := Row.rec (motive := fun _ => AV) (fun _ _ _ _ _ _ _ _ _ _ _ _ x _ _ _ => x) r
def Row.qd (r : Row) : AV := Row.rec (motive := fun _ => AV) (fun _ _ _ _ _ _ _ _ _ _ _ _ _ x _ _ => x) r
def Row.qe (r : Row) : AV := Row.rec (motive := fun _ => AV) (fun _ _ _ _ _ _ _ _ _ _ _ _ _ _ x _ => x) r
def Row.qf (r : Row) : AV := Row.rec (motive := fun _ => AV) (fun _ _ _ _ _ _ _ _ _ _ _ _ _ _ _ x => x) r
def Env.q0 (f : Row → AV) (e : Env) : AV := Env.rec (motive := fun _ => AV) (fun x _ _ _ _ _ _ _ _ _ _ _ _ _ _ _ => f x) e
def Env.q1 (f : Row → AV) (e : Env) : AV := Env.rec (motive := fun _ => AV) (fun _ x _ _ _ _ _ _ _ _ _ _ _ _ _ _ => f x) e
def Env.q2 (f : Row → AV) (e : Env) : AV := Env.rec (motive := fun _ => AV) (fun _ _ x _ _ _ _ _ _ _ _ _ _ _ _ _ => f x) e
def Env.q3 (f : Row → AV) (e : Env) : AV := Env.rec (motive := fun _ => AV) (fun _ _ _ x _ _ _ _ _ _ _ _ _ _ _ _ => f x) e
def Env.q4 (f : Row → AV) (e : Env) : AV := Env.rec (motive := fun _ => AV) (fun _ _ _ _ x _ _ _ _ _ _ _ _ _ _ _ => f x) e
def Env.q5 (f : Row → AV) (e : Env) : AV := Env.rec (motive := fun _ => AV) (fun _ _ _ _ _ x _ _ _ _ _ _ _ _ _ _ => f x) e
def Env.q6 (f : Row → AV) (e : Env) : AV := Env.rec (motive := fun _ => AV) (fun _ _ _ _ _ _ x _ _ _ _ _ _ _ _ _ => f x) e
def Env.q7 (f : Row → AV) (e : Env) : AV := Env.rec (motive := fun _ => AV) (fun _ _ _ _ _ _ _ x _ _ _ _ _ _ _ _ => f x) e
def Env.q8 (f : Row → AV) (e : Env) : AV := Env.rec (motive := fun _ => AV) (fun _ _ _ _ _ _ _ _ x _ _ _ _ _ _ _ => f x) e
def Env.q9 (f : Row → AV) (e : Env) : AV := Env.rec (motive := fun _ => AV) (fun _ _ _ _ _ _ _ _ _ x _ _ _ _ _ _ => f x) e
def Env.qa (f : Row → AV) (e : Env) : AV := Env.rec (motive := fun _ => AV) (fun _ _ _ _ _ _ _ _ _ _ x _ _ _ _ _ => f x) e
def Env.qb (f : Row → AV) (e : Env) : AV := Env.rec (motive := fun _ => AV) (fun _ _ _ _ _ _ _ _ _ _ _ x _ _ _ _ => f x) e
def Env.qc (f : Row → AV) (e : Env) : AV := Env.rec (motive := fun _ => AV) (fun _ _ _ _ _ _ _ _ _ _ _ _ x _ _ _ => f x) e
def Env.qd (f : Row → AV) (e : Env) : AV := Env.rec (motive := fun _ => AV) (fun _ _ _ _ _ _ _ _ _ _ _ _ _ x _ _ => f x) e
def Env.qe (f : Row → AV) (e : Env) : AV := Env.rec (motive := fun _ => AV) (fun _ _ _ _ _ _ _ _ _ _ _ _ _ _ x _ => f x) e
def Env.qf (f : Row → AV) (e : Env) : AV := Env.rec (motive := fun _ => AV) (fun _ _ _ _ _ _ _ _ _ _ _ _ _ _ _ x => f x) e
def Env.u0 (f : Row → Row) (e : Env) : Env := Env.rec (motive := fun _ => Env) (fun a0 a1 a2 a3 a4 a5 a6 a7 a8 a9 aa ab ac ad ae af => .mk (f a0) a1 a2 a3 a4 a5 a6 a7 a8 a9 aa ab ac ad ae af) e
def Env.u1 (f : Row → Row) (e : Env) : Env := Env.rec (motive := fun _ => Env) (fun a0 a1 a2 a3 a4 a5 a6 a7 a8 a9 aa ab ac ad ae af => .mk a0 (f a1) a2 a3 a4 a5 a6 a7 a8 a9 aa ab ac ad ae af) e
def Env.u2 (f : Row → Row) (e : Env) : Env := Env.rec (motive := fun _ => Env) (fun a0 a1 a2 a3 a4 a5 a6 a7 a8 a9 aa ab ac ad ae af => .mk a0 a1 (f a2) a3 a4 a5 a6 a7 a8 a9 aa ab ac ad ae af) e
def Env.u3 (f : Row → Row) (e : Env) : Env := Env.rec (motive := fun _ => Env) (fun a0 a1 a2 a3 a4 a5 a6 a7 a8 a9 aa ab ac ad ae af => .mk a0 a1 a2 (f a3) a4 a5 a6 a7 a8 a9 aa ab ac ad ae af) e
def Env.u4 (f : Row → Row) (e : Env) : Env := Env.rec (motive := fun _ => Env) (fun a0 a1 a2 a3 a4 a5 a6 a7 a8 a9 aa ab ac ad ae af => .mk a0 a1 a2 a3 (f a4) a5 a6 a7 a8 a9 aa ab ac ad ae af) e
def Env.u5 (f : Row → Row) (e : Env) : Env := Env.rec (motive := fun _ => Env) (fun a0 a1 a2 a3 a4 a5 a6 a7 a8 a9 aa ab ac ad ae af => .mk a0 a1 a2 a3 a4 (f a5) a6 a7 a8 a9 aa ab ac ad ae af) e
def Env.u6 (f : Row → Row) (e : Env) : Env := Env.rec (motive := fun _ => Env) (fun a0 a1 a2 a3 a4 a5 a6 a7 a8 a9 aa ab ac ad ae af => .mk a0 a1 a2 a3 a4 a5 (f a6) a7 a8 a9 aa ab ac ad ae af) e
def Env.u7 (f : Row → Row) (e : Env) : Env := Env.rec (motive := fun _ => Env) (fun a0 a1 a2 a3 a4 a5 a6 a7 a8 a9 aa ab ac ad ae af => .mk a0 a1 a2 a3 a4 a5 a6 (f a7) a8 a9 aa ab ac ad ae af) e
def Env.u8 (f : Row → Row) (e : Env) : Env := Env.rec (motive := fun _ => Env) (fun a0 a1 a2 a3 a4 a5 a6 a7 a8 a9 aa ab ac ad ae af => .mk a0 a1 a2 a3 a4 a5 a6 a7 (f a8) a9 aa ab ac ad ae af) e
def Env.u9 (f : Row → Row) (e : Env) : Env := Env.rec (motive := fun _ => Env) (fun a0 a1 a2 a3 a4 a5 a6 a7 a8 a9 aa ab ac ad ae af => .mk a0 a1 a2 a3 a4 a5 a6 a7 a8 (f a9) aa ab ac ad ae af) e
def Env.ua (f : Row → Row) (e : Env) : Env := Env.rec (motive := fun _ => Env) (fun a0 a1 a2 a3 a4 a5 a6 a7 a8 a9 aa ab ac ad ae af => .mk a0 a1 a2 a3 a4 a5 a6 a7 a8 a9 (f aa) ab ac ad ae af) e
def Env.ub (f : Row → Row) (e : Env) : Env := Env.rec (motive := fun _ => Env) (fun a0 a1 a2 a3 a4 a5 a6 a7 a8 a9 aa ab ac ad ae af => .mk a0 a1 a2 a3 a4 a5 a6 a7 a8 a9 aa (f ab) ac ad ae af) e
def Env.uc (f : Row → Row) (e : Env) : Env := Env.rec (motive := fun _ => Env) (fun a0 a1 a2 a3 a4 a5 a6 a7 a8 a9 aa ab ac ad ae af => .mk a0 a1 a2 a3 a4 a5 a6 a7 a8 a9 aa ab (f ac) ad ae af) e
def Env.ud (f : Row → Row) (e : Env) : Env := Env.rec (motive := fun _ => Env) (fun a0 a1 a2 a3 a4 a5 a6 a7 a8 a9 aa ab ac ad ae af => .mk a0 a1 a2 a3 a4 a5 a6 a7 a8 a9 aa ab ac (f ad) ae af) e
def Env.ue (f : Row → Row) (e : Env) : Env := Env.rec (motive := fun _ => Env) (fun a0 a1 a2 a3 a4 a5 a6 a7 a8 a9 aa ab ac ad ae af => .mk a0 a1 a2 a3 a4 a5 a6 a7 a8 a9 aa ab ac ad (f ae) af) e
def Env.uf (f : Row → Row) (e : Env) : Env := Env.rec (motive := fun _ => Env) (fun a0 a1 a2 a3 a4 a5 a6 a7 a8 a9 aa ab ac ad ae af => .mk a0 a1 a2 a3 a4 a5 a6 a7 a8 a9 aa ab ac ad ae (f af)) e
inductive Src where
  | mk (g : Env → AV)
inductive Dst where
  | mk (p : AV → Env → Env)
def srcRow0 (d : D16) : Src := D16.rec (.mk (Env.q0 Row.q0)) (.mk (Env.q0 Row.q1)) (.mk (Env.q0 Row.q2)) (.mk (Env.q0 Row.q3)) (.mk (Env.q0 Row.q4)) (.mk (Env.q0 Row.q5)) (.mk (Env.q0 Row.q6)) (.mk (Env.q0 Row.q7)) (.mk (Env.q0 Row.q8)) (.mk (Env.q0 Row.q9)) (.mk (Env.q0 Row.qa)) (.mk (Env.q0 Row.qb)) (.mk (Env.q0 Row.qc)) (.mk (Env.q0 Row.qd)) (.mk (Env.q0 Row.qe)) (.mk (Env.q0 Row.qf)) d
def dstRow0 (d : D16) : Dst := D16.rec (.mk fun v => Env.u0 (Row.s0 v)) (.mk fun v => Env.u0 (Row.s1 v)) (.mk fun v => Env.u0 (Row.s2 v)) (.mk fun v => Env.u0 (Row.s3 v)) (.mk fun v => Env.u0 (Row.s4 v)) (.mk fun v => Env.u0 (Row.s5 v)) (.mk fun v => Env.u0 (Row.s6 v)) (.mk fun v => Env.u0 (Row.s7 v)) (.mk fun v => Env.u0 (Row.s8 v)) (.mk fun v => Env.u0 (Row.s9 v)) (.mk fun v => Env.u0 (Row.sa v)) (.mk fun v => Env.u0 (Row.sb v)) (.mk fun v => Env.u0 (Row.sc v)) (.mk fun v => Env.u0 (Row.sd v)) (.mk fun v => Env.u0 (Row.se v)) (.mk fun v => Env.u0 (Row.sf v)) d
def srcRow1 (d : D16) : Src := D16.rec (.mk (Env.q1 Row.q0)) (.mk (Env.q1 Row.q1)) (.mk (Env.q1 Row.q2)) (.mk (Env.q1 Row.q3)) (.mk (Env.q1 Row.q4)) (.mk (Env.q1 Row.q5)) (.mk (Env.q1 Row.q6)) (.mk (Env.q1 Row.q7)) (.mk (Env.q1 Row.q8)) (.mk (Env.q1 Row.q9)) (.mk (Env.q1 Row.qa)) (.mk (Env.q1 Row.qb)) (.mk (Env.q1 Row.qc)) (.mk (Env.q1 Row.qd)) (.mk (Env.q1 Row.qe)) (.mk (Env.q1 Row.qf)) d
def dstRow1 (d : D16) : Dst := D16.rec (.mk fun v => Env.u1 (Row.s0 v)) (.mk fun v => Env.u1 (Row.s1 v)) (.mk fun v => Env.u1 (Row.s2 v)) (.mk fun v => Env.u1 (Row.s3 v)) (.mk fun v => Env.u1 (Row.s4 v)) (.mk fun v => Env.u1 (Row.s5 v)) (.mk fun v => Env.u1 (Row.s6 v)) (.mk fun v => Env.u1 (Row.s7 v)) (.mk fun v => Env.u1 (Row.s8 v)) (.mk fun v => Env.u1 (Row.s9 v)) (.mk fun v => Env.u1 (Row.sa v)) (.mk fun v => Env.u1 (Row.sb v)) (.mk fun v => Env.u1 (Row.sc v)) (.mk fun v => Env.u1 (Row.sd v)) (.mk fun v => Env.u1 (Row.se v)) (.mk fun v => Env.u1 (Row.sf v)) d
def srcRow2 (d : D16) : Src := D16.rec (.mk (Env.q2 Row.q0)) (.mk (Env.q2 Row.q1)) (.mk (Env.q2 Row.q2)) (.mk (Env.q2 Row.q3)) (.mk (Env.q2 Row.q4)) (.mk (Env.q2 Row.q5)) (.mk (Env.q2 Row.q6)) (.mk (Env.q2 Row.q7)) (.mk (Env.q2 Row.q8)) (.mk (Env.q2 Row.q9)) (.mk (Env.q2 Row.qa)) (.mk (Env.q2 Row.qb)) (.mk (Env.q2 Row.qc)) (.mk (Env.q2 Row.qd)) (.mk (Env.q2 Row.qe)) (.mk (Env.q2 Row.qf)) d
def dstRow2 (d : D16) : Dst := D16.rec (.mk fun v => Env.u2 (Row.s0 v)) (.mk fun v => Env.u2 (Row.s1 v)) (.mk fun v => Env.u2 (Row.s2 v)) (.mk fun v => Env.u2 (Row.s3 v)) (.mk fun v => Env.u2 (Row.s4 v)) (.mk fun v => Env.u2 (Row.s5 v)) (.mk fun v => Env.u2 (Row.s6 v)) (.mk fun v => Env.u2 (Row.s7 v)) (.mk fun v => Env.u2 (Row.s8 v)) (.mk fun v => Env.u2 (Row.s9 v)) (.mk fun v => Env.u2 (Row.sa v)) (.mk fun v => Env.u2 (Row.sb v)) (.mk fun v => Env.u2 (Row.sc v)) (.mk fun v => Env.u2 (Row.sd v)) (.mk fun v => Env.u2 (Row.se v)) (.mk fun v => Env.u2 (Row.sf v)) d
def srcRow3 (d : D16) : Src := D16.rec (.mk (Env.q3 Row.q0)) (.mk (Env.q3 Row.q1)) (.mk (Env.q3 Row.q2)) (.mk (Env.q3 Row.q3)) (.mk (Env.q3 Row.q4)) (.mk (Env.q3 Row.q5)) (.mk (Env.q3 Row.q6)) (.mk (Env.q3 Row.q7)) (.mk (Env.q3 Row.q8)) (.mk (Env.q3 Row.q9)) (.mk (Env.q3 Row.qa)) (.mk (Env.q3 Row.qb)) (.mk (Env.q3 Row.qc)) (.mk (Env.q3 Row.qd)) (.mk (Env.q3 Row.qe)) (.mk (Env.q3 Row.qf)) d
def dstRow3 (d : D16) : Dst := D16.rec (.mk fun v => Env.u3 (Row.s0 v)) (.mk fun v => Env.u3 (Row.s1 v)) (.mk fun v => Env.u3 (Row.s2 v)) (.mk fun v => Env.u3 (Row.s3 v)) (.mk fun v => Env.u3 (Row.s4 v)) (.mk fun v => Env.u3 (Row.s5 v)) (.mk fun v => Env.u3 (Row.s6 v)) (.mk fun v => Env.u3 (Row.s7 v)) (.mk fun v => Env.u3 (Row.s8 v)) (.mk fun v => Env.u3 (Row.s9 v)) (.mk fun v => Env.u3 (Row.sa v)) (.mk fun v => Env.u3 (Row.sb v)) (.mk fun v => Env.u3 (Row.sc v)) (.mk fun v => Env.u3 (Row.sd v)) (.mk fun v => Env.u3 (Row.se v)) (.mk fun v => Env.u3 (Row.sf v)) d
def srcRow4 (d : D16) : Src := D16.rec (.mk (Env.q4 Row.q0)) (.mk (Env.q4 Row.q1)) (.mk (Env.q4 Row.q2)) (.mk (Env.q4 Row.q3)) (.mk (Env.q4 Row.q4)) (.mk (Env.q4 Row.q5)) (.mk (Env.q4 Row.q6)) (.mk (Env.q4 Row.q7)) (.mk (Env.q4 Row.q8)) (.mk (Env.q4 Row.q9)) (.mk (Env.q4 Row.qa)) (.mk (Env.q4 Row.qb)) (.mk (Env.q4 Row.qc)) (.mk (Env.q4 Row.qd)) (.mk (Env.q4 Row.qe)) (.mk (Env.q4 Row.qf)) d
def dstRow4 (d : D16) : Dst := D16.rec (.mk fun v => Env.u4 (Row.s0 v)) (.mk fun v => Env.u4 (Row.s1 v)) (.mk fun v => Env.u4 (Row.s2 v)) (.mk fun v => Env.u4 (Row.s3 v)) (.mk fun v => Env.u4 (Row.s4 v)) (.mk fun v => Env.u4 (Row.s5 v)) (.mk fun v => Env.u4 (Row.s6 v)) (.mk fun v => Env.u4 (Row.s7 v)) (.mk fun v => Env.u4 (Row.s8 v)) (.mk fun v => Env.u4 (Row.s9 v)) (.mk fun v => Env.u4 (Row.sa v)) (.mk fun v => Env.u4 (Row.sb v)) (.mk fun v => Env.u4 (Row.sc v)) (.mk fun v => Env.u4 (Row.sd v)) (.mk fun v => Env.u4 (Row.se v)) (.mk fun v => Env.u4 (Row.sf v)) d
def srcRow5 (d : D16) : Src := D16.rec (.mk (Env.q5 Row.q0)) (.mk (Env.q5 Row.q1)) (.mk (Env.q5 Row.q2)) (.mk (Env.q5 Row.q3)) (.mk (Env.q5 Row.q4)) (.mk (Env.q5 Row.q5)) (.mk (Env.q5 Row.q6)) (.mk (Env.q5 Row.q7)) (.mk (Env.q5 Row.q8)) (.mk (Env.q5 Row.q9)) (.mk (Env.q5 Row.qa)) (.mk (Env.q5 Row.qb)) (.mk (Env.q5 Row.qc)) (.mk (Env.q5 Row.qd)) (.mk (Env.q5 Row.qe)) (.mk (Env.q5 Row.qf)) d
def dstRow5 (d : D16) : Dst := D16.rec (.mk fun v => Env.u5 (Row.s0 v)) (.mk fun v => Env.u5 (Row.s1 v)) (.mk fun v => Env.u5 (Row.s2 v)) (.mk fun v => Env.u5 (Row.s3 v)) (.mk fun v => Env.u5 (Row.s4 v)) (.mk fun v => Env.u5 (Row.s5 v)) (.mk fun v => Env.u5 (Row.s6 v)) (.mk fun v => Env.u5 (Row.s7 v)) (.mk fun v => Env.u5 (Row.s8 v)) (.mk fun v => Env.u5 (Row.s9 v)) (.mk fun v => Env.u5 (Row.sa v)) (.mk fun v => Env.u5 (Row.sb v)) (.mk fun v => Env.u5 (Row.sc v)) (.mk fun v => Env.u5 (Row.sd v)) (.mk fun v => Env.u5 (Row.se v)) (.mk fun v => Env.u5 (Row.sf v)) d
def srcRow6 (d : D16) : Src := D16.rec (.mk (Env.q6 Row.q0)) (.mk (Env.q6 Row.q1)) (.mk (Env.q6 Row.q2)) (.mk (Env.q6 Row.q3)) (.mk (Env.q6 Row.q4)) (.mk (Env.q6 Row.q5)) (.mk (Env.q6 Row.q6)) (.mk (Env.q6 Row.q7)) (.mk (Env.q6 Row.q8)) (.mk (Env.q6 Row.q9)) (.mk (Env.q6 Row.qa)) (.mk (Env.q6 Row.qb)) (.mk (Env.q6 Row.qc)) (.mk (Env.q6 Row.qd)) (.mk (Env.q6 Row.qe)) (.mk (Env.q6 Row.qf)) d
def dstRow6 (d : D16) : Dst := D16.rec (.mk fun v => Env.u6 (Row.s0 v)) (.mk fun v => Env.u6 (Row.s1 v)) (.mk fun v => Env.u6 (Row.s2 v)) (.mk fun v => Env.u6 (Row.s3 v)) (.mk fun v => Env.u6 (Row.s4 v)) (.mk fun v => Env.u6 (Row.s5 v)) (.mk fun v => Env.u6 (Row.s6 v)) (.mk fun v => Env.u6 (Row.s7 v)) (.mk fun v => Env.u6 (Row.s8 v)) (.mk fun v => Env.u6 (Row.s9 v)) (.mk fun v => Env.u6 (Row.sa v)) (.mk fun v => Env.u6 (Row.sb v)) (.mk fun v => Env.u6 (Row.sc v)) (.mk fun v => Env.u6 (Row.sd v)) (.mk fun v => Env.u6 (Row.se v)) (.mk fun v => Env.u6 (Row.sf v)) d
def srcRow7 (d : D16) : Src := D16.rec (.mk (Env.q7 Row.q0)) (.mk (Env.q7 Row.q1)) (.mk (Env.q7 Row.q2)) (.mk (Env.q7 Row.q3)) (.mk (Env.q7 Row.q4)) (.mk (Env.q7 Row.q5)) (.mk (Env.q7 Row.q6)) (.mk (Env.q7 Row.q7)) (.mk (Env.q7 Row.q8)) (.mk (Env.q7 Row.q9)) (.mk (Env.q7 Row.qa)) (.mk (Env.q7 Row.qb)) (.mk (Env.q7 Row.qc)) (.mk (Env.q7 Row.qd)) (.mk (Env.q7 Row.qe)) (.mk (Env.q7 Row.qf)) d
def dstRow7 (d : D16) : Dst := D16.rec (.mk fun v => Env.u7 (Row.s0 v)) (.mk fun v => Env.u7 (Row.s1 v)) (.mk fun v => Env.u7 (Row.s2 v)) (.mk fun v => Env.u7 (Row.s3 v)) (.mk fun v => Env.u7 (Row.s4 v)) (.mk fun v => Env.u7 (Row.s5 v)) (.mk fun v => Env.u7 (Row.s6 v)) (.mk fun v => Env.u7 (Row.s7 v)) (.mk fun v => Env.u7 (Row.s8 v)) (.mk fun v => Env.u7 (Row.s9 v)) (.mk fun v => Env.u7 (Row.sa v)) (.mk fun v => Env.u7 (Row.sb v)) (.mk fun v => Env.u7 (Row.sc v)) (.mk fun v => Env.u7 (Row.sd v)) (.mk fun v => Env.u7 (Row.se v)) (.mk fun v => Env.u7 (Row.sf v)) d
def srcRow8 (d : D16) : Src := D16.rec (.mk (Env.q8 Row.q0)) (.mk (Env.q8 Row.q1)) (.mk (Env.q8 Row.q2)) (.mk (Env.q8 Row.q3)) (.mk (Env.q8 Row.q4)) (.mk (Env.q8 Row.q5)) (.mk (Env.q8 Row.q6)) (.mk (Env.q8 Row.q7)) (.mk (Env.q8 Row.q8)) (.mk (Env.q8 Row.q9)) (.mk (Env.q8 Row.qa)) (.mk (Env.q8 Row.qb)) (.mk (Env.q8 Row.qc)) (.mk (Env.q8 Row.qd)) (.mk (Env.q8 Row.qe)) (.mk (Env.q8 Row.qf)) d
def dstRow8 (d : D16) : Dst := D16.rec (.mk fun v => Env.u8 (Row.s0 v)) (.mk fun v => Env.u8 (Row.s1 v)) (.mk fun v => Env.u8 (Row.s2 v)) (.mk fun v => Env.u8 (Row.s3 v)) (.mk fun v => Env.u8 (Row.s4 v)) (.mk fun v => Env.u8 (Row.s5 v)) (.mk fun v => Env.u8 (Row.s6 v)) (.mk fun v => Env.u8 (Row.s7 v)) (.mk fun v => Env.u8 (Row.s8 v)) (.mk fun v => Env.u8 (Row.s9 v)) (.mk fun v => Env.u8 (Row.sa v)) (.mk fun v => Env.u8 (Row.sb v)) (.mk fun v => Env.u8 (Row.sc v)) (.mk fun v => Env.u8 (Row.sd v)) (.mk fun v => Env.u8 (Row.se v)) (.mk fun v => Env.u8 (Row.sf v)) d
def srcRow9 (d : D16) : Src := D16.rec (.mk (Env.q9 Row.q0)) (.mk (Env.q9 Row.q1)) (.mk (Env.q9 Row.q2)) (.mk (Env.q9 Row.q3)) (.mk (Env.q9 Row.q4)) (.mk (Env.q9 Row.q5)) (.mk (Env.q9 Row.q6)) (.mk (Env.q9 Row.q7)) (.mk (Env.q9 Row.q8)) (.mk (Env.q9 Row.q9)) (.mk (Env.q9 Row.qa)) (.mk (Env.q9 Row.qb)) (.mk (Env.q9 Row.qc)) (.mk (Env.q9 Row.qd)) (.mk (Env.q9 Row.qe)) (.mk (Env.q9 Row.qf)) d
def dstRow9 (d : D16) : Dst := D16.rec (.mk fun v => Env.u9 (Row.s0 v)) (.mk fun v => Env.u9 (Row.s1 v)) (.mk fun v => Env.u9 (Row.s2 v)) (.mk fun v => Env.u9 (Row.s3 v)) (.mk fun v => Env.u9 (Row.s4 v)) (.mk fun v => Env.u9 (Row.s5 v)) (.mk fun v => Env.u9 (Row.s6 v)) (.mk fun v => Env.u9 (Row.s7 v)) (.mk fun v => Env.u9 (Row.s8 v)) (.mk fun v => Env.u9 (Row.s9 v)) (.mk fun v => Env.u9 (Row.sa v)) (.mk fun v => Env.u9 (Row.sb v)) (.mk fun v => Env.u9 (Row.sc v)) (.mk fun v => Env.u9 (Row.sd v)) (.mk fun v => Env.u9 (Row.se v)) (.mk fun v => Env.u9 (Row.sf v)) d
def srcRowa (d : D16) : Src := D16.rec (.mk (Env.qa Row.q0)) (.mk (Env.qa Row.q1)) (.mk (Env.qa Row.q2)) (.mk (Env.qa Row.q3)) (.mk (Env.qa Row.q4)) (.mk (Env.qa Row.q5)) (.mk (Env.qa Row.q6)) (.mk (Env.qa Row.q7)) (.mk (Env.qa Row.q8)) (.mk (Env.qa Row.q9)) (.mk (Env.qa Row.qa)) (.mk (Env.qa Row.qb)) (.mk (Env.qa Row.qc)) (.mk (Env.qa Row.qd)) (.mk (Env.qa Row.qe)) (.mk (Env.qa Row.qf)) d
def dstRowa (d : D16) : Dst := D16.rec (.mk fun v => Env.ua (Row.s0 v)) (.mk fun v => Env.ua (Row.s1 v)) (.mk fun v => Env.ua (Row.s2 v)) (.mk fun v => Env.ua (Row.s3 v)) (.mk fun v => Env.ua (Row.s4 v)) (.mk fun v => Env.ua (Row.s5 v)) (.mk fun v => Env.ua (Row.s6 v)) (.mk fun v => Env.ua (Row.s7 v)) (.mk fun v => Env.ua (Row.s8 v)) (.mk fun v => Env.ua (Row.s9 v)) (.mk fun v => Env.ua (Row.sa v)) (.mk fun v => Env.ua (Row.sb v)) (.mk fun v => Env.ua (Row.sc v)) (.mk fun v => Env.ua (Row.sd v)) (.mk fun v => Env.ua (Row.se v)) (.mk fun v => Env.ua (Row.sf v)) d
def srcRowb (d : D16) : Src := D16.rec (.mk (Env.qb Row.q0)) (.mk (Env.qb Row.q1)) (.mk (Env.qb Row.q2)) (.mk (Env.qb Row.q3)) (.mk (Env.qb Row.q4)) (.mk (Env.qb Row.q5)) (.mk (Env.qb Row.q6)) (.mk (Env.qb Row.q7)) (.mk (Env.qb Row.q8)) (.mk (Env.qb Row.q9)) (.mk (Env.qb Row.qa)) (.mk (Env.qb Row.qb)) (.mk (Env.qb Row.qc)) (.mk (Env.qb Row.qd)) (.mk (Env.qb Row.qe)) (.mk (Env.qb Row.qf)) d
def dstRowb (d : D16) : Dst := D16.rec (.mk fun v => Env.ub (Row.s0 v)) (.mk fun v => Env.ub (Row.s1 v)) (.mk fun v => Env.ub (Row.s2 v)) (.mk fun v => Env.ub (Row.s3 v)) (.mk fun v => Env.ub (Row.s4 v)) (.mk fun v => Env.ub (Row.s5 v)) (.mk fun v => Env.ub (Row.s6 v)) (.mk fun v => Env.ub (Row.s7 v)) (.mk fun v => Env.ub (Row.s8 v)) (.mk fun v => Env.ub (Row.s9 v)) (.mk fun v => Env.ub (Row.sa v)) (.mk fun v => Env.ub (Row.sb v)) (.mk fun v => Env.ub (Row.sc v)) (.mk fun v => Env.ub (Row.sd v)) (.mk fun v => Env.ub (Row.se v)) (.mk fun v => Env.ub (Row.sf v)) d
def srcRowc (d : D16) : Src := D16.rec (.mk (Env.qc Row.q0)) (.mk (Env.qc Row.q1)) (.mk (Env.qc Row.q2)) (.mk (Env.qc Row.q3)) (.mk (Env.qc Row.q4)) (.mk (Env.qc Row.q5)) (.mk (Env.qc Row.q6)) (.mk (Env.qc Row.q7)) (.mk (Env.qc Row.q8)) (.mk (Env.qc Row.q9)) (.mk (Env.qc Row.qa)) (.mk (Env.qc Row.qb)) (.mk (Env.qc Row.qc)) (.mk (Env.qc Row.qd)) (.mk (Env.qc Row.qe)) (.mk (Env.qc Row.qf)) d
def dstRowc (d : D16) : Dst := D16.rec (.mk fun v => Env.uc (Row.s0 v)) (.mk fun v => Env.uc (Row.s1 v)) (.mk fun v => Env.uc (Row.s2 v)) (.mk fun v => Env.uc (Row.s3 v)) (.mk fun v => Env.uc (Row.s4 v)) (.mk fun v => Env.uc (Row.s5 v)) (.mk fun v => Env.uc (Row.s6 v)) (.mk fun v => Env.uc (Row.s7 v)) (.mk fun v => Env.uc (Row.s8 v)) (.mk fun v => Env.uc (Row.s9 v)) (.mk fun v => Env.uc (Row.sa v)) (.mk fun v => Env.uc (Row.sb v)) (.mk fun v => Env.uc (Row.sc v)) (.mk fun v => Env.uc (Row.sd v)) (.mk fun v => Env.uc (Row.se v)) (.mk fun v => Env.uc (Row.sf v)) d
def srcRowd (d : D16) : Src := D16.rec (.mk (Env.qd Row.q0)) (.mk (Env.qd Row.q1)) (.mk (Env.qd Row.q2)) (.mk (Env.qd Row.q3)) (.mk (Env.qd Row.q4)) (.mk (Env.qd Row.q5)) (.mk (Env.qd Row.q6)) (.mk (Env.qd Row.q7)) (.mk (Env.qd Row.q8)) (.mk (Env.qd Row.q9)) (.mk (Env.qd Row.qa)) (.mk (Env.qd Row.qb)) (.mk (Env.qd Row.qc)) (.mk (Env.qd Row.qd)) (.mk (Env.qd Row.qe)) (.mk (Env.qd Row.qf)) d
def dstRowd (d : D16) : Dst := D16.rec (.mk fun v => Env.ud (Row.s0 v)) (.mk fun v => Env.ud (Row.s1 v)) (.mk fun v => Env.ud (Row.s2 v)) (.mk fun v => Env.ud (Row.s3 v)) (.mk fun v => Env.ud (Row.s4 v)) (.mk fun v => Env.ud (Row.s5 v)) (.mk fun v => Env.ud (Row.s6 v)) (.mk fun v => Env.ud (Row.s7 v)) (.mk fun v => Env.ud (Row.s8 v)) (.mk fun v => Env.ud (Row.s9 v)) (.mk fun v => Env.ud (Row.sa v)) (.mk fun v => Env.ud (Row.sb v)) (.mk fun v => Env.ud (Row.sc v)) (.mk fun v => Env.ud (Row.sd v)) (.mk fun v => Env.ud (Row.se v)) (.mk fun v => Env.ud (Row.sf v)) d
def srcRowe (d : D16) : Src := D16.rec (.mk (Env.qe Row.q0)) (.mk (Env.qe Row.q1)) (.mk (Env.qe Row.q2)) (.mk (Env.qe Row.q3)) (.mk (Env.qe Row.q4)) (.mk (Env.qe Row.q5)) (.mk (Env.qe Row.q6)) (.mk (Env.qe Row.q7)) (.mk (Env.qe Row.q8)) (.mk (Env.qe Row.q9)) (.mk (Env.qe Row.qa)) (.mk (Env.qe Row.qb)) (.mk (Env.qe Row.qc)) (.mk (Env.qe Row.qd)) (.mk (Env.qe Row.qe)) (.mk (Env.qe Row.qf)) d
def dstRowe (d : D16) : Dst := D16.rec (.mk fun v => Env.ue (Row.s0 v)) (.mk fun v => Env.ue (Row.s1 v)) (.mk fun v => Env.ue (Row.s2 v)) (.mk fun v => Env.ue (Row.s3 v)) (.mk fun v => Env.ue (Row.s4 v)) (.mk fun v => Env.ue (Row.s5 v)) (.mk fun v => Env.ue (Row.s6 v)) (.mk fun v => Env.ue (Row.s7 v)) (.mk fun v => Env.ue (Row.s8 v)) (.mk fun v => Env.ue (Row.s9 v)) (.mk fun v => Env.ue (Row.sa v)) (.mk fun v => Env.ue (Row.sb v)) (.mk fun v => Env.ue (Row.sc v)) (.mk fun v => Env.ue (Row.sd v)) (.mk fun v => Env.ue (Row.se v)) (.mk fun v => Env.ue (Row.sf v)) d
def srcRowf (d : D16) : Src := D16.rec (.mk (Env.qf Row.q0)) (.mk (Env.qf Row.q1)) (.mk (Env.qf Row.q2)) (.mk (Env.qf Row.q3)) (.mk (Env.qf Row.q4)) (.mk (Env.qf Row.q5)) (.mk (Env.qf Row.q6)) (.mk (Env.qf Row.q7)) (.mk (Env.qf Row.q8)) (.mk (Env.qf Row.q9)) (.mk (Env.qf Row.qa)) (.mk (Env.qf Row.qb)) (.mk (Env.qf Row.qc)) (.mk (Env.qf Row.qd)) (.mk (Env.qf Row.qe)) (.mk (Env.qf Row.qf)) d
def dstRowf (d : D16) : Dst := D16.rec (.mk fun v => Env.uf (Row.s0 v)) (.mk fun v => Env.uf (Row.s1 v)) (.mk fun v => Env.uf (Row.s2 v)) (.mk fun v => Env.uf (Row.s3 v)) (.mk fun v => Env.uf (Row.s4 v)) (.mk fun v => Env.uf (Row.s5 v)) (.mk fun v => Env.uf (Row.s6 v)) (.mk fun v => Env.uf (Row.s7 v)) (.mk fun v => Env.uf (Row.s8 v)) (.mk fun v => Env.uf (Row.s9 v)) (.mk fun v => Env.uf (Row.sa v)) (.mk fun v => Env.uf (Row.sb v)) (.mk fun v => Env.uf (Row.sc v)) (.mk fun v => Env.uf (Row.sd v)) (.mk fun v => Env.uf (Row.se v)) (.mk fun v => Env.uf (Row.sf v)) d
def srcTab (c : D16) : D16 → Src := D16.rec (motive := fun _ => D16 → Src) srcRow0 srcRow1 srcRow2 srcRow3 srcRow4 srcRow5 srcRow6 srcRow7 srcRow8 srcRow9 srcRowa srcRowb srcRowc srcRowd srcRowe srcRowf c
def dstTab (c : D16) : D16 → Dst := D16.rec (motive := fun _ => D16 → Dst) dstRow0 dstRow1 dstRow2 dstRow3 dstRow4 dstRow5 dstRow6 dstRow7 dstRow8 dstRow9 dstRowa dstRowb dstRowc dstRowd dstRowe dstRowf c
def Src.ev (s : Src) (e : Env) : AV := Src.rec (fun g => g e) s
def Dst.put (d : Dst) (v : AV) (e : Env) : Env := Dst.rec (fun p => p v e) d
theorem srcTab_ev (i j : D16) (e : Env) : (srcTab i j).ev e = e.at ⟨i, j⟩ := by
  cases e
  cases i <;> cases j <;> rfl
theorem dstTab_put (i j : D16) (v : AV) (e : Env) : (dstTab i j).put v e = e.put ⟨i, j⟩ v := by
  cases e
  cases i <;> cases j <;> rfl
end Go.Am
