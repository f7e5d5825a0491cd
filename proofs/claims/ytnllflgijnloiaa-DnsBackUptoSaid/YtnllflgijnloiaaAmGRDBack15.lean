/- Parts of the proof by the abstract machine: DFacts, DEnc, DBegin, DRec, DAlive, DRecB, DRight, DEncR, DRead. -/
import Derived.Test.YtnllflgijnloiaaChecked
import Derived.Test.YtnllflgijnloiaaAmGRDBack14
import Derived.Test.YtnllflgijnloiaaAmGRDBack12
set_option linter.unusedSimpArgs false
namespace Go.Am
open Go.RowKit Go.Proofs

theorem u24 : Try.prog.underlying 24 = some (.slice 9) := by kernel_rfl
theorem u27 : Try.prog.underlying 27 = some (.slice 42) := by kernel_rfl
theorem u30 : Try.prog.underlying 30 = some (.slice 5) := by kernel_rfl
theorem u54 : Try.prog.underlying 54 = some (.slice 3) := by kernel_rfl
theorem u3 : Try.prog.underlying 3 = some (.int .i64) := by kernel_rfl
theorem u4 : Try.prog.underlying 4 = some .bool := by kernel_rfl
theorem u5 : Try.prog.underlying 5 = some (.int .u8) := by kernel_rfl
theorem u9 : Try.prog.underlying 9 = some .string := by kernel_rfl
theorem u23 : Try.prog.underlying 23 = some (.int .u16) := by kernel_rfl
theorem u31 : Try.prog.underlying 31 = some (.int .i64) := by kernel_rfl
theorem u39 : Try.prog.underlying 39 = some (.int .u32) := by kernel_rfl
theorem u57 : Try.prog.underlying 57 = some (.int .u64) := by kernel_rfl
theorem s3 : sizeA Try.prog 3 = some 1 := by kernel_rfl
theorem s4 : sizeA Try.prog 4 = some 1 := by kernel_rfl
theorem s5 : sizeA Try.prog 5 = some 1 := by kernel_rfl
theorem s9 : sizeA Try.prog 9 = some 1 := by kernel_rfl
theorem s23 : sizeA Try.prog 23 = some 1 := by kernel_rfl
theorem s24 : sizeA Try.prog 24 = some 1 := by kernel_rfl
theorem s26 : sizeA Try.prog 26 = some 6 := by kernel_rfl
theorem s27 : sizeA Try.prog 27 = some 1 := by kernel_rfl
theorem s29 : sizeA Try.prog 29 = some 9 := by kernel_rfl
theorem s30 : sizeA Try.prog 30 = some 1 := by kernel_rfl
theorem s31 : sizeA Try.prog 31 = some 1 := by kernel_rfl
theorem s39 : sizeA Try.prog 39 = some 1 := by kernel_rfl
theorem s40 : sizeA Try.prog 40 = some 4 := by kernel_rfl
theorem s42 : sizeA Try.prog 42 = some 8 := by kernel_rfl
theorem s64 : sizeA Try.prog 64 = some 2 := by kernel_rfl
theorem s65 : sizeA Try.prog 65 = some 4 := by kernel_rfl
theorem a3 : aggA Try.prog 3 = some false := by kernel_rfl
theorem a4 : aggA Try.prog 4 = some false := by kernel_rfl
theorem a5 : aggA Try.prog 5 = some false := by kernel_rfl
theorem a9 : aggA Try.prog 9 = some false := by kernel_rfl
theorem a23 : aggA Try.prog 23 = some false := by kernel_rfl
theorem a24 : aggA Try.prog 24 = some false := by kernel_rfl
theorem a27 : aggA Try.prog 27 = some false := by kernel_rfl
theorem a30 : aggA Try.prog 30 = some false := by kernel_rfl
theorem a31 : aggA Try.prog 31 = some false := by kernel_rfl
theorem a39 : aggA Try.prog 39 = some false := by kernel_rfl
theorem a26 : aggA Try.prog 26 = some true := by kernel_rfl
theorem a29 : aggA Try.prog 29 = some true := by kernel_rfl
theorem a40 : aggA Try.prog 40 = some true := by kernel_rfl
theorem a42 : aggA Try.prog 42 = some true := by kernel_rfl
theorem a65 : aggA Try.prog 65 = some true := by kernel_rfl
theorem i5 : Try.prog.info? 5 = some Try.t5 := by kernel_rfl
theorem i9 : Try.prog.info? 9 = some Try.t9 := by kernel_rfl
theorem i42 : Try.prog.info? 42 = some Try.t42 := by kernel_rfl
theorem room5 {n : Nat} (hn : n ≤ 100000000000) : roomA Try.prog 5 n = true := room_of i5 (b := 1) (by kernel_rfl) (by omega) (by omega) (z := .int .u8 0) (by kernel_rfl) (by kernel_rfl) (by kernel_rfl)
theorem room9 {n : Nat} (hn : n ≤ 100000000) : roomA Try.prog 9 n = true := room_of i9 (b := 16) (by kernel_rfl) (by omega) (by omega) (z := .string ⟨#[]⟩) (by kernel_rfl) (by kernel_rfl) (by kernel_rfl)

/-- The fields of a query, of a reply, of a record, of a reader. -/
theorem fa26 {l : Loc} : fieldAddrA Try.prog 26 (.ptr (some l)) 0 = some (.ptr (some ⟨l.id, l.off + 0⟩)) ∧ fieldAddrA Try.prog 26 (.ptr (some l)) 1 = some (.ptr (some ⟨l.id, l.off + 1⟩)) ∧ fieldAddrA Try.prog 26 (.ptr (some l)) 2 = some (.ptr (some ⟨l.id, l.off + 2⟩)) ∧
    fieldAddrA Try.prog 26 (.ptr (some l)) 3 = some (.ptr (some ⟨l.id, l.off + 3⟩)) ∧ fieldAddrA Try.prog 26 (.ptr (some l)) 4 = some (.ptr (some ⟨l.id, l.off + 4⟩)) ∧ fieldAddrA Try.prog 26 (.ptr (some l)) 5 = some (.ptr (some ⟨l.id, l.off + 5⟩)) := by
  refine ⟨?_, ?_, ?_, ?_, ?_, ?_⟩ <;> kernel_rfl
theorem fa29 {l : Loc} : fieldAddrA Try.prog 29 (.ptr (some l)) 0 = some (.ptr (some ⟨l.id, l.off + 0⟩)) ∧ fieldAddrA Try.prog 29 (.ptr (some l)) 1 = some (.ptr (some ⟨l.id, l.off + 6⟩)) ∧ fieldAddrA Try.prog 29 (.ptr (some l)) 2 = some (.ptr (some ⟨l.id, l.off + 7⟩)) ∧
    fieldAddrA Try.prog 29 (.ptr (some l)) 3 = some (.ptr (some ⟨l.id, l.off + 8⟩)) := by
  refine ⟨?_, ?_, ?_, ?_⟩ <;> kernel_rfl
theorem fa42 {l : Loc} : fieldAddrA Try.prog 42 (.ptr (some l)) 0 = some (.ptr (some ⟨l.id, l.off + 0⟩)) ∧ fieldAddrA Try.prog 42 (.ptr (some l)) 1 = some (.ptr (some ⟨l.id, l.off + 1⟩)) ∧ fieldAddrA Try.prog 42 (.ptr (some l)) 2 = some (.ptr (some ⟨l.id, l.off + 2⟩)) ∧
    fieldAddrA Try.prog 42 (.ptr (some l)) 3 = some (.ptr (some ⟨l.id, l.off + 6⟩)) ∧ fieldAddrA Try.prog 42 (.ptr (some l)) 4 = some (.ptr (some ⟨l.id, l.off + 7⟩)) := by
  refine ⟨?_, ?_, ?_, ?_, ?_⟩ <;> kernel_rfl
theorem fa64 {l : Loc} : fieldAddrA Try.prog 64 (.ptr (some l)) 0 = some (.ptr (some ⟨l.id, l.off + 0⟩)) ∧ fieldAddrA Try.prog 64 (.ptr (some l)) 1 = some (.ptr (some ⟨l.id, l.off + 1⟩)) := by
  refine ⟨?_, ?_⟩ <;> kernel_rfl

theorem b54_6 {h : Heap} {a b c d e f : Int} : buildSliceA Try.prog h 54 6 [(0, .int .i64 a), (1, .int .i64 b), (2, .int .i64 c), (3, .int .i64 d), (4, .int .i64 e), (5, .int .i64 f)] = some (.slice (some ⟨h.next, 0⟩) 6 (.exact 6), h.alloc (.cells (ints [a, b, c, d, e, f]) .own)) := by kernel_rfl
theorem b54_2 {h : Heap} {a b : Int} : buildSliceA Try.prog h 54 2 [(0, .int .i64 a), (1, .int .i64 b)] = some (.slice (some ⟨h.next, 0⟩) 2 (.exact 2), h.alloc (.cells (ints [a, b]) .own)) := by kernel_rfl
theorem b54_5 {h : Heap} {a b c d e : Int} : buildSliceA Try.prog h 54 5 [(0, .int .i64 a), (1, .int .i64 b), (2, .int .i64 c), (3, .int .i64 d), (4, .int .i64 e)] = some (.slice (some ⟨h.next, 0⟩) 5 (.exact 5), h.alloc (.cells (ints [a, b, c, d, e]) .own)) := by kernel_rfl
theorem b54_3 {h : Heap} {a b c : Int} : buildSliceA Try.prog h 54 3 [(0, .int .i64 a), (1, .int .i64 b), (2, .int .i64 c)] = some (.slice (some ⟨h.next, 0⟩) 3 (.exact 3), h.alloc (.cells (ints [a, b, c]) .own)) := by kernel_rfl
theorem b54_1 {h : Heap} {a : Int} : buildSliceA Try.prog h 54 1 [(0, .int .i64 a)] = some (.slice (some ⟨h.next, 0⟩) 1 (.exact 1), h.alloc (.cells (ints [a]) .own)) := by kernel_rfl
theorem b30_2 {h : Heap} {a b : Int} : buildSliceA Try.prog h 30 2 [(0, .int .u8 a), (1, .int .u8 b)] = some (.slice (some ⟨h.next, 0⟩) 2 (.exact 2), h.alloc (.cells [.int .u8 a, .int .u8 b] .own)) := by kernel_rfl
theorem b30_1 {h : Heap} {a : Int} : buildSliceA Try.prog h 30 1 [(0, .int .u8 a)] = some (.slice (some ⟨h.next, 0⟩) 1 (.exact 1), h.alloc (.cells [.int .u8 a] .own)) := by kernel_rfl

def fnsB (l : List Func) : Bool := l.all fun fn => !(fn.name == "runtime.NumGoroutine")
theorem fns_ok : Fns Try.prog := by
  intro f fn hf _
  have hb : fnsB Try.prog.funcs.toList = true := by kernel_rfl
  have hm : fn ∈ Try.prog.funcs.toList := by
    rw [← Array.getElem?_toList] at hf
    exact List.mem_of_getElem? hf
  have := List.all_eq_true.1 hb fn hm
  simpa using this
theorem mixed_ok : Try.prog.follows .mixedOrders = true := by kernel_rfl
end Go.Am

set_option linter.unusedSimpArgs false
namespace Go.Am
open Go.RowKit Go.Proofs

/-- A number's lowest byte; its two bytes. -/
def b8 (n : Int) : UInt8 := UInt8.ofNat (n % 256).toNat
def be2 (n : Int) : List UInt8 := [b8 (n.fdiv 256), b8 n]
def be2s (ns : List Int) : List UInt8 := ns.flatMap be2
def bytesA (bs : List UInt8) : List AV := bs.map byteA
theorem b8_nat (n : Int) : ((b8 n).toNat : Int) = n % 256 := by
  have h1 : 0 ≤ n % 256 := Int.emod_nonneg _ (by omega)
  have h2 : n % 256 < 256 := Int.emod_lt_of_pos _ (by omega)
  unfold b8
  rw [UInt8.toNat_ofNat', Nat.mod_eq_of_lt (by omega)]
  omega
theorem u8_b8 (n : Int) : AV.int .u8 (IntKind.wrap .u8 n) = byteA (b8 n) := by
  have h : IntKind.wrap .u8 n = n % 256 := by simp [IntKind.wrap, IntKind.bits, IntKind.signed]
  rw [h, byteA, b8_nat]
theorem conv3_5 {h : Heap} {n : Int} {k : IntKind} : convertA Try.prog h 3 5 (.int k n) = some (byteA (b8 n), h) := by
  simp only [convertA, u3, u5, ← u8_b8]
theorem bytesA_length (bs : List UInt8) : (bytesA bs).length = bs.length := by simp [bytesA]
theorem bytesA_append (a b : List UInt8) : bytesA (a ++ b) = bytesA a ++ bytesA b := by simp [bytesA]
theorem bytesA_ok : ∀ {bs : List UInt8}, cellsOk (bytesA bs) = true
  | [] => rfl
  | b :: bs => by simp only [bytesA, List.map_cons, cellsOk, byteA, cellOk, Bool.true_and]; exact bytesA_ok (bs := bs)
theorem bytesA_get {bs : List UInt8} {i : Nat} {b : UInt8} (h : bs[i]? = some b) : (bytesA bs)[i]? = some (byteA b) := by simp [bytesA, h]
theorem shr8 {h : Heap} {n : Int} {xo yo : Operand} : binA Try.prog h .shr 3 xo yo (.int .i64 n) (.int .u64 8) = some (.int .i64 (n.fdiv 256)) := by
  simp [binA, shiftA, IntKind.bits]
theorem be2s_length : ∀ ns : List Int, (be2s ns).length = 2 * ns.length
  | [] => rfl
  | n :: ns => by
    have h1 := be2s_length ns
    have h2 : be2s (n :: ns) = be2 n ++ be2s ns := rfl
    rw [h2, List.length_append, h1]
    simp [be2]; omega
theorem be2s_snoc (ns : List Int) (n : Int) : be2s (ns ++ [n]) = be2s ns ++ be2 n := by simp [be2s]
theorem b30_2b {h : Heap} {a b : UInt8} : buildSliceA Try.prog h 30 2 [(0, byteA a), (1, byteA b)] = some (.slice (some ⟨h.next, 0⟩) 2 (.exact 2), h.alloc (.cells [byteA a, byteA b] .own)) := b30_2
theorem b30_1b {h : Heap} {a : UInt8} : buildSliceA Try.prog h 30 1 [(0, byteA a)] = some (.slice (some ⟨h.next, 0⟩) 1 (.exact 1), h.alloc (.cells [byteA a] .own)) := b30_1
theorem Sl.exact {h : Heap} {i n : Nat} {xs : List AV} (hn : xs.length = n) (hg : h.get i = some (.cells xs .own)) : Sl h (.slice (some ⟨i, 0⟩) n (.exact n)) xs :=
  ⟨⟨hn, Nat.le_refl _⟩, .inr ⟨xs, .own, hg, by simp [hn], by simp [← hn]⟩⟩
theorem take_snoc {α : Type} {xs : List α} {i : Nat} {x : α} (h : xs[i]? = some x) : xs.take (i + 1) = xs.take i ++ [x] := by
  rw [List.take_add_one, h]; rfl

def strs (ls : List (List UInt8)) : List AV := ls.map .str
theorem strs_length (ls : List (List UInt8)) : (strs ls).length = ls.length := by simp [strs]
theorem strs_get {ls : List (List UInt8)} {i : Nat} {l : List UInt8} (h : ls[i]? = some l) : (strs ls)[i]? = some (.str l) := by simp [strs, h]
theorem strs_ok : ∀ {ls : List (List UInt8)}, cellsOk (strs ls) = true
  | [] => rfl
  | l :: ls => by simp only [strs, List.map_cons, cellsOk, cellOk, Bool.true_and]; exact strs_ok (ls := ls)
def encLabels (ls : List (List UInt8)) : List UInt8 := ls.flatMap fun l => b8 l.length :: l
def encName (ls : List (List UInt8)) : List UInt8 := encLabels ls ++ [0]
def nameLen (ls : List (List UInt8)) : Nat := 1 + (ls.map fun l => l.length + 1).sum
/-- A name: labels of 1 to 63 letters, 255 in all. -/
def Named (ls : List (List UInt8)) : Prop := (∀ l ∈ ls, 1 ≤ l.length ∧ l.length ≤ 63) ∧ nameLen ls ≤ 255
theorem encLabels_snoc (ls : List (List UInt8)) (l : List UInt8) : encLabels (ls ++ [l]) = encLabels ls ++ ([b8 l.length] ++ l) := by simp [encLabels]
theorem encLabels_length : ∀ ls : List (List UInt8), (encLabels ls).length = (ls.map fun l => l.length + 1).sum
  | [] => rfl
  | l :: ls => by
    have h1 := encLabels_length ls
    have h2 : encLabels (l :: ls) = (b8 l.length :: l) ++ encLabels ls := rfl
    rw [h2, List.length_append, h1]
    simp
theorem encName_length (ls : List (List UInt8)) : (encName ls).length = nameLen ls := by simp [encName, encLabels_length, nameLen]; omega
theorem encLabels_take (ls : List (List UInt8)) (i : Nat) : (encLabels (ls.take i)).length ≤ (encLabels ls).length := by
  conv => rhs; rw [← List.take_append_drop i ls]
  have h : encLabels (ls.take i ++ ls.drop i) = encLabels (ls.take i) ++ encLabels (ls.drop i) := by unfold encLabels; rw [List.flatMap_append]
  rw [h, List.length_append]; omega
theorem labels_le (ls : List (List UInt8)) : ls.length ≤ (encLabels ls).length := by
  rw [encLabels_length]
  induction ls with
  | nil => simp
  | cons l ls ih => simp; omega

section
variable {ov : CallF}

/-- Written into what is written to: the bytes, behind those that stand there. -/
structure Wrote (n0 : Nat) (ex : List Nat) (h h' : Heap) (v : AV) (bs : List UInt8) : Prop where
  acc : Acc n0 h' v (bytesA bs)
  keep : Keep ex h h'
  new : ∀ i, idOf v = some i → i ∈ ex ∨ h.next ≤ i

theorem Wrote.app {n0 : Nat} {ex : List Nat} {h g : Heap} {v : AV} {bs : List UInt8} (hw : Wrote n0 ex h g v bs) (hn : n0 ≤ h.next) {tu : TypeId} {y : AV} {ys : List UInt8} (hne : ys ≠ []) (hsrc : srcA Try.prog g 1 tu y = some (ys.length, bytesA ys)) (hlen : bs.length + ys.length ≤ 100000000000) :
    ∃ v' g', appendA Try.prog g 30 tu v y = some (v', g') ∧ Wrote n0 ex h g' v' (bs ++ ys) := by
  have hle := hw.keep.le
  have ⟨v', g', h1, h2, h3, h4⟩ := hw.acc.app (ex := match idOf v with | some i => [i] | none => []) (P := Try.prog) (tu := tu) (y := y) (ys := bytesA ys) hw.keep.wf (by intro i hi; rw [hi]; simp) (by omega) u30 s5 (by rw [bytesA_length, bytesA_length]; exact room5 hlen) (by rw [bytesA_length]; exact hsrc) bytesA_ok (by intro hh; apply hne; simpa [bytesA] using hh)
  refine ⟨v', g', h1, by rw [bytesA_append]; exact h2, hw.keep.into h3 ?_, fun i hi => .inr (by have := h4 i hi; omega)⟩
  intro i hi
  cases hid : idOf v with
  | none => rw [hid] at hi; simp at hi
  | some j => rw [hid] at hi; simp at hi; subst hi; exact hw.new _ hid
theorem Wrote.alloc {n0 : Nat} {ex : List Nat} {h g : Heap} {v : AV} {bs : List UInt8} (hw : Wrote n0 ex h g v bs) (o : Obj) : Wrote n0 ex h (g.alloc o) v bs :=
  ⟨hw.acc.keep2 ((Keep.refl (ex := []) hw.keep.wf).alloc o) (fun _ _ => by simp), hw.keep.alloc o, hw.new⟩
theorem Wrote.start {n0 : Nat} {ex : List Nat} {h : Heap} {v : AV} {bs : List UInt8} (hw : Wf h) (ha : Acc n0 h v (bytesA bs)) (hex : ∀ i, idOf v = some i → i ∈ ex) : Wrote n0 ex h h v bs := ⟨ha, Keep.refl hw, fun i hi => .inl (hex i hi)⟩
theorem Wrote.then {n0 : Nat} {ex ex' : List Nat} {a b c : Heap} {u v : AV} {bs cs : List UInt8} (h1 : Wrote n0 ex a b u bs) (h2 : Wrote n0 ex' b c v cs) (hx : ∀ i ∈ ex', i ∈ ex ∨ a.next ≤ i) : Wrote n0 ex a c v cs :=
  ⟨h2.acc, h1.keep.into h2.keep hx, fun i hi => by
    rcases h2.new i hi with h3 | h3
    · exact hx i h3
    · have := h1.keep.le; exact .inr (by omega)⟩

theorem two_ok (hov : ∀ a h, ov 26 a h = none) {h : Heap} {n0 : Nat} {ex : List Nat} {v nv : AV} {bs : List UInt8} {ns : List Int} (hw : Wf h) (ha : Acc n0 h v (bytesA bs)) (hex : ∀ i, idOf v = some i → i ∈ ex) (hn0 : n0 ≤ h.next)
    (hs : Sl h nv (ints ns)) (hid : ∀ i, idOf nv = some i → i ∉ ex) (hlen : bs.length ≤ 10000000000) (hn : ns.length ≤ 1000) :
    ∃ v' h', callT ov Try.prog 26 [v, nv] h = some (.ret v' h') ∧ Wrote n0 ex h h' v' (bs ++ be2s ns) := by
  refine callT_wp (fn := Try.f26) (hov _ _) (by kernel_rfl) rfl ?_
  have hl : (frameA Try.f26 [v, nv]).length = 23 := frameA_length (Nat.le_of_ble_eq_true rfl)
  have h0 : nth (frameA Try.f26 [v, nv]) 0 = v := frameA_nth (Nat.le_of_ble_eq_true rfl)
  have h1 : nth (frameA Try.f26 [v, nv]) 1 = nv := frameA_nth (Nat.le_of_ble_eq_true rfl)
  generalize frameA Try.f26 [v, nv] = e at hl h0 h1
  have hlenv := hs.len u54
  apply WP.seq; apply WP.region; simp [hl]
  repeat apply WP.seq
  apply WP.region; simp [hl, h1, hlenv]
  repeat apply WP.seq
  apply WP.block
  refine WP.loop (fun n e g => e.length = 23 ∧ nth e 7 = nv ∧ nth e 8 = .int .i64 ns.length ∧ ∃ i u, i ≤ ns.length ∧ n = ns.length - i ∧ nth e 9 = .int .i64 (i : Nat) ∧ nth e 0 = u ∧ Wrote n0 ex h g u (bs ++ be2s (ns.take i))) ?_ ns.length _ _ ?_
  · rintro n e g ⟨hl, h7, h8, i, u, hi, rfl, h9, h0, hwr⟩
    repeat apply WP.seq
    apply WP.region; simp [hl, h8, h9]
    repeat apply WP.seq
    apply WP.cond (by simp [hl]; rfl)
    · intro hlt1
      have hlt1 : i < ns.length := by simpa using hlt1
      apply WP.skip; simp
      repeat apply WP.seq
      apply WP.block
      obtain ⟨x, hx⟩ : ∃ x, ns[i]? = some x := ⟨ns[i], by simp [hlt1]⟩
      obtain ⟨l1, hl1, hl1', _⟩ := (hs.keep hwr.keep hid).at u54 s3 a3 (ints_get hx) (k := .i64)
      repeat apply WP.seq
      apply WP.region; simp [hl, h7, h9, hl1, hl1']
      repeat apply WP.seq
      have hwr2 := hwr.alloc (.cells [byteA (b8 (x.fdiv 256)), byteA (b8 x)] .own)
      have hg2 := Heap.get_alloc g (.cells [byteA (b8 (x.fdiv 256)), byteA (b8 x)] .own)
      have hbl := b30_2b (h := g) (a := b8 (x.fdiv 256)) (b := b8 x)
      generalize g.alloc (.cells [byteA (b8 (x.fdiv 256)), byteA (b8 x)] .own) = g2 at hwr2 hg2 hbl
      have hsrc := (Sl.exact (n := 2) rfl hg2).src (P := Try.prog) u30 (bytesA_ok (bs := be2 x))
      have hbl2 : (be2s (ns.take i)).length ≤ 2000 := by rw [be2s_length, List.length_take]; omega
      obtain ⟨v', g', h3, h4⟩ := hwr2.app hn0 (tu := 30) (ys := be2 x) (by simp [be2]) hsrc (by simp [be2]; omega)
      apply WP.region; simp [hl, h0, shr8, conv3_5, hbl, h3]
      repeat apply WP.seq
      apply WP.region; simp [hl, h9, int_wrap (show i < 9223372036854775807 by omega)]
      refine ⟨ns.length - (i + 1), by omega, by simp [hl, h7], by simp [hl, h8], i + 1, by omega, rfl, by simp, ?_⟩
      rw [take_snoc hx, be2s_snoc, ← List.append_assoc]
      exact h4
    · intro hlt1
      have hlt1 : ¬ i < ns.length := by simpa using hlt1
      have : i = ns.length := by omega
      subst this
      apply WP.exit; simp
      repeat apply WP.seq
      apply WP.region; simp [hl, h0]
      apply WP.ret
      simp only [List.take_length] at hwr
      obtain ⟨l, c, rfl⟩ := hwr.acc.sl.slice
      simp [hl, resultsA, resultA, single]
      exact hwr
  · exact ⟨by simp [hl], by simp [hl], by simp [hl], 0, v, by omega, by omega, by simp [hl], by simp [h0], by simpa [be2s] using Wrote.start hw ha hex⟩

theorem name_ok (hov : ∀ a h, ov 27 a h = none) {h : Heap} {n0 : Nat} {ex : List Nat} {v lv : AV} {bs : List UInt8} {ls : List (List UInt8)} (hw : Wf h) (ha : Acc n0 h v (bytesA bs)) (hex : ∀ i, idOf v = some i → i ∈ ex) (hn0 : n0 ≤ h.next)
    (hs : Sl h lv (strs ls)) (hid : ls ≠ [] → ∀ i, idOf lv = some i → i ∉ ex) (hlen : bs.length ≤ 10000000000) (hn : Named ls) :
    ∃ v' h', callT ov Try.prog 27 [v, lv] h = some (.ret v' h') ∧ Wrote n0 ex h h' v' (bs ++ encName ls) := by
  refine callT_wp (fn := Try.f27) (hov _ _) (by kernel_rfl) rfl ?_
  have hl : (frameA Try.f27 [v, lv]).length = 25 := frameA_length (Nat.le_of_ble_eq_true rfl)
  have h0 : nth (frameA Try.f27 [v, lv]) 0 = v := frameA_nth (Nat.le_of_ble_eq_true rfl)
  have h1 : nth (frameA Try.f27 [v, lv]) 1 = lv := frameA_nth (Nat.le_of_ble_eq_true rfl)
  generalize frameA Try.f27 [v, lv] = e at hl h0 h1
  have hlenv := hs.len u24
  rw [strs_length] at hlenv
  have hel : (encLabels ls).length ≤ 255 := by have := hn.2; have h2 := encName_length ls; simp [encName] at h2; omega
  have hll := labels_le ls
  apply WP.seq; apply WP.region; simp [hl]
  repeat apply WP.seq
  apply WP.region; simp [hl, h1, hlenv]
  repeat apply WP.seq
  apply WP.block
  refine WP.loop (fun n e g => e.length = 25 ∧ nth e 7 = lv ∧ nth e 8 = .int .i64 ls.length ∧ ∃ i u, i ≤ ls.length ∧ n = ls.length - i ∧ nth e 9 = .int .i64 (i : Nat) ∧ nth e 0 = u ∧ Wrote n0 ex h g u (bs ++ encLabels (ls.take i))) ?_ ls.length _ _ ?_
  · rintro n e g ⟨hl, h7, h8, i, u, hi, rfl, h9, h0, hwr⟩
    repeat apply WP.seq
    apply WP.region; simp [hl, h8, h9]
    repeat apply WP.seq
    apply WP.cond (by simp [hl]; rfl)
    · intro hlt1
      have hlt1 : i < ls.length := by simpa using hlt1
      apply WP.skip; simp
      repeat apply WP.seq
      apply WP.block
      obtain ⟨x, hx⟩ : ∃ x, ls[i]? = some x := ⟨ls[i], by simp [hlt1]⟩
      obtain ⟨l1, hl1, hl1', _⟩ := (hs.keep' hwr.keep (fun hh => hid (by rintro rfl; simp at hlt1))).at u24 s9 a9 (strs_get hx) (k := .i64)
      repeat apply WP.seq
      apply WP.region; simp [hl, h7, h9, hl1, hl1']
      repeat apply WP.seq
      have hxl := hn.1 x (List.mem_of_getElem? hx)
      have htl := encLabels_take ls i
      have hwr2 := hwr.alloc (.cells [byteA (b8 x.length)] .own)
      have hg2 := Heap.get_alloc g (.cells [byteA (b8 x.length)] .own)
      have hbl := b30_1b (h := g) (a := b8 x.length)
      generalize g.alloc (.cells [byteA (b8 x.length)] .own) = g2 at hwr2 hg2 hbl
      have hsrc := (Sl.exact (n := 1) rfl hg2).src (P := Try.prog) u30 (bytesA_ok (bs := [b8 x.length]))
      obtain ⟨v', g', h3, h4⟩ := hwr2.app hn0 (tu := 30) (ys := [b8 x.length]) (by simp) hsrc (by simp; omega)
      obtain ⟨v'', g'', h5, h6⟩ := h4.app hn0 (tu := 9) (y := .str x) (ys := x) (by rintro rfl; simp at hxl) (by simp [srcA, u9, bytesA]) (by simp; omega)
      have hlx : ∀ h, lenA Try.prog h 9 (.str x) = some (.int .i64 x.length) := fun h => by simp [lenA, u9]
      apply WP.region; simp [hl, h0, hlx, conv3_5, hbl, h3, h5]
      repeat apply WP.seq
      apply WP.region; simp [hl, h9, int_wrap (show i < 9223372036854775807 by omega)]
      refine ⟨ls.length - (i + 1), by omega, by simp [hl, h7], by simp [hl, h8], i + 1, by omega, rfl, by simp, ?_⟩
      rw [take_snoc hx, encLabels_snoc, ← List.append_assoc, ← List.append_assoc]
      exact h6
    · intro hlt1
      have hlt1 : ¬ i < ls.length := by simpa using hlt1
      have : i = ls.length := by omega
      subst this
      apply WP.exit; simp
      repeat apply WP.seq
      simp only [List.take_length] at hwr
      have hwr2 := hwr.alloc (.cells [byteA 0] .own)
      have hg2 := Heap.get_alloc g (.cells [byteA 0] .own)
      have hbl := b30_1b (h := g) (a := 0)
      generalize g.alloc (.cells [byteA 0] .own) = g2 at hwr2 hg2 hbl
      have hsrc := (Sl.exact (n := 1) rfl hg2).src (P := Try.prog) u30 (bytesA_ok (bs := [0]))
      obtain ⟨v', g', h3, h4⟩ := hwr2.app hn0 (tu := 30) (ys := [0]) (by simp) hsrc (by simp; omega)
      have hz : byteA 0 = .int .u8 0 := rfl
      rw [hz] at hbl
      apply WP.region; simp [hl, h0, hbl, h3]
      apply WP.ret
      obtain ⟨l, c, rfl⟩ := h4.acc.sl.slice
      simp [hl, resultsA, resultA, single]
      simpa [encName] using h4
  · exact ⟨by simp [hl], by simp [hl], by simp [hl], 0, v, by omega, by omega, by simp [hl], by simp [h0], by simpa [encLabels] using Wrote.start hw ha hex⟩
end
end Go.Am

set_option linter.unusedSimpArgs false
namespace Go.Am
open Go.RowKit Go.Proofs
attribute [simp] seqS_normal seqS_exit seqS_ret TP_done TP_stop chk_nil trace_nil trace_cons trace_guard tstep_ret tstep_none tguard_true tguard_false tcons_some TW_some sameV_load' pairsOk beqV_refl

/-! ### Bits of numbers that are none below zero -/
def orI (x y : Int) : Int := ((x.toNat ||| y.toNat : Nat) : Int)
def andI (x y : Int) : Int := ((x.toNat &&& y.toNat : Nat) : Int)
def Small (x : Int) : Prop := 0 ≤ x ∧ x < 4611686018427387904
theorem wrap_nat {n : Nat} (h : n < 9223372036854775808) : IntKind.wrap .i64 (n : Int) = n := wrap_small (by omega) (by omega)
theorem ofInt_nat {x : Int} (hx : Small x) : (BitVec.ofInt 64 x).toNat = x.toNat := by
  obtain ⟨h1, h2⟩ := hx
  rw [BitVec.toNat_ofInt]
  omega
theorem or_small {x y : Int} (hx : Small x) (hy : Small y) : Small (orI x y) := by
  have h1 : x.toNat < 2 ^ 62 := by have := hx.2; have := hx.1; omega
  have h2 : y.toNat < 2 ^ 62 := by have := hy.2; have := hy.1; omega
  have := Nat.or_lt_two_pow h1 h2
  unfold orI Small
  omega
theorem and_small {x y : Int} (_ : Small x) (hy : Small y) : Small (andI x y) := by
  have h2 : y.toNat < 2 ^ 62 := by have := hy.2; have := hy.1; omega
  have : x.toNat &&& y.toNat ≤ y.toNat := Nat.and_le_right
  unfold andI Small
  omega
theorem bin_or {h : Heap} {x y : Int} {xo yo : Operand} (hx : Small x) (hy : Small y) : binA Try.prog h .or 3 xo yo (.int .i64 x) (.int .i64 y) = some (.int .i64 (orI x y)) := by
  have hs := or_small hx hy
  have he : binA Try.prog h .or 3 xo yo (.int .i64 x) (.int .i64 y) = some (.int .i64 (IntKind.wrap .i64 ((BitVec.ofInt 64 x ||| BitVec.ofInt 64 y).toNat : Nat))) := rfl
  rw [he, BitVec.toNat_or, ofInt_nat hx, ofInt_nat hy, wrap_nat (by have := hs.2; unfold orI at this; omega)]
  rfl
theorem bin_and {h : Heap} {x y : Int} {xo yo : Operand} (hx : Small x) (hy : Small y) : binA Try.prog h .and 3 xo yo (.int .i64 x) (.int .i64 y) = some (.int .i64 (andI x y)) := by
  have hs := and_small hx hy
  have he : binA Try.prog h .and 3 xo yo (.int .i64 x) (.int .i64 y) = some (.int .i64 (IntKind.wrap .i64 ((BitVec.ofInt 64 x &&& BitVec.ofInt 64 y).toNat : Nat))) := rfl
  rw [he, BitVec.toNat_and, ofInt_nat hx, ofInt_nat hy, wrap_nat (by have := hs.2; unfold andI at this; omega)]
  rfl
theorem bin_shl11 {h : Heap} {x : Int} {xo yo : Operand} (h1 : 0 ≤ x) (h2 : x < 65536) : binA Try.prog h .shl 3 xo yo (.int .i64 x) (.int .u64 11) = some (.int .i64 (x * 2048)) := by
  have h3 : IntKind.wrap .i64 (x * 2048) = x * 2048 := wrap_small (by omega) (by omega)
  simp [binA, shiftA, IntKind.bits, h3]
theorem conv23_3 {h : Heap} {x : Int} {k : IntKind} (h1 : 0 ≤ x) (h2 : x < 65536) : convertA Try.prog h 23 3 (.int k x) = some (.int .i64 x, h) := by
  have h3 : IntKind.wrap .i64 x = x := wrap_small (by omega) (by omega)
  simp [convertA, u23, u3, h3]

/-- A question. -/
structure Qu where
  id : Int
  op : Int
  wish : Bool
  labels : List (List UInt8)
  ty : Int
  cl : Int
def u16In (x : Int) : Prop := 0 ≤ x ∧ x < 65536
structure Qu.Ok (q : Qu) : Prop where
  id : u16In q.id
  op : 0 ≤ q.op ∧ q.op ≤ 15
  labels : Named q.labels
  ty : u16In q.ty
  cl : u16In q.cl
def Qu.cells (q : Qu) (lv : AV) : List AV := [.int .u16 q.id, .int .i64 q.op, .bool q.wish, lv, .int .u16 q.ty, .int .u16 q.cl]
def Qu.flags (q : Qu) (fl : Int) : Int := if q.wish then orI (orI fl (q.op * 2048)) 256 else orI fl (q.op * 2048)
def Qu.bytes (q : Qu) (fl ans : Int) : List UInt8 := be2s [q.id, q.flags fl, 1, ans, 0, 0] ++ encName q.labels ++ be2s [q.ty, q.cl]

theorem Acc.weaken {n0 n1 : Nat} {h : Heap} {v : AV} {xs : List AV} (ha : Acc n0 h v xs) (hn : n1 ≤ n0) : Acc n1 h v xs := by
  rcases ha with ⟨h1, l, h2, h3⟩ | ⟨i, h1, h2⟩
  · exact .inl ⟨h1, l, h2, fun x hx => ⟨by have := (h3 x hx).1; omega, (h3 x hx).2⟩⟩
  · exact .inr ⟨i, by omega, h2⟩
def none0 : CallF := fun _ _ _ => none
theorem none0_ok : CallsOk Try.prog none0 := fun _ _ _ _ h => by cases h
def idsOf (v : AV) : List Nat := (idOf v).toList
theorem mem_ids {v : AV} {i : Nat} (h : idOf v = some i) : i ∈ idsOf v := by simp [idsOf, h]
theorem ids_mem {v : AV} {i : Nat} (h : i ∈ idsOf v) : idOf v = some i := by simpa [idsOf] using h

def planAlt : Plan := .alt 3 [5, 8] (.alt 10 [2] (.alt 11 [] (.quiet 12 .done) .stop) .stop) (.alt 10 [2] (.alt 3 [5, 8] (.alt 11 [] (.quiet 12 .done) .stop) .stop) .stop)
def planBegin : Plan := .quiet 0 <| .quiet 1 <| .quiet 2 <| .quiet 4 <| .quiet 5 <| .quiet 6 <| .quiet 7 <| .quiet 8 <| .quiet 9 planAlt

set_option maxHeartbeats 1000000 in
theorem begin_s {h : Heap} (hw : Wf h) {q : Qu} (hq : q.Ok) {lv : AV} (hlv : Sl h lv (strs q.labels)) {fl ans : Int} (hfl : u16In fl) :
    SCall Try.prog 15 [.agg (q.cells lv), .int .i64 fl, .int .i64 ans] h (fun r => ∃ v h', r = .ret v h' ∧ Acc h.next h' v (bytesA (q.bytes fl ans)) ∧ Keep [] h h') := by
  refine scall_of fns_ok (fn := Try.f15) (by kernel_rfl) rfl ?_
  have hl : (frameA Try.f15 [.agg (q.cells lv), .int .i64 fl, .int .i64 ans]).length = 36 := frameA_length (Nat.le_of_ble_eq_true rfl)
  have h0 : nth (frameA Try.f15 [.agg (q.cells lv), .int .i64 fl, .int .i64 ans]) 0 = .agg (q.cells lv) := frameA_nth (Nat.le_of_ble_eq_true rfl)
  have h1 : nth (frameA Try.f15 [.agg (q.cells lv), .int .i64 fl, .int .i64 ans]) 1 = .int .i64 fl := frameA_nth (Nat.le_of_ble_eq_true rfl)
  have h2 : nth (frameA Try.f15 [.agg (q.cells lv), .int .i64 fl, .int .i64 ans]) 2 = .int .i64 ans := frameA_nth (Nat.le_of_ble_eq_true rfl)
  generalize frameA Try.f15 [.agg (q.cells lv), .int .i64 fl, .int .i64 ans] = e at hl h0 h1 h2
  obtain ⟨sl, sc, hlveq⟩ := hlv.slice
  have hbx := box_agg (h := h) (vs := q.cells lv) (cs := q.cells lv) rfl
  have hk1 := (Keep.refl (ex := []) hw).alloc (.cells (q.cells lv) .own)
  have hg1 := Heap.get_alloc h (.cells (q.cells lv) .own)
  have hn1 : (h.alloc (.cells (q.cells lv) .own)).next = h.next + 1 := Heap.next_alloc _ _
  generalize h.alloc (.cells (q.cells lv) .own) = g1 at hbx hk1 hg1 hn1
  have hld : ∀ {ex : List Nat} {g : Heap}, Keep ex g1 g → (∀ i ∈ ex, g1.next ≤ i) → g.get h.next = some (.cells (q.cells lv) .own) := fun hk hx => hk.get _ _ hg1 (fun hm => by have := hx _ hm; omega)
  have ld : ∀ {g : Heap}, g.get h.next = some (.cells (q.cells lv) .own) → loadA Try.prog g 23 ⟨h.next, 0⟩ = some (.int .u16 q.id) ∧ loadA Try.prog g 3 ⟨h.next, 1⟩ = some (.int .i64 q.op) ∧ loadA Try.prog g 4 ⟨h.next, 2⟩ = some (.bool q.wish) ∧ loadA Try.prog g 24 ⟨h.next, 3⟩ = some lv ∧ loadA Try.prog g 23 ⟨h.next, 4⟩ = some (.int .u16 q.ty) ∧ loadA Try.prog g 23 ⟨h.next, 5⟩ = some (.int .u16 q.cl) := fun hg =>
    ⟨load_cell a23 hg rfl, load_cell a3 hg rfl, load_cell a4 hg rfl, load_cell a24 hg rfl, load_cell a23 hg rfl, load_cell a23 hg rfl⟩
  obtain ⟨d0, d1, d2, d3, d4, d5⟩ := ld hg1
  have so : Small (q.op * 2048) := ⟨by have := hq.op; omega, by have := hq.op; omega⟩
  have sf : Small fl := ⟨hfl.1, by have := hfl.2; omega⟩
  have s1 := or_small sf so
  have s256 : Small 256 := ⟨by omega, by omega⟩
  repeat apply SWP.seq
  refine SWP.of fns_ok mixed_ok none0_ok ?_
  apply WP.region; simp [hl, h0, hbx]
  repeat apply SWP.seq
  refine SWP.of fns_ok mixed_ok none0_ok ?_
  apply WP.region; simp [hl, h1, fa26, d1, bin_shl11 hq.op.1 (by have := hq.op; omega), bin_or sf so]
  repeat apply SWP.seq
  refine SWP.of fns_ok mixed_ok none0_ok ?_
  apply WP.region; simp [hl, fa26, d2]
  repeat apply SWP.seq
  refine SWP.mono (K := fun o e g => o = .normal ∧ g1 = g ∧ e.length = 36 ∧ nth e 1 = .int .i64 (q.flags fl) ∧ nth e 2 = .int .i64 ans ∧ nth e 3 = .ptr (some ⟨h.next, 0⟩)) ?_ ?_
  · refine SWP.of fns_ok mixed_ok none0_ok ?_
    apply WP.cond (by simp [hl]; rfl)
    · intro hwish
      apply WP.region; simp [hl, bin_or s1 s256]
      simp [Qu.flags, hwish, h2, hl]
    · intro hwish
      apply WP.skip
      simp [Qu.flags, hwish, h2, hl]
  rintro o e g ⟨rfl, rfl, hl, h1, h2, h3⟩
  simp
  repeat apply SWP.seq
  refine SWP.of fns_ok mixed_ok none0_ok ?_
  have hbl := b54_6 (h := g1) (a := q.id) (b := q.flags fl) (c := 1) (d := ans) (e := 0) (f := 0)
  have hk2 := (Keep.refl (ex := []) hk1.wf).alloc (.cells (ints [q.id, q.flags fl, 1, ans, 0, 0]) .own)
  have hg2 := Heap.get_alloc g1 (.cells (ints [q.id, q.flags fl, 1, ans, 0, 0]) .own)
  generalize g1.alloc (.cells (ints [q.id, q.flags fl, 1, ans, 0, 0]) .own) = g2 at hbl hk2 hg2
  obtain ⟨v1, g3, hc1, hw1⟩ := two_ok (ov := none0) (fun _ _ => rfl) (n0 := g1.next) (ex := []) (v := .slice none 0 (.exact 0)) (bs := []) hk2.wf Acc.nil (by simp [idOf]) hk2.le (Sl.exact rfl hg2) (by simp) (by simp) (by simp)
  have hca1 : callA (callT none0 Try.prog) Try.prog g2 26 [.slice none 0 (.exact 0), .slice (some ⟨g1.next, 0⟩) 6 (.exact 6)] = _ := hc1
  simp only [List.nil_append] at hw1
  apply WP.region; simp [hl, h1, h2, h3, fa26, d0, conv23_3 hq.id.1 hq.id.2, hbl, hca1]
  repeat apply SWP.seq
  have hkg3 : Keep [] g1 g3 := hk2.into hw1.keep (by simp)
  have hv1 : ∀ i ∈ idsOf v1, g1.next ≤ i := fun i hi => hw1.acc.id (ids_mem hi)
  have hv1' : ∀ i ∈ idsOf v1, i < g3.next := fun i hi => hw1.acc.lt hw1.keep.wf (ids_mem hi)
  have hlv1 : Sl g1 lv (strs q.labels) := hlv.keep hk1 (by simp)
  have hlid : q.labels ≠ [] → ∀ i, idOf lv = some i → i < g1.next := fun hne i hi => by have := hlv.lt hw (by simpa [strs] using hne) hi; omega
  obtain ⟨e0, e1, e2, e3, e4, e5⟩ := ld (hld hkg3 (by simp))
  have hbn : (be2s [q.id, q.flags fl, 1, ans, 0, 0]).length = 12 := be2s_length _
  have hnn : (encName q.labels).length ≤ 255 := by rw [encName_length]; exact hq.labels.2
  refine SWP.mono (K := fun o e g => o = .normal ∧ e.length = 36 ∧ ∃ v, nth e 6 = v ∧ Acc g1.next g v (bytesA (q.bytes fl ans)) ∧ Keep [] g1 g) ?_ ?_
  · refine SWP.tree fns_ok mixed_ok (callT_ok none0 _ fns_ok mixed_ok none0_ok) (n := 36) (pl := planBegin) (by kernel_rfl) (by kernel_rfl) (by kernel_rfl) (by simpa using hl) ?_
    refine TP_quiet rfl ?_; simp [hl]
    refine TP_quiet rfl ?_; simp [hl, h3, fa26]
    refine TP_quiet rfl ?_; simp [hl, e3]
    refine TP_quiet rfl ?_; simp [hl, h3, fa26]
    refine TP_quiet rfl ?_; simp [hl, e4]
    refine TP_quiet rfl ?_; simp [hl, conv23_3 hq.ty.1 hq.ty.2]
    refine TP_quiet rfl ?_; simp [hl, h3, fa26]
    refine TP_quiet rfl ?_; simp [hl, e5]
    refine TP_quiet rfl ?_; simp [hl, conv23_3 hq.cl.1 hq.cl.2]
    refine TP_alt rfl ?_ (TP_alt rfl ?_ trivial)
    · obtain ⟨v2, g4, hc2, hw2⟩ := name_ok (ov := none0) (fun _ _ => rfl) (n0 := g1.next) (ex := idsOf v1) hw1.keep.wf hw1.acc (fun i hi => mem_ids hi) hkg3.le (hlv1.keep hkg3 (by simp)) (fun hne i hi hm => by have := hlid hne i hi; have := hv1 i hm; omega) (by omega) hq.labels
      have hca2 : callA (callT none0 Try.prog) Try.prog g3 27 [v1, lv] = _ := hc2
      have hkg4 : Keep [] g1 g4 := hkg3.into hw2.keep (fun i hi => .inr (hv1 i hi))
      obtain ⟨f0, f1, f2, f3, f4, f5⟩ := ld (hld hkg4 (by simp))
      simp [hl, hca2]
      refine ⟨chk_intro rfl (by simp [hl, sameV_load', loadSame, f4]) (chk_intro rfl (by simp [hl, sameV_load', loadSame, f5]) trivial), ?_⟩
      refine TP_alt rfl ?_ trivial
      have hbl5 := b54_2 (h := g4) (a := q.ty) (b := q.cl)
      have hk5 := (Keep.refl (ex := []) hkg4.wf).alloc (.cells (ints [q.ty, q.cl]) .own)
      have hg5 := Heap.get_alloc g4 (.cells (ints [q.ty, q.cl]) .own)
      generalize g4.alloc (.cells (ints [q.ty, q.cl]) .own) = g5 at hbl5 hk5 hg5
      obtain ⟨k0, k1, k2, k3, k4, k5⟩ := ld (hld (hkg4.trans hk5) (by simp))
      simp [hl, hbl5]
      refine ⟨chk_intro rfl (by simp [hl, sameV_load', loadSame, k3]) trivial, ?_⟩
      refine TP_alt rfl ?_ trivial
      have hv2' : ∀ i ∈ idsOf v2, i < g4.next := fun i hi => hw2.acc.lt hkg4.wf (ids_mem hi)
      obtain ⟨v3, g6, hc3, hw3⟩ := two_ok (ov := none0) (fun _ _ => rfl) (n0 := g1.next) (ex := idsOf v2) (ns := [q.ty, q.cl]) hk5.wf (hw2.acc.keep2 hk5 (by simp)) (fun i hi => mem_ids hi) (by have := hkg4.le; have := hk5.le; omega) (Sl.exact rfl hg5) (by intro i hi hm; simp [idOf] at hi; have := hv2' i hm; omega) (by simp [hbn]; omega) (by simp)
      have hca3 : callA (callT none0 Try.prog) Try.prog g5 26 [v2, .slice (some ⟨g4.next, 0⟩) 2 (.exact 2)] = _ := hc3
      simp [hl, hca3]
      refine TP_quiet rfl ?_; simp [hl]
      refine ⟨by simpa [Qu.bytes] using hw3.acc, ?_⟩
      exact (hkg4.trans hk5).into hw3.keep (fun i hi => .inr (hw2.acc.id (ids_mem hi)))
    · have hbl5 := b54_2 (h := g3) (a := q.ty) (b := q.cl)
      have hk5 := (Keep.refl (ex := []) hkg3.wf).alloc (.cells (ints [q.ty, q.cl]) .own)
      have hg5 := Heap.get_alloc g3 (.cells (ints [q.ty, q.cl]) .own)
      generalize g3.alloc (.cells (ints [q.ty, q.cl]) .own) = g5 at hbl5 hk5 hg5
      have hkg5 := hkg3.trans hk5
      obtain ⟨k0, k1, k2, k3, k4, k5⟩ := ld (hld hkg5 (by simp))
      simp [hl, hbl5]
      refine ⟨chk_intro rfl (by simp [hl, sameV_load', loadSame, k3]) trivial, ?_⟩
      refine TP_alt rfl ?_ trivial
      obtain ⟨v2, g4, hc2, hw2⟩ := name_ok (ov := none0) (fun _ _ => rfl) (n0 := g1.next) (ex := idsOf v1) hkg5.wf (hw1.acc.keep2 hk5 (by simp)) (fun i hi => mem_ids hi) hkg5.le (hlv1.keep hkg5 (by simp)) (fun hne i hi hm => by have := hlid hne i hi; have := hv1 i hm; omega) (by omega) hq.labels
      have hca2 : callA (callT none0 Try.prog) Try.prog g5 27 [v1, lv] = _ := hc2
      have hkg4 : Keep [] g1 g4 := hkg5.into hw2.keep (fun i hi => .inr (hv1 i hi))
      obtain ⟨f0, f1, f2, f3, f4, f5⟩ := ld (hld hkg4 (by simp))
      simp [hl, hca2]
      refine ⟨chk_intro rfl (by simp [hl, sameV_load', loadSame, f4]) (chk_intro rfl (by simp [hl, sameV_load', loadSame, f5]) trivial), ?_⟩
      refine TP_alt rfl ?_ trivial
      have hg5' : g4.get g3.next = some (.cells (ints [q.ty, q.cl]) .own) := hw2.keep.get _ _ hg5 (fun hm => by have := hv1' _ hm; omega)
      have hne2 : ∀ i, idOf v2 = some i → i ≠ g3.next := by
        intro i hi hh
        rcases hw2.new i hi with h5 | h5
        · have := hv1' i h5; omega
        · have := hk5.wf _ _ hg5; omega
      obtain ⟨v3, g6, hc3, hw3⟩ := two_ok (ov := none0) (fun _ _ => rfl) (n0 := g1.next) (ex := idsOf v2) (ns := [q.ty, q.cl]) hkg4.wf hw2.acc (fun i hi => mem_ids hi) hkg4.le (Sl.exact rfl hg5') (by intro i hi hm; simp [idOf] at hi; exact hne2 i (ids_mem hm) hi.symm) (by simp [hbn]; omega) (by simp)
      have hca3 : callA (callT none0 Try.prog) Try.prog g4 26 [v2, .slice (some ⟨g3.next, 0⟩) 2 (.exact 2)] = _ := hc3
      simp [hl, hca3]
      refine TP_quiet rfl ?_; simp [hl]
      refine ⟨by simpa [Qu.bytes] using hw3.acc, ?_⟩
      exact hkg4.into hw3.keep (fun i hi => .inr (hw2.acc.id (ids_mem hi)))
  rintro o e g ⟨rfl, hl, v, h6, hacc, hk⟩
  simp
  refine SWP.ret ?_
  obtain ⟨l, c, rfl⟩ := hacc.sl.slice
  refine ⟨.inr rfl, [_], by simp [resultsA, resultA, h6], _, _, ⟨rfl, rfl⟩, hacc.weaken (by omega), hk1.trans hk⟩

theorem bytesA_flat : ∀ bs : List UInt8, (bytesA bs).all flatV = true
  | [] => rfl
  | b :: bs => by simp only [bytesA, List.map_cons, List.all_cons, byteA, flatV, Bool.true_and]; exact bytesA_flat bs
theorem begin_ok {h : Heap} (hw : Wf h) {q : Qu} (hq : q.Ok) {lv : AV} (hlv : Sl h lv (strs q.labels)) {fl ans : Int} (hfl : u16In fl) :
    CallOk Try.prog 15 [.agg (q.cells lv), .int .i64 fl, .int .i64 ans] h (.ret (.slice (some ⟨h.next, 0⟩) (q.bytes fl ans).length (.tip 1)) (h.alloc (.cells (bytesA (q.bytes fl ans)) .own))) := by
  have := canon_flat (bytesA_flat (q.bytes fl ans)) (by simp [Qu.bytes, be2s, be2, bytesA]) (begin_s hw hq hlv hfl (ans := ans))
  rw [bytesA_length] at this
  exact this
end Go.Am

set_option linter.unusedSimpArgs false
namespace Go.Am
open Go.RowKit Go.Proofs

def namedB (ls : List (List UInt8)) : Bool := ls.all (fun l => Nat.ble 1 l.length && Nat.ble l.length 63) && Nat.ble (nameLen ls) 255
theorem namedB_ok {ls : List (List UInt8)} (h : namedB ls = true) : Named ls := by
  simp only [namedB, Bool.and_eq_true, List.all_eq_true] at h
  exact ⟨fun l hl => ⟨(ble_iff _ _).1 (h.1 l hl).1, (ble_iff _ _).1 (h.1 l hl).2⟩, (ble_iff _ _).1 h.2⟩
theorem namedB_of {ls : List (List UInt8)} (h : Named ls) : namedB ls = true := by
  simp only [namedB, Bool.and_eq_true, List.all_eq_true]
  exact ⟨fun l hl => ⟨(ble_iff _ _).2 (h.1 l hl).1, (ble_iff _ _).2 (h.1 l hl).2⟩, (ble_iff _ _).2 h.2⟩
theorem nameLen_snoc (ls : List (List UInt8)) (l : List UInt8) : nameLen (ls ++ [l]) = nameLen ls + (l.length + 1) := by simp [nameLen]; omega
theorem nameLen_take (ls : List (List UInt8)) (i : Nat) : nameLen (ls.take i) ≤ nameLen ls := by
  conv => rhs; rw [← List.take_append_drop i ls]
  simp only [nameLen, List.map_append, List.sum_append]
  omega
/-- The calls that a walk of the dns seat may know already. -/
def DOv (ov : CallF) : Prop := ∀ f, f ≠ 5 → f ≠ 15 → f ≠ 18 → ∀ a h, ov f a h = none
theorem none0_d : DOv none0 := fun _ _ _ _ _ _ => rfl

section
variable {ov : CallF}

theorem named_ok (O : DOv ov) {h : Heap} {lv : AV} {ls : List (List UInt8)} (hs : Sl h lv (strs ls)) (hn : ls.length ≤ 10000000) (hb : ∀ l ∈ ls, l.length ≤ 10000000) :
    callT ov Try.prog 23 [lv] h = some (.ret (.bool (namedB ls)) h) := by
  have main : ∃ u g, callT ov Try.prog 23 [lv] h = some (.ret u g) ∧ u = .bool (namedB ls) ∧ g = h := by
    refine callT_wp (fn := Try.f23) (O 23 (by decide) (by decide) (by decide) _ _) (by kernel_rfl) rfl ?_
    have hl : (frameA Try.f23 [lv]).length = 30 := frameA_length (Nat.le_of_ble_eq_true rfl)
    have h0 : nth (frameA Try.f23 [lv]) 0 = lv := frameA_nth (Nat.le_of_ble_eq_true rfl)
    generalize frameA Try.f23 [lv] = e at hl h0
    have hlenv := hs.len u24
    rw [strs_length] at hlenv
    repeat apply WP.seq
    apply WP.region; simp [hl]
    repeat apply WP.seq
    apply WP.region; simp [hl]
    repeat apply WP.seq
    apply WP.region; simp [hl, h0, hlenv]
    repeat apply WP.seq
    apply WP.block
    refine WP.loop (fun n e g => g = h ∧ e.length = 30 ∧ nth e 6 = lv ∧ nth e 7 = .int .i64 ls.length ∧ ∃ i, i ≤ ls.length ∧ n = ls.length - i ∧ nth e 8 = .int .i64 (i : Nat) ∧ nth e 3 = .int .i64 (nameLen (ls.take i) : Nat) ∧ Named (ls.take i)) ?_ ls.length _ _ ?_
    · rintro n e g ⟨rfl, hl, h6, h7, i, hi, rfl, h8, h3, hnm⟩
      repeat apply WP.seq
      apply WP.region; simp [hl, h7, h8]
      repeat apply WP.seq
      apply WP.cond (by simp [hl]; rfl)
      · intro hlt1
        have hlt1 : i < ls.length := by simpa using hlt1
        apply WP.skip; simp
        repeat apply WP.seq
        apply WP.block
        obtain ⟨x, hx⟩ : ∃ x, ls[i]? = some x := ⟨ls[i], by simp [hlt1]⟩
        obtain ⟨l1, hl1, hl1', _⟩ := hs.at u24 s9 a9 (strs_get hx) (k := .i64)
        have hxm := List.mem_of_getElem? hx
        have hxb := hb x hxm
        have hxi : ls[i] = x := (List.getElem?_eq_some_iff.1 hx).2
        have hlx : ∀ h, lenA Try.prog h 9 (.str x) = some (.int .i64 x.length) := fun h => by simp [lenA, u9]
        have hnl := hnm.2
        have hsn := nameLen_snoc (ls.take i) x
        rw [← take_snoc hx] at hsn
        have hw1 : IntKind.wrap .i64 ((x.length : Int) + 1) = (x.length : Int) + 1 := wrap_small (by omega) (by omega)
        have hw2 : IntKind.wrap .i64 ((nameLen (ls.take i) : Int) + ((x.length : Int) + 1)) = (nameLen (ls.take (i + 1)) : Nat) := by
          rw [wrap_small (by omega) (by omega), hsn, Int.natCast_add, Int.natCast_add]; rfl
        repeat apply WP.seq
        apply WP.region; simp [hl, h6, h8, hl1, hl1']
        repeat apply WP.seq
        apply WP.region; simp [hl, h3, hlx, hw1, hw2]
        repeat apply WP.seq
        have hN : Named (ls.take (i + 1)) ↔ (1 ≤ x.length ∧ x.length ≤ 63) ∧ nameLen (ls.take (i + 1)) ≤ 255 := by
          constructor
          · intro hh
            exact ⟨hh.1 x (by rw [take_snoc hx]; simp), hh.2⟩
          · rintro ⟨h1, h2⟩
            refine ⟨fun l hl => ?_, h2⟩
            rw [take_snoc hx, List.mem_append] at hl
            rcases hl with hl | hl
            · exact hnm.1 l hl
            · rw [List.mem_singleton.1 hl]; exact h1
        refine WP.mono (K := fun o e g' => o = .normal ∧ g' = g ∧ e.length = 30 ∧ nth e 6 = lv ∧ nth e 7 = .int .i64 ls.length ∧ nth e 8 = .int .i64 (i : Nat) ∧ nth e 3 = .int .i64 (nameLen (ls.take (i + 1)) : Nat) ∧ nth e 28 = .bool (!decide ((1 ≤ x.length ∧ x.length ≤ 63) ∧ nameLen (ls.take (i + 1)) ≤ 255))) ?_ ?_
        · apply WP.region
          by_cases c1 : x.length < 1
          · have d1 : ((x.length : Int) < 1) := by omega
            simp [hl, hlx, h6, h7, h8, guardA, d1, hw1, hw2]
            exact .inl (.inl (List.length_eq_zero_iff.1 (by omega)))
          · have d1 : ¬ ((x.length : Int) < 1) := by omega
            by_cases c2 : 63 < x.length
            · have d2 : ((63 : Int) < x.length) := by omega
              simp [hl, hlx, h6, h7, h8, guardA, d1, d2]
              omega
            · have d2 : ¬ ((63 : Int) < x.length) := by omega
              by_cases c3 : 255 < nameLen (ls.take (i + 1))
              · have d3 : ((255 : Int) < (nameLen (ls.take (i + 1)) : Nat)) := by omega
                simp [hl, hlx, h6, h7, h8, guardA, d1, d2, d3]
                omega
              · have d3 : ¬ ((255 : Int) < (nameLen (ls.take (i + 1)) : Nat)) := by omega
                simp [hl, hlx, h6, h7, h8, guardA, d1, d2, d3]
                omega
        rintro o e g' ⟨rfl, rfl, hl, h6, h7, h8, h3, h28⟩
        simp
        repeat apply WP.seq
        apply WP.cond (t := !decide ((1 ≤ x.length ∧ x.length ≤ 63) ∧ nameLen (ls.take (i + 1)) ≤ 255)) (by simp [h28])
        · intro hc
          have hc : ¬ ((1 ≤ x.length ∧ x.length ≤ 63) ∧ nameLen (ls.take (i + 1)) ≤ 255) := by
            rw [Bool.not_eq_true'] at hc; exact of_decide_eq_false hc
          apply WP.seq; apply WP.region; simp [hl]
          apply WP.ret
          simp [hl, resultsA, resultA, single]
          cases hb : namedB ls with
          | false => rfl
          | true =>
            exfalso
            have hN2 := namedB_ok hb
            exact hc ⟨hN2.1 x hxm, Nat.le_trans (nameLen_take _ _) hN2.2⟩
        · intro hc
          have hc : (1 ≤ x.length ∧ x.length ≤ 63) ∧ nameLen (ls.take (i + 1)) ≤ 255 := by simpa using hc
          apply WP.skip; simp
          apply WP.region; simp [hl, h8, int_wrap (show i < 9223372036854775807 by omega)]
          refine ⟨ls.length - (i + 1), by omega, by simp [h6], by simp [h7], i + 1, by omega, rfl, by simp, by simp [h3], hN.2 hc⟩
      · intro hge
        have hge : ¬ i < ls.length := by simpa using hge
        have hi' : i = ls.length := by omega
        subst hi'
        apply WP.exit
        simp
        repeat apply WP.seq
        apply WP.region; simp [hl]
        apply WP.ret
        simp [hl, resultsA, resultA, single]
        rw [List.take_length] at hnm
        exact namedB_of hnm
    · refine ⟨rfl, by simp [hl], by simp [hl], by simp [hl], 0, by omega, by omega, by simp [hl], by simp [hl, nameLen], ⟨by simp, by simp [nameLen]⟩⟩
  obtain ⟨_, _, h1, rfl, rfl⟩ := main
  exact h1
end
end Go.Am

namespace Go.Am
open Go.RowKit Go.Proofs

def labelsOf : List AV → Option (List (List UInt8))
  | [] => some []
  | .str s :: r => match labelsOf r with | some ls => some (s :: ls) | none => none
  | _ => none
theorem labelsOf_some : ∀ {xs : List AV} {ls : List (List UInt8)}, labelsOf xs = some ls → xs = strs ls
  | [], ls, h => by simp only [labelsOf, Option.some.injEq] at h; subst h; rfl
  | x :: r, ls, h => by
    cases x <;> simp only [labelsOf] at h <;> first | (cases h; done) | skip
    split at h
    · rename_i ls' h1
      cases h
      rw [labelsOf_some h1]; rfl
    · cases h
def capB (n : Nat) : Cap → Bool
  | .exact m => Nat.ble n m
  | .tip e => Nat.beq e 1
  | .dim => true
/-- The labels that a list in memory shows. -/
def readL (h : Heap) : AV → Option (List (List UInt8))
  | .slice (some l) n c =>
    (match h.get l.id with
    | some (.cells cs _) => bif capB n c && Nat.ble (l.off + n) cs.length then labelsOf ((cs.drop l.off).take n) else none
    | _ => none)
  | _ => none
theorem readL_sl {h : Heap} {v : AV} {ls : List (List UInt8)} (hr : readL h v = some ls) : Sl h v (strs ls) := by
  unfold readL at hr
  split at hr
  · rename_i l n c
    split at hr
    · rename_i cs k hg
      cases hc : (capB n c && Nat.ble (l.off + n) cs.length) with
      | false => rw [hc] at hr; cases hr
      | true =>
        rw [hc, cond_true] at hr
        rw [Bool.and_eq_true] at hc
        have h2 := (ble_iff _ _).1 hc.2
        have h3 := labelsOf_some hr
        have hlen : ((cs.drop l.off).take n).length = n := by simp; omega
        refine ⟨⟨by rw [← h3, hlen], ?_⟩, .inr ⟨cs, k, hg, h2, h3⟩⟩
        have h1 := hc.1
        cases c with
        | exact m => exact (ble_iff _ _).1 h1
        | tip e => exact Nat.eq_of_beq_eq_true h1
        | dim => trivial
    · cases hr
  · cases hr
def in16 (x : Int) : Bool := decide (0 ≤ x) && decide (x < 65536)
theorem in16_ok {x : Int} (h : in16 x = true) : u16In x := by simpa [in16, u16In] using h
def ovBegin : CallF := fun f args h => bif Nat.beq f 15 then
  (match args with
  | [.agg [.int .u16 id, .int .i64 op, .bool w, lv, .int .u16 ty, .int .u16 cl], .int .i64 fl, .int .i64 ans] =>
    (match readL h lv with
    | some ls => bif in16 id && in16 ty && in16 cl && in16 fl && decide (0 ≤ op) && decide (op ≤ 15) && namedB ls then
        some (.ret (.slice (some ⟨h.next, 0⟩) (Qu.bytes ⟨id, op, w, ls, ty, cl⟩ fl ans).length (.tip 1)) (h.alloc (.cells (bytesA (Qu.bytes ⟨id, op, w, ls, ty, cl⟩ fl ans)) .own)))
      else none
    | none => none)
  | _ => none) else none
theorem wf_R {P : Program} {φ : List Emb} {h : Heap} {w0 w : World} (hR : R P φ h w0 w) : Wf h := fun _ _ hi => hR.lt hi
theorem ovBegin_ok : CallsOk Try.prog ovBegin := by
  intro f args h r hr
  unfold ovBegin at hr
  cases hf : Nat.beq f 15 with
  | false => rw [hf] at hr; cases hr
  | true =>
    rw [hf, cond_true] at hr
    have := Nat.eq_of_beq_eq_true hf
    subst this
    split at hr
    · rename_i id op w lv ty cl fl ans
      split at hr
      · rename_i ls hl
        cases hc : (in16 id && in16 ty && in16 cl && in16 fl && decide (0 ≤ op) && decide (op ≤ 15) && namedB ls) with
        | false => rw [hc] at hr; cases hr
        | true =>
          rw [hc, cond_true] at hr
          cases hr
          simp only [Bool.and_eq_true, decide_eq_true_eq] at hc
          obtain ⟨⟨⟨⟨⟨⟨c1, c2⟩, c3⟩, c4⟩, c5⟩, c6⟩, c7⟩ := hc
          intro φ w0 w' args' hR hV
          exact begin_ok (q := ⟨id, op, w, ls, ty, cl⟩) (wf_R hR) ⟨in16_ok c1, ⟨c5, c6⟩, namedB_ok c7, in16_ok c2, in16_ok c3⟩ (readL_sl hl) (in16_ok c4) φ w0 w' args' hR hV
      · cases hr
    · cases hr
theorem alive_run : isTrue (callX (drawA Try.prog) (fun f => Nat.beq f 25) ovBegin Try.prog 100 20 5 [] (heap0 Try.prog)) = true := by kernel_rfl
theorem alive_ok : CallsOk Try.prog (ovTrue 5) := ovTrue_okX fns_ok mixed_ok ovBegin_ok alive_run
end Go.Am

set_option linter.unusedSimpArgs false
namespace Go.Am
open Go.RowKit Go.Proofs

/-- A record. -/
structure Rec where
  ty : Int
  ttl : Int
  a0 : UInt8
  a1 : UInt8
  a2 : UInt8
  a3 : UInt8
  port : Int
  target : List (List UInt8)
def u32In (x : Int) : Prop := 0 ≤ x ∧ x < 4294967296
structure Rec.Ok (x : Rec) : Prop where
  ty : x.ty = 1 ∨ x.ty = 33
  ttl : u32In x.ttl
  port : u16In x.port
  target : x.ty = 33 → Named x.target
def Rec.addr (x : Rec) : List UInt8 := [x.a0, x.a1, x.a2, x.a3]
def Rec.cells (x : Rec) (tv : AV) : List AV := [.int .u16 x.ty, .int .u32 x.ttl, byteA x.a0, byteA x.a1, byteA x.a2, byteA x.a3, .int .u16 x.port, tv]
def Rec.data (x : Rec) : List UInt8 := if x.ty = 1 then x.addr else be2s [1, 1, x.port] ++ encName x.target
def Rec.head (x : Rec) : List UInt8 := be2s [49164, x.ty, 1, x.ttl / 65536, x.ttl % 65536]
def Rec.bytes (x : Rec) : List UInt8 := x.head ++ be2s [(x.data.length : Nat)] ++ x.data
theorem Rec.data_length {x : Rec} (hx : x.Ok) : x.data.length ≤ 261 := by
  unfold Rec.data
  split
  · simp [Rec.addr]
  · rename_i h
    have := hx.ty.resolve_left h
    have := (hx.target this).2
    rw [List.length_append, be2s_length, encName_length]
    simp; omega
theorem Rec.head_length (x : Rec) : x.head.length = 10 := be2s_length _
theorem Rec.bytes_length (x : Rec) : x.bytes.length = 12 + x.data.length := by
  simp only [Rec.bytes, List.length_append, Rec.head_length, be2s_length, List.length_singleton]

theorem shr16 {h : Heap} {n : Int} {xo yo : Operand} : binA Try.prog h .shr 39 xo yo (.int .u32 n) (.int .u64 16) = some (.int .u32 (n / 65536)) := by
  simp [binA, shiftA, IntKind.bits, Int.fdiv_eq_ediv_of_nonneg]
theorem and16 {h : Heap} {n : Int} {xo yo : Operand} (hn : u32In n) : binA Try.prog h .and 39 xo yo (.int .u32 n) (.int .u32 65535) = some (.int .u32 (n % 65536)) := by
  have he : binA Try.prog h .and 39 xo yo (.int .u32 n) (.int .u32 65535) = some (.int .u32 (IntKind.wrap .u32 ((BitVec.ofInt 32 n &&& BitVec.ofInt 32 65535).toNat : Nat))) := rfl
  have h1 : (BitVec.ofInt 32 n).toNat = n.toNat := by rw [BitVec.toNat_ofInt]; have := hn.1; have := hn.2; omega
  have h2 : (BitVec.ofInt 32 65535).toNat = 2 ^ 16 - 1 := by decide
  rw [he, BitVec.toNat_and, h1, h2, Nat.and_two_pow_sub_one_eq_mod]
  have h3 : IntKind.wrap .u32 ((n.toNat % 2 ^ 16 : Nat) : Int) = n % 65536 := by
    have := hn.1
    simp only [IntKind.wrap, IntKind.bits, IntKind.signed]
    simp
    omega
  rw [h3]
theorem conv39_3 {h : Heap} {x : Int} {k : IntKind} (h1 : 0 ≤ x) (h2 : x < 4294967296) : convertA Try.prog h 39 3 (.int k x) = some (.int .i64 x, h) := by
  have h3 : IntKind.wrap .i64 x = x := wrap_small (by omega) (by omega)
  simp [convertA, u39, u3, h3]
theorem slice40 {l : Loc} : sliceA Try.prog 40 (.ptr (some l)) none none none = some (.slice (some l) 4 (.exact 4)) := by
  have h : sliceA Try.prog 40 (.ptr (some l)) none none none = some (.slice (some ⟨l.id, l.off + 0⟩) 4 (.exact 4)) := by kernel_rfl
  exact h

section
variable {ov : CallF}
set_option maxHeartbeats 1000000 in
theorem record_ok (O : DOv ov) {h : Heap} (hw : Wf h) {x : Rec} (hx : x.Ok) {tv : AV} (htv : Sl h tv (strs x.target)) :
    ∃ v h', callT ov Try.prog 16 [.agg (x.cells tv)] h = some (.ret v h') ∧ Acc h.next h' v (bytesA x.bytes) ∧ Keep [] h h' := by
  have hov26 : ∀ a h, ov 26 a h = none := fun a h => O 26 (by decide) (by decide) (by decide) a h
  have hov27 : ∀ a h, ov 27 a h = none := fun a h => O 27 (by decide) (by decide) (by decide) a h
  refine callT_wp (fn := Try.f16) (O 16 (by decide) (by decide) (by decide) _ _) (by kernel_rfl) rfl ?_
  have hl : (frameA Try.f16 [.agg (x.cells tv)]).length = 42 := frameA_length (Nat.le_of_ble_eq_true rfl)
  have h0 : nth (frameA Try.f16 [.agg (x.cells tv)]) 0 = .agg (x.cells tv) := frameA_nth (Nat.le_of_ble_eq_true rfl)
  generalize frameA Try.f16 [.agg (x.cells tv)] = e at hl h0
  obtain ⟨sl, sc, htveq⟩ := htv.slice
  have hcells : cellsA (.agg (x.cells tv)) = some (x.cells tv) := rfl
  have hbx := box_agg (h := h) hcells
  have hk1 := (Keep.refl (ex := []) hw).alloc (.cells (x.cells tv) .own)
  have hg1 := Heap.get_alloc h (.cells (x.cells tv) .own)
  have hn1 : (h.alloc (.cells (x.cells tv) .own)).next = h.next + 1 := Heap.next_alloc _ _
  generalize h.alloc (.cells (x.cells tv) .own) = g1 at hbx hk1 hg1 hn1
  have hld : ∀ {ex : List Nat} {g : Heap}, Keep ex g1 g → (∀ i ∈ ex, g1.next ≤ i) → g.get h.next = some (.cells (x.cells tv) .own) := fun hk hx => hk.get _ _ hg1 (fun hm => by have := hx _ hm; omega)
  have ld : ∀ {g : Heap}, g.get h.next = some (.cells (x.cells tv) .own) → loadA Try.prog g 23 ⟨h.next, 0⟩ = some (.int .u16 x.ty) ∧ loadA Try.prog g 39 ⟨h.next, 1⟩ = some (.int .u32 x.ttl) ∧ loadA Try.prog g 23 ⟨h.next, 6⟩ = some (.int .u16 x.port) ∧ loadA Try.prog g 24 ⟨h.next, 7⟩ = some tv := fun hg =>
    ⟨load_cell a23 hg rfl, load_cell a39 hg rfl, load_cell a23 hg rfl, load_cell a24 hg rfl⟩
  obtain ⟨d0, d1, d6, d7⟩ := ld hg1
  have hty : u16In x.ty := by rcases hx.ty with h | h <;> simp [u16In, h]
  have httl := hx.ttl
  have hq1 : 0 ≤ x.ttl / 65536 := Int.ediv_nonneg httl.1 (by omega)
  have hq2 : x.ttl / 65536 < 4294967296 := by have := httl.2; have := httl.1; omega
  have hr1 : 0 ≤ x.ttl % 65536 := Int.emod_nonneg _ (by omega)
  have hr2 : x.ttl % 65536 < 4294967296 := by omega
  repeat apply WP.seq
  apply WP.region; simp [hl, h0, hbx]
  repeat apply WP.seq
  have hbl := b54_5 (h := g1) (a := 49164) (b := x.ty) (c := 1) (d := x.ttl / 65536) (e := x.ttl % 65536)
  have hk2 := (Keep.refl (ex := []) hk1.wf).alloc (.cells (ints [49164, x.ty, 1, x.ttl / 65536, x.ttl % 65536]) .own)
  have hg2 := Heap.get_alloc g1 (.cells (ints [49164, x.ty, 1, x.ttl / 65536, x.ttl % 65536]) .own)
  generalize g1.alloc (.cells (ints [49164, x.ty, 1, x.ttl / 65536, x.ttl % 65536]) .own) = g2 at hbl hk2 hg2
  obtain ⟨v1, g3, hc1, hw1⟩ := two_ok hov26 (n0 := g1.next) (ex := []) (v := .slice none 0 (.exact 0)) (bs := []) hk2.wf Acc.nil (by simp [idOf]) hk2.le (Sl.exact rfl hg2) (by simp) (by simp) (by simp)
  have hca1 : callA (callT ov Try.prog) Try.prog g2 26 [.slice none 0 (.exact 0), .slice (some ⟨g1.next, 0⟩) 5 (.exact 5)] = _ := hc1
  simp only [List.nil_append] at hw1
  apply WP.region; simp [hl, fa42, d0, d1, conv23_3 hty.1 hty.2, shr16, and16 httl, conv39_3 hq1 hq2, conv39_3 hr1 hr2, hbl, hca1]
  have hkg3 : Keep [] g1 g3 := hk2.into hw1.keep (by simp)
  have hv1 : ∀ i ∈ idsOf v1, g1.next ≤ i := fun i hi => hw1.acc.id (ids_mem hi)
  have hv1' : ∀ i ∈ idsOf v1, i < g3.next := fun i hi => hw1.acc.lt hw1.keep.wf (ids_mem hi)
  have htv1 : Sl g1 tv (strs x.target) := htv.keep hk1 (by simp)
  have htid : x.target ≠ [] → ∀ i, idOf tv = some i → i < g1.next := fun hne i hi => by have := htv.lt hw (by simpa [strs] using hne) hi; omega
  obtain ⟨e0, e1, e6, e7⟩ := ld (hld hkg3 (by simp))
  have hbn : (be2s [49164, x.ty, 1, x.ttl / 65536, x.ttl % 65536]).length = 10 := be2s_length _
  repeat apply WP.seq
  apply WP.region; simp [hl, fa42, e0]
  repeat apply WP.seq
  apply WP.cond (by simp [hl]; rfl)
  · intro hc
    have hc : x.ty = 1 := by simpa using hc
    have hdata : x.data = x.addr := by simp [Rec.data, hc]
    repeat apply WP.seq
    have hbl5 := b54_1 (h := g3) (a := 4)
    have hk5 := (Keep.refl (ex := []) hkg3.wf).alloc (.cells (ints [4]) .own)
    have hg5 := Heap.get_alloc g3 (.cells (ints [4]) .own)
    generalize g3.alloc (.cells (ints [4]) .own) = g5 at hbl5 hk5 hg5
    have hkg5 := hkg3.trans hk5
    obtain ⟨v3, g6, hc3, hw3⟩ := two_ok hov26 (n0 := g1.next) (ex := idsOf v1) (ns := [4]) hk5.wf (hw1.acc.keep2 hk5 (by simp)) (fun i hi => mem_ids hi) (by have := hkg5.le; omega) (Sl.exact rfl hg5) (by intro i hi hm; simp [idOf] at hi; have := hv1' i hm; omega) (by simp [hbn]) (by simp)
    have hca3 : callA (callT ov Try.prog) Try.prog g5 26 [v1, .slice (some ⟨g3.next, 0⟩) 1 (.exact 1)] = _ := hc3
    have hkg6 : Keep [] g1 g6 := hkg5.into hw3.keep (fun i hi => .inr (hv1 i hi))
    have hb6 := hld hkg6 (by simp)
    have hsl : Sl g6 (.slice (some ⟨h.next, 2⟩) 4 (.exact 4)) (bytesA x.addr) := ⟨⟨rfl, Nat.le_refl _⟩, .inr ⟨_, .own, hb6, by simp [Rec.cells], rfl⟩⟩
    obtain ⟨v4, g7, h7, hw7⟩ := (Wrote.start (ex := idsOf v3) hkg6.wf hw3.acc (fun i hi => mem_ids hi)).app hkg6.le (tu := 30) (ys := x.addr) (by simp [Rec.addr]) (hsl.src (P := Try.prog) u30 bytesA_ok) (by simp [hbn, be2s_length, Rec.addr])
    have hkg7 : Keep [] g1 g7 := hkg6.into hw7.keep (fun i hi => .inr (hw3.acc.id (ids_mem hi)))
    apply WP.draw (by kernel_rfl) (by kernel_rfl)
    simp [hl, hbl5, hca3, fa42, slice40, h7]
    apply WP.ret
    obtain ⟨l, c, rfl⟩ := hw7.acc.sl.slice
    have hfin := hw7.acc
    generalize (bytesA (be2s [49164, x.ty, 1, x.ttl / 65536, x.ttl % 65536] ++ be2s [4] ++ x.addr)).length = N at hfin
    simp [hl, resultsA, resultA, single]
    refine ⟨?_, hk1.trans hkg7⟩
    refine Acc.weaken ?_ (show h.next ≤ g1.next by omega)
    have := hw7.acc
    simp only [Rec.bytes, Rec.head, hdata]
    have hN : N = (bytesA (be2s [49164, x.ty, 1, x.ttl / 65536, x.ttl % 65536] ++ (be2s [4] ++ x.addr))).length := by
      rcases hfin with ⟨hh, _⟩ | ⟨i, _, _, hv, _⟩
      · simp [bytesA, be2s, be2] at hh
      · have := (AV.slice.inj hv).2.1
        rw [this, List.append_assoc]
    have h4 : ((x.addr.length : Nat) : Int) = 4 := rfl
    simp only [h4]
    exact hfin
  · intro hc
    have hc : x.ty ≠ 1 := by simpa using hc
    have hc33 := hx.ty.resolve_left hc
    have hnm := hx.target hc33
    have hnn : (encName x.target).length ≤ 255 := by rw [encName_length]; exact hnm.2
    have hdata : x.data = be2s [1, 1, x.port] ++ encName x.target := by simp [Rec.data, hc]
    have hdl := Rec.data_length hx
    apply WP.skip; simp
    repeat apply WP.seq
    have hbl5 := b54_3 (h := g3) (a := 1) (b := 1) (c := x.port)
    have hk5 := (Keep.refl (ex := []) hkg3.wf).alloc (.cells (ints [1, 1, x.port]) .own)
    have hg5 := Heap.get_alloc g3 (.cells (ints [1, 1, x.port]) .own)
    have hk5w : g3.next ≤ (g3.alloc (.cells (ints [1, 1, x.port]) .own)).next := hk5.le
    generalize g3.alloc (.cells (ints [1, 1, x.port]) .own) = g5 at hbl5 hk5 hg5 hk5w
    have hkg5 := hkg3.trans hk5
    obtain ⟨v2, g6, hc2, hw2⟩ := two_ok hov26 (n0 := g3.next) (ex := []) (v := .slice none 0 (.exact 0)) (bs := []) (ns := [1, 1, x.port]) hk5.wf Acc.nil (by simp [idOf]) hk5w (Sl.exact rfl hg5) (by simp) (by simp) (by simp)
    have hca2 : callA (callT ov Try.prog) Try.prog g5 26 [.slice none 0 (.exact 0), .slice (some ⟨g3.next, 0⟩) 3 (.exact 3)] = _ := hc2
    simp only [List.nil_append] at hw2
    have hkg6 : Keep [] g3 g6 := hk5.into hw2.keep (by simp)
    have hb3 : (be2s [1, 1, x.port]).length = 6 := be2s_length _
    obtain ⟨v4, g7, hc7, hw7⟩ := name_ok hov27 (n0 := g3.next) (ex := idsOf v2) hkg6.wf hw2.acc (fun i hi => mem_ids hi) hkg6.le ((htv1.keep hkg3 (by simp)).keep hkg6 (by simp)) (fun hne i hi hm => by have := htid hne i hi; have := hw2.acc.id (ids_mem hm); have := hkg3.le; omega) (by omega) hnm
    have hca7 : callA (callT ov Try.prog) Try.prog g6 27 [v2, tv] = _ := hc7
    have hkg7 : Keep [] g3 g7 := hkg6.into hw7.keep (fun i hi => .inr (hw2.acc.id (ids_mem hi)))
    obtain ⟨f0, f1, f6, f7⟩ := ld (hld (hkg3.trans hkg6) (by simp))
    have hdata7 : Acc g3.next g7 v4 (bytesA x.data) := by rw [hdata]; exact hw7.acc
    obtain ⟨dl, dc, hv4⟩ := hdata7.sl.slice
    have hl4 : v4 = .slice dl x.data.length dc := by rw [hv4, bytesA_length]
    refine WP.mono (K := fun o e g => o = .normal ∧ g = g7 ∧ e.length = 42 ∧ nth e 3 = v1 ∧ nth e 4 = v4) ?_ ?_
    · obtain ⟨k0, k1, k6, k7⟩ := ld (hld (hkg3.trans hk5) (by simp))
      obtain ⟨m0, m1, m6, m7⟩ := ld (hld (hkg3.trans hkg7) (by simp))
      refine WP.drawDyn (by kernel_rfl) (dynOk_tw (pl := [(1, 3), (6, 3), (6, 4), (6, 7)]) (by kernel_rfl) ?_) ?_
      · simp [hl, fa42, e6, e7, k6, k7, m6, m7, f6, conv23_3 hx.port.1 hx.port.2, hbl5, hca2, f7, hca7, loadSame]
      · simp [hl, fa42, e6, conv23_3 hx.port.1 hx.port.2, hbl5, hca2, f7, hca7]
    rintro o e g ⟨rfl, rfl, hl, h3, h4⟩
    simp
    repeat apply WP.seq
    have hbl8 := b54_1 (h := g) (a := x.data.length)
    have hk8 := (Keep.refl (ex := []) hkg7.wf).alloc (.cells (ints [(x.data.length : Int)]) .own)
    have hg8 := Heap.get_alloc g (.cells (ints [(x.data.length : Int)]) .own)
    generalize g.alloc (.cells (ints [(x.data.length : Int)]) .own) = g8 at hbl8 hk8 hg8
    have hkg8 : Keep [] g3 g8 := hkg7.trans hk8
    obtain ⟨v9, g9, hc9, hw9⟩ := two_ok hov26 (n0 := g1.next) (ex := idsOf v1) (ns := [(x.data.length : Int)]) hk8.wf (hw1.acc.keep2 hkg8 (by simp)) (fun i hi => mem_ids hi) (by have := hkg3.le; have := hkg8.le; omega) (Sl.exact rfl hg8) (by intro i hi hm; simp [idOf] at hi; have := hv1' i hm; have := hkg7.le; omega) (by simp [hbn]) (by simp)
    have hca9 : callA (callT ov Try.prog) Try.prog g8 26 [v1, .slice (some ⟨g.next, 0⟩) 1 (.exact 1)] = _ := hc9
    have hlen4 : ∀ h, lenA Try.prog h 30 v4 = some (.int .i64 (x.data.length : Nat)) := fun h => by rw [hl4]; simp [lenA, u30]
    have hdata9 : Sl g9 v4 (bytesA x.data) := (hdata7.sl.keep hk8 (by simp)).keep hw9.keep (fun i hi hm => by have := hdata7.id hi; have := hv1' i hm; omega)
    have hkg9 : Keep [] g1 g9 := (hkg3.trans hkg8).into hw9.keep (fun i hi => .inr (hv1 i hi))
    obtain ⟨v10, g10, h10, hw10⟩ := (Wrote.start (ex := idsOf v9) hkg9.wf hw9.acc (fun i hi => mem_ids hi)).app hkg9.le (tu := 30) (ys := x.data) (by rw [hdata]; simp [be2s, be2]) (by have := hdata9.src (P := Try.prog) u30 bytesA_ok; rw [bytesA_length] at this; exact this) (by simp [hbn, be2s_length]; omega)
    have hkg10 : Keep [] g1 g10 := hkg9.into hw10.keep (fun i hi => .inr (hw9.acc.id (ids_mem hi)))
    apply WP.region; simp [hl, h3, h4, hlen4, hbl8, hca9, h10]
    apply WP.ret
    obtain ⟨l, c, rfl⟩ := hw10.acc.sl.slice
    simp [hl, resultsA, resultA, single]
    refine ⟨?_, hk1.trans hkg10⟩
    have := hw10.acc.weaken (show h.next ≤ g1.next by omega)
    simpa [Rec.bytes, Rec.head] using this
end
end Go.Am

set_option linter.unusedSimpArgs false
namespace Go.Am
open Go.RowKit Go.Proofs

/-- A variable of the function's own, filled at once. -/
structure Var (h g1 g : Heap) (t : TypeId) (ds : List AV) : Prop where
  al : allocA Try.prog h t = some (.ptr (some ⟨h.next, 0⟩), g1)
  st : storeA Try.prog g1 t ⟨h.next, 0⟩ (.agg ds) = some g
  get : g.get h.next = some (.cells ds .own)
  keep : Keep [] h g
  next : g.next = h.next + 1
theorem var_of {h : Heap} (hw : Wf h) {t : TypeId} {n : Nat} {zs ds : List AV} (ha : allocA Try.prog h t = some (.ptr (some ⟨h.next, 0⟩), h.alloc (.cells zs .own))) (hs : sizeA Try.prog t = some n) (hz : zs.length = n) (hd : ds.length = n) (hok : cellsOk ds = true) : ∃ g1 g, Var h g1 g t ds :=
  ⟨h.alloc (.cells zs .own), (h.alloc (.cells zs .own)).set h.next (.cells ds .own),
    ha, store_whole hs (Heap.get_alloc _ _) hz hd hok, Heap.get_set _ _ _, ((Keep.refl hw).alloc _).set _ (by rw [Heap.next_alloc]; omega) (.inr (Nat.le_refl _)), by rw [Heap.next_set, Heap.next_alloc]⟩
theorem al26 {h : Heap} : allocA Try.prog h 26 = some (.ptr (some ⟨h.next, 0⟩), h.alloc (.cells [.int .u16 0, .int .i64 0, .bool false, .slice none 0 (.exact 0), .int .u16 0, .int .u16 0] .own)) := by kernel_rfl
theorem al29 {h : Heap} : allocA Try.prog h 29 = some (.ptr (some ⟨h.next, 0⟩), h.alloc (.cells [.int .u16 0, .int .i64 0, .bool false, .slice none 0 (.exact 0), .int .u16 0, .int .u16 0, .int .i64 0, .bool false, .slice none 0 (.exact 0)] .own)) := by kernel_rfl
theorem al42 {h : Heap} : allocA Try.prog h 42 = some (.ptr (some ⟨h.next, 0⟩), h.alloc (.cells [.int .u16 0, .int .u32 0, .int .u8 0, .int .u8 0, .int .u8 0, .int .u8 0, .int .u16 0, .slice none 0 (.exact 0)] .own)) := by kernel_rfl

structure Qu.In (q : Qu) : Prop where
  id : u16In q.id
  ty : u16In q.ty
  cl : u16In q.cl
  ll : q.labels.length ≤ 10000000 ∧ ∀ l ∈ q.labels, l.length ≤ 10000000
structure Rec.In (x : Rec) : Prop where
  ty : u16In x.ty
  ttl : u32In x.ttl
  port : u16In x.port
  ll : x.target.length ≤ 10000000 ∧ ∀ l ∈ x.target, l.length ≤ 10000000
/-- A reply. -/
structure Rep where
  q : Qu
  rcode : Int
  cut : Bool
  recs : List Rec
def Rep.cells (r : Rep) (lv rv : AV) : List AV := [.int .u16 r.q.id, .int .i64 r.q.op, .bool r.q.wish, lv, .int .u16 r.q.ty, .int .u16 r.q.cl, .int .i64 r.rcode, .bool r.cut, rv]
structure Rep.In (r : Rep) : Prop where
  q : r.q.In
  n : r.recs.length ≤ 10000000
  recs : ∀ x ∈ r.recs, x.In

/-- Records in memory. -/
def RecsAt (h : Heap) (rv : AV) (ps : List (Rec × AV)) : Prop := Slr h 8 rv (ps.map fun p => p.1.cells p.2) ∧ ∀ p ∈ ps, Sl h p.2 (strs p.1.target)
theorem RecsAt.keep {h0 h : Heap} (hk : Keep [] h0 h) {rv : AV} {ps : List (Rec × AV)} (hr : RecsAt h0 rv ps) : RecsAt h rv ps :=
  ⟨hr.1.keep' hk (by simp), fun p hp => (hr.2 p hp).keep hk (by simp)⟩
theorem RecsAt.len {h : Heap} {rv : AV} {ps : List (Rec × AV)} (hr : RecsAt h rv ps) (h' : Heap) : lenA Try.prog h' 27 rv = some (.int .i64 ps.length) := by
  have := hr.1.len (P := Try.prog) h' u27
  simpa using this
theorem RecsAt.at {h : Heap} {rv : AV} {ps : List (Rec × AV)} (hr : RecsAt h rv ps) {i : Nat} {p : Rec × AV} (hp : ps[i]? = some p) {k : IntKind} :
    ∃ l, indexAddrA Try.prog 27 rv (.int k (i : Int)) = some (.ptr (some l)) ∧ loadA Try.prog h 42 l = some (.agg (p.1.cells p.2)) := by
  obtain ⟨l, h1, h2, _⟩ := hr.1.at (P := Try.prog) u27 s42 a42 (i := i) (r := p.1.cells p.2) (by simp [hp]) (k := k)
  exact ⟨l, h1, h2⟩
theorem recOk {x : Rec} {tv : AV} (h : cellOk tv = true) : cellsOk (x.cells tv) = true := by
  unfold Rec.cells
  cases tv <;> simp_all [cellsOk, cellOk, byteA]

def Rec.bad (x : Rec) : Bool := x.ty != 1 && x.ty != 33
def Rec.odd (x : Rec) : Bool := x.ty == 33 && !namedB x.target
def Rep.bad0 (r : Rep) : Bool := decide (r.q.op < 0) || decide (15 < r.q.op) || decide (r.rcode < 0) || decide (15 < r.rcode)
def Rep.bad (r : Rep) : Bool := r.bad0 || r.recs.any Rec.bad
def Rep.odd (r : Rep) : Bool := !namedB r.q.labels || r.recs.any Rec.odd
def Rep.err (r : Rep) : Int := if r.bad then 202 else if r.odd then 201 else 0

theorem any_snoc {α : Type} {f : α → Bool} {xs : List α} {x : α} : (xs ++ [x]).any f = (xs.any f || f x) := by simp

section
variable {ov : CallF}
set_option maxHeartbeats 1000000 in
theorem right_ok (O : DOv ov) {h : Heap} (hw : Wf h) {q : Qu} {rcode : Int} {cut : Bool} {ps : List (Rec × AV)} {r : Rep} (hr : r = ⟨q, rcode, cut, ps.map Prod.fst⟩) (hin : r.In) {lv rv : AV} (hlv : Sl h lv (strs q.labels)) (hrv : RecsAt h rv ps) :
    ∃ h', callT ov Try.prog 14 [.agg (r.cells lv rv)] h = some (.ret (.int .i64 r.err) h') ∧ Keep [] h h' := by
  have main : ∃ u h', callT ov Try.prog 14 [.agg (r.cells lv rv)] h = some (.ret u h') ∧ u = .int .i64 r.err ∧ Keep [] h h' := by
    refine callT_wp (fn := Try.f14) (O 14 (by decide) (by decide) (by decide) _ _) (by kernel_rfl) rfl ?_
    have hl : (frameA Try.f14 [.agg (r.cells lv rv)]).length = 67 := frameA_length (Nat.le_of_ble_eq_true rfl)
    have h0 : nth (frameA Try.f14 [.agg (r.cells lv rv)]) 0 = .agg (r.cells lv rv) := frameA_nth (Nat.le_of_ble_eq_true rfl)
    generalize frameA Try.f14 [.agg (r.cells lv rv)] = e at hl h0
    have hcells : r.cells lv rv = [.int .u16 q.id, .int .i64 q.op, .bool q.wish, lv, .int .u16 q.ty, .int .u16 q.cl, .int .i64 rcode, .bool cut, rv] := by rw [hr]; rfl
    have hlvo := sl_cellOk hlv
    have hrvo : cellOk rv = true := by obtain ⟨l, c, rfl⟩ := hrv.1.slice; rfl
    obtain ⟨ll, lc, hlve⟩ := hlv.slice
    obtain ⟨rl, rc, hrve⟩ := hrv.1.slice
    have hcl : cellsA (.agg (r.cells lv rv)) = some (r.cells lv rv) := rfl
    have hbx := box_agg (h := h) hcl
    have hk1 := (Keep.refl (ex := []) hw).alloc (.cells (r.cells lv rv) .own)
    have hg1 := Heap.get_alloc h (.cells (r.cells lv rv) .own)
    generalize h.alloc (.cells (r.cells lv rv) .own) = g1 at hbx hk1 hg1
    rw [hcells] at hg1
    generalize h.next = G at hbx hg1
    have hqin : q.In := by have := hin.q; rw [hr] at this; exact this
    have l26 : loadA Try.prog g1 26 ⟨G, 0⟩ = some (.agg (q.cells lv)) := by
      rw [load_agg a26 s26 hg1 (by simp)]; rfl
    obtain ⟨g2, g3, hv⟩ := var_of (ds := q.cells lv) hk1.wf al26 s26 rfl rfl (by rw [hlve]; simp [Qu.cells, cellsOk, cellOk])
    have hk3 : Keep [] h g3 := hk1.trans hv.keep
    have hgq := hv.get
    have hal := hv.al
    have hst := hv.st
    have hgr : g3.get G = some (.cells [.int .u16 q.id, .int .i64 q.op, .bool q.wish, lv, .int .u16 q.ty, .int .u16 q.cl, .int .i64 rcode, .bool cut, rv] .own) := hv.keep.get _ _ hg1 (by simp)
    generalize g1.next = D at hgq hal hst
    have m1 : loadA Try.prog g3 3 ⟨D, 1⟩ = some (.int .i64 q.op) := load_cell a3 hgq rfl
    have m3 : loadA Try.prog g3 24 ⟨D, 3⟩ = some lv := load_cell a24 hgq rfl
    have m6 : loadA Try.prog g3 3 ⟨G, 6⟩ = some (.int .i64 rcode) := load_cell a3 hgr rfl
    have m8 : loadA Try.prog g3 27 ⟨G, 8⟩ = some rv := load_cell a27 hgr rfl
    have hnd := named_ok O (hlv.keep hk3 (by simp)) hqin.ll.1 hqin.ll.2
    have hca : callA (callT ov Try.prog) Try.prog g3 23 [lv] = _ := hnd
    have hrlen := hrv.len
    have hpn : ps.length ≤ 10000000 := by have := hin.n; rw [hr] at this; simpa using this
    have hrin : ∀ p ∈ ps, p.1.In := fun p hp => hin.recs p.1 (by rw [hr]; exact List.mem_map_of_mem hp)
    repeat apply WP.seq
    apply WP.region; simp [hl, h0, hbx]
    repeat apply WP.seq
    apply WP.region; simp [hl, fa29, l26, hal, storeR_ptr hst]
    repeat apply WP.seq
    refine WP.mono (K := fun o e g => o = .normal ∧ g = g3 ∧ e.length = 67 ∧ nth e 1 = .ptr (some ⟨G, 0⟩) ∧ nth e 2 = .int .i64 0 ∧ nth e 3 = .ptr (some ⟨D, 0⟩) ∧ nth e 4 = .bool r.bad0) ?_ ?_
    · apply WP.region
      have hb0 : r.bad0 = (decide (q.op < 0) || decide (15 < q.op) || decide (rcode < 0) || decide (15 < rcode)) := by rw [hr]; rfl
      rw [hb0]
      by_cases c1 : q.op < 0
      · simp [hl, fa26, fa29, m1, m6, guardA, c1]
      · by_cases c2 : 15 < q.op
        · simp [hl, fa26, fa29, m1, m6, guardA, c1, c2]
        · by_cases c3 : rcode < 0
          · simp [hl, fa26, fa29, m1, m6, guardA, c1, c2, c3]
          · by_cases c4 : 15 < rcode
            · simp [hl, fa26, fa29, m1, m6, guardA, c1, c2, c3, c4]
            · simp [hl, fa26, fa29, m1, m6, guardA, c1, c2, c3, c4]
    rintro o e g ⟨rfl, rfl, hl, h1, h2, h3, h4⟩
    simp
    repeat apply WP.seq
    apply WP.region; simp [hl, h3, fa26, m3, hca]
    repeat apply WP.seq
    apply WP.region; simp [hl, h1, fa29, m8, hrlen]
    repeat apply WP.seq
    refine WP.mono (K := fun o e g' => o = .normal ∧ e.length = 67 ∧ nth e 4 = .bool r.bad ∧ nth e 5 = .bool r.odd ∧ Keep [] g g') ?_ ?_
    · apply WP.block
      refine WP.loop (fun n e g' => e.length = 67 ∧ nth e 33 = rv ∧ nth e 34 = .int .i64 ps.length ∧ Keep [] g g' ∧ ∃ i, i ≤ ps.length ∧ n = ps.length - i ∧ nth e 35 = .int .i64 (i : Nat) ∧ nth e 4 = .bool (r.bad0 || ((ps.take i).map Prod.fst).any Rec.bad) ∧ nth e 5 = .bool (!namedB q.labels || ((ps.take i).map Prod.fst).any Rec.odd)) ?_ ps.length _ _ ?_
      · rintro n e g' ⟨hl, h33, h34, hkg, i, hi, rfl, h35, h4, h5⟩
        repeat apply WP.seq
        apply WP.region; simp [hl, h34, h35]
        repeat apply WP.seq
        apply WP.cond (by simp [hl]; rfl)
        · intro hlt1
          have hlt1 : i < ps.length := by simpa using hlt1
          apply WP.skip; simp
          repeat apply WP.seq
          apply WP.block
          obtain ⟨p, hp⟩ : ∃ p, ps[i]? = some p := ⟨ps[i], by simp [hlt1]⟩
          have hpm := List.mem_of_getElem? hp
          have hrg := (hrv.keep hk3).keep hkg
          obtain ⟨l1, hx1, hld1⟩ := hrg.at hp (k := .i64)
          have htv := hrg.2 p hpm
          have htvo := sl_cellOk htv
          obtain ⟨tl, tc, htve⟩ := htv.slice
          obtain ⟨g4, g5, hv5⟩ := var_of (ds := p.1.cells p.2) hkg.wf al42 s42 rfl rfl (recOk htvo)
          have hal5 := hv5.al
          have hst5 := hv5.st
          have hg5 := hv5.get
          generalize g'.next = X at hal5 hst5 hg5
          have n0 : loadA Try.prog g5 23 ⟨X, 0⟩ = some (.int .u16 p.1.ty) := load_cell a23 hg5 rfl
          have n7 : loadA Try.prog g5 24 ⟨X, 7⟩ = some p.2 := load_cell a24 hg5 rfl
          have hpin := hrin p hpm
          have hnd5 := named_ok O (htv.keep hv5.keep (by simp)) hpin.ll.1 hpin.ll.2
          have hca5 : callA (callT ov Try.prog) Try.prog g5 23 [p.2] = _ := hnd5
          have ht1 : ((ps.take (i + 1)).map Prod.fst).any Rec.bad = (((ps.take i).map Prod.fst).any Rec.bad || p.1.bad) := by rw [take_snoc hp, List.map_append]; exact any_snoc
          have ht2 : ((ps.take (i + 1)).map Prod.fst).any Rec.odd = (((ps.take i).map Prod.fst).any Rec.odd || p.1.odd) := by rw [take_snoc hp, List.map_append]; exact any_snoc
          have hB2 : (r.bad0 || ((ps.take (i + 1)).map Prod.fst).any Rec.bad) = ((r.bad0 || ((ps.take i).map Prod.fst).any Rec.bad) || p.1.bad) := by rw [ht1, Bool.or_assoc]
          have hC2 : (!namedB q.labels || ((ps.take (i + 1)).map Prod.fst).any Rec.odd) = ((!namedB q.labels || ((ps.take i).map Prod.fst).any Rec.odd) || p.1.odd) := by rw [ht2, Bool.or_assoc]
          generalize (r.bad0 || ((ps.take i).map Prod.fst).any Rec.bad) = B at h4 hB2
          generalize (!namedB q.labels || ((ps.take i).map Prod.fst).any Rec.odd) = C at h5 hC2
          repeat apply WP.seq
          apply WP.region; simp [hl, h33, h35, hx1, hld1, hal5, storeR_ptr hst5]
          repeat apply WP.seq
          refine WP.mono (K := fun o e g => o = .normal ∧ g = g5 ∧ e.length = 67 ∧ nth e 7 = .ptr (some ⟨X, 0⟩) ∧ nth e 33 = rv ∧ nth e 34 = .int .i64 ps.length ∧ nth e 35 = .int .i64 (i : Nat) ∧ nth e 5 = .bool C ∧ nth e 4 = .bool (B || p.1.bad)) ?_ ?_
          · apply WP.region
            unfold Rec.bad
            cases B with
            | true => simp [hl, h4, h5, h33, h34, h35, guardA]
            | false =>
              by_cases c1 : p.1.ty = 1
              · simp [hl, h4, h5, h33, h34, h35, guardA, fa42, n0, c1]
              · have c1' : (p.1.ty != 1) = true := by simpa using c1
                simp [hl, h4, h5, h33, h34, h35, guardA, fa42, n0, c1']
          rintro o e g8 ⟨rfl, rfl, hl, h7, h33, h34, h35, h5, h4⟩
          simp
          refine WP.mono (K := fun o e g' => o = .normal ∧ g' = g8 ∧ e.length = 67 ∧ nth e 33 = rv ∧ nth e 34 = .int .i64 ps.length ∧ nth e 35 = .int .i64 (i : Nat) ∧ nth e 4 = .bool (B || p.1.bad) ∧ nth e 5 = .bool (C || p.1.odd)) ?_ ?_
          · apply WP.region
            unfold Rec.odd
            cases C with
            | true => simp [hl, h4, h5, h7, h33, h34, h35, guardA]
            | false =>
              by_cases c1 : p.1.ty = 33
              · simp [hl, h4, h5, h7, h33, h34, h35, guardA, fa42, n0, n7, hca5, c1]
              · have c1' : (p.1.ty == 33) = false := by simpa using c1
                simp [hl, h4, h5, h7, h33, h34, h35, guardA, fa42, n0, c1']
          rintro o e g9 ⟨rfl, rfl, hl, h33, h34, h35, h4, h5⟩
          simp
          apply WP.region; simp [hl, h35, int_wrap (show i < 9223372036854775807 by omega)]
          exact ⟨ps.length - (i + 1), by omega, by simp [h33], by simp [h34], hkg.trans hv5.keep, i + 1, by omega, rfl, by simp, by rw [← List.map_take, hB2]; simpa using h4, by rw [← List.map_take, hC2]; simpa using h5⟩
        · intro hge
          have hge : ¬ i < ps.length := by simpa using hge
          have hi' : i = ps.length := by omega
          subst hi'
          rw [List.take_length] at h4 h5
          apply WP.exit
          simp
          refine ⟨by simp [hl], ?_, ?_, hkg⟩
          · rw [h4, Rep.bad, hr]
          · rw [h5, Rep.odd, hr]
      · exact ⟨by simp [hl], by simp [hl], by simp [hl], Keep.refl hk3.wf, 0, by omega, by omega, by simp [hl], by simp [hl, h4], by simp [hl]⟩
    rintro o e g' ⟨rfl, hl, h4, h5, hkg⟩
    simp
    repeat apply WP.seq
    refine WP.mono (K := fun o e g => g = g' ∧ e.length = 67 ∧ ((o = .ret ∧ r.err ≠ 0 ∧ nth e 2 = .int .i64 r.err) ∨ (o = .normal ∧ r.err = 0))) ?_ ?_
    · apply WP.block
      repeat apply WP.seq
      apply WP.region; simp [hl, h4]
      repeat apply WP.seq
      apply WP.cond (by simp [hl]; rfl)
      · intro hb
        repeat apply WP.seq
        apply WP.region; simp [hl]
        apply WP.ret
        have : r.err = 202 := by simp [Rep.err, hb]
        simp [this, hl]
      · intro hb
        repeat apply WP.seq
        apply WP.region; simp [hl, h5]
        repeat apply WP.seq
        apply WP.cond (by simp [hl]; rfl)
        · intro ho
          repeat apply WP.seq
          apply WP.region; simp [hl]
          apply WP.ret
          have : r.err = 201 := by simp [Rep.err, hb, ho]
          simp [this, hl]
        · intro ho
          apply WP.skip
          have : r.err = 0 := by simp [Rep.err, hb, ho]
          simp [this, hl]
    rintro o e g ⟨rfl, hl, ⟨rfl, hne, h2⟩ | ⟨rfl, he⟩⟩
    · simp
      simp [hl, h2, resultsA, resultA, single]
      exact hk3.trans hkg
    · simp
      apply WP.seq
      apply WP.region; simp [hl]
      apply WP.ret
      simp [hl, resultsA, resultA, single, he]
      exact hk3.trans hkg
  obtain ⟨_, h', h1, rfl, h2⟩ := main
  exact ⟨h', h1, h2⟩
end
end Go.Am

set_option linter.unusedSimpArgs false
namespace Go.Am
open Go.RowKit Go.Proofs

theorem Sl.unique {h : Heap} {v : AV} {xs ys : List AV} (h1 : Sl h v xs) (h2 : Sl h v ys) : xs = ys := by
  match v, h1, h2 with
  | .slice none n _, h1, h2 => rw [h1.2, h2.2]
  | .slice (some l) n _, h1, h2 =>
    obtain ⟨⟨a1, _⟩, a2⟩ := h1
    obtain ⟨⟨b1, _⟩, b2⟩ := h2
    by_cases hn : n = 0
    · subst hn
      rw [List.length_eq_zero_iff.1 a1, List.length_eq_zero_iff.1 b1]
    · obtain ⟨cs, k, hg, _, hx⟩ := a2.resolve_left hn
      obtain ⟨cs', k', hg', _, hy⟩ := b2.resolve_left hn
      rw [hg] at hg'
      cases hg'
      rw [← hx, ← hy]
theorem strs_inj : ∀ {a b : List (List UInt8)}, strs a = strs b → a = b
  | [], [], _ => rfl
  | x :: a, y :: b, h => by
    simp only [strs, List.map_cons, List.cons.injEq, AV.str.injEq] at h
    rw [h.1, strs_inj (a := a) (b := b) h.2]
  | [], _ :: _, h => by simp [strs] at h
  | _ :: _, [], h => by simp [strs] at h

/-- begin is known, whatever order it takes. -/
def BeginS (a : List AV) (h : Heap) (r : CRes) : Prop :=
  ∃ (q : Qu) (lv : AV) (fl ans : Int), q.Ok ∧ Sl h lv (strs q.labels) ∧ u16In fl ∧ a = [.agg (q.cells lv), .int .i64 fl, .int .i64 ans] ∧ r = .ret (.slice (some ⟨h.next, 0⟩) (q.bytes fl ans).length (.tip 1)) (h.alloc (.cells (bytesA (q.bytes fl ans)) .own))
theorem beginS_det {h : Heap} {q : Qu} {lv : AV} (hlv : Sl h lv (strs q.labels)) {fl ans : Int} {r : CRes} (hs : BeginS [.agg (q.cells lv), .int .i64 fl, .int .i64 ans] h r) : r = .ret (.slice (some ⟨h.next, 0⟩) (q.bytes fl ans).length (.tip 1)) (h.alloc (.cells (bytesA (q.bytes fl ans)) .own)) := by
  obtain ⟨q', lv', fl', ans', hq, hl, _, ha, hr⟩ := hs
  simp only [List.cons.injEq, AV.agg.injEq, AV.int.injEq, true_and, and_true, Qu.cells, AV.bool.injEq] at ha
  obtain ⟨⟨h1, h2, h3, rfl, h5, h6⟩, rfl, rfl⟩ := ha
  have h4 := strs_inj (hlv.unique hl)
  have : q' = q := by
    cases q; cases q'
    simp only at h1 h2 h3 h4 h5 h6
    subst h1 h2 h3 h4 h5 h6
    rfl
  rw [this] at hr
  exact hr
structure EOv (ov : CallF) : Prop where
  d : DOv ov
  begin : ∀ {h : Heap}, Wf h → ∀ {q : Qu}, q.Ok → ∀ {lv : AV}, Sl h lv (strs q.labels) → ∀ {fl ans : Int}, u16In fl →
    callT ov Try.prog 15 [.agg (q.cells lv), .int .i64 fl, .int .i64 ans] h = some (.ret (.slice (some ⟨h.next, 0⟩) (q.bytes fl ans).length (.tip 1)) (h.alloc (.cells (bytesA (q.bytes fl ans)) .own)))

def flatB (xs : List Rec) : List UInt8 := xs.flatMap Rec.bytes
theorem flatB_snoc (xs : List Rec) (x : Rec) : flatB (xs ++ [x]) = flatB xs ++ x.bytes := by simp [flatB]
def Rep.flags (r : Rep) (c : Nat) : Int := if r.cut || decide (c < r.recs.length) then orI (orI 33792 r.rcode) 512 else orI 33792 r.rcode
def Rep.wire (r : Rep) (c : Nat) : List UInt8 := r.q.bytes (r.flags c) c ++ flatB (r.recs.take c)
/-- So many records are there. -/
structure Rep.Fits (r : Rep) (limit : Int) (c : Nat) : Prop where
  le : c ≤ r.recs.length
  low : limit ≤ 65535
  fit : ((r.wire c).length : Int) ≤ limit
  next : ∀ x, r.recs[c]? = some x → limit < (r.wire c).length + x.bytes.length
theorem Qu.bytes_length (q : Qu) (fl ans : Int) : (q.bytes fl ans).length = 16 + nameLen q.labels := by
  simp only [Qu.bytes, List.length_append, be2s_length, encName_length]
  simp
  omega
structure Rep.Ok (r : Rep) : Prop where
  q : r.q.Ok
  rc : 0 ≤ r.rcode ∧ r.rcode ≤ 15
  recs : ∀ x ∈ r.recs, x.Ok
theorem Rep.ok_of {r : Rep} (hin : r.In) (h : r.err = 0) : r.Ok := by
  have hb : r.bad = false := by
    cases hb : r.bad with
    | false => rfl
    | true => simp [Rep.err, hb] at h
  have ho : r.odd = false := by
    cases ho : r.odd with
    | false => rfl
    | true => simp [Rep.err, hb, ho] at h
  simp only [Rep.bad, Rep.bad0, Bool.or_eq_false_iff, decide_eq_false_iff_not] at hb
  simp only [Rep.odd, Bool.or_eq_false_iff, Bool.not_eq_false'] at ho
  obtain ⟨⟨⟨⟨h1, h2⟩, h3⟩, h4⟩, h5⟩ := hb
  refine ⟨⟨hin.q.id, ⟨by omega, by omega⟩, namedB_ok ho.1, hin.q.ty, hin.q.cl⟩, ⟨by omega, by omega⟩, fun x hx => ?_⟩
  have hx1 := List.any_eq_false.1 h5 x hx
  have hx2 := List.any_eq_false.1 ho.2 x hx
  have hxi := hin.recs x hx
  simp only [Rec.bad, Bool.and_eq_true, bne_iff_ne, ne_eq, not_and, Decidable.not_not] at hx1
  simp only [Rec.odd, Bool.and_eq_true, beq_iff_eq, Bool.not_eq_true', not_and, Bool.not_eq_false] at hx2
  refine ⟨?_, hxi.ttl, hxi.port, fun h33 => namedB_ok (hx2 h33)⟩
  by_cases h1 : x.ty = 1
  · exact .inl h1
  · exact .inr (hx1 h1)

theorem or_16 {x y : Int} (hx : u16In x) (hy : u16In y) : u16In (orI x y) := by
  have h1 : x.toNat < 2 ^ 16 := by have := hx.2; have := hx.1; omega
  have h2 : y.toNat < 2 ^ 16 := by have := hy.2; have := hy.1; omega
  have := Nat.or_lt_two_pow h1 h2
  unfold orI u16In
  omega

section
variable {ov : CallF}
theorem Wrote.app2 {n0 : Nat} {ex : List Nat} {h g : Heap} {v : AV} {bs : List UInt8} (hw : Wrote n0 ex h g v bs) (hn : n0 ≤ h.next) {tu : TypeId} {y : AV} {ys : List UInt8} (hsrc : srcA Try.prog g 1 tu y = some (ys.length, bytesA ys)) (hlen : bs.length + ys.length ≤ 100000000000) :
    ∃ v' g', appendA Try.prog g 30 tu v y = some (v', g') ∧ Wrote n0 ex h g' v' (bs ++ ys) := by
  cases hys : ys with
  | cons a rest => rw [← hys]; exact hw.app hn (by rw [hys]; simp) hsrc hlen
  | nil =>
    rw [hys] at hsrc
    obtain ⟨l, c, rfl⟩ := hw.acc.sl.slice
    refine ⟨.slice l (bytesA bs).length c, g, by simp only [appendA, u30, s5, hsrc, List.length_nil], by simpa using hw⟩
theorem Wrote.ext {n0 : Nat} {ex : List Nat} {h g g' : Heap} {v : AV} {bs : List UInt8} (hw : Wrote n0 ex h g v bs) (hk : Keep [] g g') : Wrote n0 ex h g' v bs :=
  ⟨hw.acc.keep2 hk (fun _ _ => by simp), hw.keep.into hk (by simp), hw.new⟩

set_option maxHeartbeats 2000000 in
theorem encode_ok (O : EOv ov) {h : Heap} (hw : Wf h) {q : Qu} {rcode : Int} {cut : Bool} {ps : List (Rec × AV)} {r : Rep} (hr : r = ⟨q, rcode, cut, ps.map Prod.fst⟩) (hin : r.In) {lv rv : AV} (hlv : Sl h lv (strs q.labels)) (hrv : RecsAt h rv ps) (limit : Int) :
    ∃ v e h', callT ov Try.prog 6 [.agg (r.cells lv rv), .int .i64 limit] h = some (.ret (.tuple [v, .int .i64 e]) h') ∧ Keep [] h h' ∧
      ((e ≠ 0 ∧ v = .slice none 0 (.exact 0)) ∨ (e = 0 ∧ r.Ok ∧ ∃ c, r.Fits limit c ∧ Sl h' v (bytesA (r.wire c)))) := by
  have main : ∃ u h', callT ov Try.prog 6 [.agg (r.cells lv rv), .int .i64 limit] h = some (.ret u h') ∧ ∃ v e, u = .tuple [v, .int .i64 e] ∧ Keep [] h h' ∧
      ((e ≠ 0 ∧ v = .slice none 0 (.exact 0)) ∨ (e = 0 ∧ r.Ok ∧ ∃ c, r.Fits limit c ∧ Sl h' v (bytesA (r.wire c)))) := by
    refine callT_wp (fn := Try.f6) (O.d 6 (by decide) (by decide) (by decide) _ _) (by kernel_rfl) rfl ?_
    have hl : (frameA Try.f6 [.agg (r.cells lv rv), .int .i64 limit]).length = 75 := frameA_length (Nat.le_of_ble_eq_true rfl)
    have h0 : nth (frameA Try.f6 [.agg (r.cells lv rv), .int .i64 limit]) 0 = .agg (r.cells lv rv) := frameA_nth (Nat.le_of_ble_eq_true rfl)
    have h1 : nth (frameA Try.f6 [.agg (r.cells lv rv), .int .i64 limit]) 1 = .int .i64 limit := frameA_nth (Nat.le_of_ble_eq_true rfl)
    generalize frameA Try.f6 [.agg (r.cells lv rv), .int .i64 limit] = e at hl h0 h1
    have hcells : r.cells lv rv = [.int .u16 q.id, .int .i64 q.op, .bool q.wish, lv, .int .u16 q.ty, .int .u16 q.cl, .int .i64 rcode, .bool cut, rv] := by rw [hr]; rfl
    obtain ⟨ll, lc, hlve⟩ := hlv.slice
    obtain ⟨rl, rc, hrve⟩ := hrv.1.slice
    have hcl : cellsA (.agg (r.cells lv rv)) = some (r.cells lv rv) := rfl
    have hbx := box_agg (h := h) hcl
    have hk1 := (Keep.refl (ex := []) hw).alloc (.cells (r.cells lv rv) .own)
    have hg1 := Heap.get_alloc h (.cells (r.cells lv rv) .own)
    generalize h.alloc (.cells (r.cells lv rv) .own) = g1 at hbx hk1 hg1
    have hg1' := hg1
    rw [hcells] at hg1
    generalize h.next = G at hbx hg1 hg1'
    have ld : ∀ {g : Heap}, Keep [] g1 g → loadA Try.prog g 26 ⟨G, 0⟩ = some (.agg (q.cells lv)) ∧ loadA Try.prog g 3 ⟨G, 6⟩ = some (.int .i64 rcode) ∧ loadA Try.prog g 4 ⟨G, 7⟩ = some (.bool cut) ∧ loadA Try.prog g 27 ⟨G, 8⟩ = some rv := fun hk => by
      have hg := hk.get _ _ hg1 (by simp)
      refine ⟨?_, load_cell a3 hg rfl, load_cell a4 hg rfl, load_cell a27 hg rfl⟩
      rw [load_agg a26 s26 hg (by simp)]; rfl
    have l29 : loadA Try.prog g1 29 ⟨G, 0⟩ = some (.agg (r.cells lv rv)) := by
      rw [load_agg a29 s29 hg1' (by simp [Rep.cells])]; rfl
    obtain ⟨g2, hri, hk2⟩ := right_ok O.d hk1.wf hr hin (hlv.keep hk1 (by simp)) (hrv.keep hk1)
    have hca14 : callA (callT ov Try.prog) Try.prog g1 14 [.agg (r.cells lv rv)] = _ := hri
    have hpn : ps.length ≤ 10000000 := by have := hin.n; rw [hr] at this; simpa using this
    repeat apply WP.seq
    apply WP.region; simp [hl, h0, hbx]
    repeat apply WP.seq
    apply WP.region; simp [hl, l29, hca14]
    repeat apply WP.seq
    apply WP.region; simp [hl]
    repeat apply WP.seq
    apply WP.cond (by simp [hl]; rfl)
    · intro hc
      have hc : r.err ≠ 0 := by simpa using hc
      repeat apply WP.seq
      apply WP.region; simp [hl]
      apply WP.ret
      simp [hl, resultsA, resultA, single]
      exact ⟨_, _, ⟨rfl, rfl⟩, hk1.trans hk2, .inl ⟨hc, rfl⟩⟩
    intro hc
    have hc : r.err = 0 := by simpa using hc
    have hok := Rep.ok_of hin hc
    have hqok : q.Ok := by have := hok.q; rw [hr] at this; exact this
    have hrc : 0 ≤ rcode ∧ rcode ≤ 15 := by have := hok.rc; rw [hr] at this; exact this
    have hrk : ∀ p ∈ ps, p.1.Ok := fun p hp => hok.recs p.1 (by rw [hr]; exact List.mem_map_of_mem hp)
    apply WP.skip; simp
    obtain ⟨d0, d6, d7, d8⟩ := ld hk2
    have hb0 := O.begin hk2.wf hqok ((hlv.keep hk1 (by simp)).keep hk2 (by simp)) (fl := 0) (ans := 0) ⟨by omega, by omega⟩
    have hca15 : callA (callT ov Try.prog) Try.prog g2 15 [.agg (q.cells lv), .int .i64 0, .int .i64 0] = _ := hb0
    have hk3 := (Keep.refl (ex := []) hk2.wf).alloc (.cells (bytesA (q.bytes 0 0)) .own)
    generalize g2.alloc (.cells (bytesA (q.bytes 0 0)) .own) = g3 at hca15 hk3
    rw [Qu.bytes_length] at hca15
    have hlen30 : ∀ (h : Heap) (l : Option Loc) (n : Nat) (c : Cap), lenA Try.prog h 30 (.slice l n c) = some (.int .i64 n) := fun h l n c => by simp [lenA, u30]
    have hsz : 16 + nameLen q.labels ≤ 271 := by have := hqok.labels.2; omega
    have hSr : ∀ fl ans, (q.bytes fl ans).length = 16 + nameLen q.labels := fun fl ans => q.bytes_length fl ans
    generalize 16 + nameLen q.labels = S at hca15 hsz hSr
    repeat apply WP.seq
    apply WP.region; simp [hl, fa29, d0, hca15, hlen30]
    repeat apply WP.seq
    refine WP.mono (K := fun o e g => o = .normal ∧ g = g3 ∧ e.length = 75 ∧ nth e 1 = .int .i64 limit ∧ nth e 2 = .ptr (some ⟨G, 0⟩) ∧ nth e 7 = .int .i64 (S : Nat) ∧ nth e 29 = .bool (decide (65535 < limit) || decide (limit < (S : Nat)))) ?_ ?_
    · apply WP.region
      by_cases c1 : 65535 < limit
      · simp [hl, h1, guardA, c1]
      · simp [hl, h1, guardA, c1]
    rintro o e g ⟨rfl, rfl, hl, h1, h2, h7, h29⟩
    simp
    repeat apply WP.seq
    apply WP.cond (t := (decide (65535 < limit) || decide (limit < (S : Nat)))) (by simp [h29])
    · intro _
      repeat apply WP.seq
      apply WP.region; simp [hl]
      apply WP.ret
      simp [hl, resultsA, resultA, single]
      exact ⟨_, _, ⟨rfl, rfl⟩, (hk1.trans hk2).trans hk3, .inl ⟨by omega, rfl⟩⟩
    intro hlim
    simp only [Bool.or_eq_false_iff, decide_eq_false_iff_not] at hlim
    obtain ⟨hlim1, hlim2⟩ := hlim
    apply WP.skip; simp
    repeat apply WP.seq
    apply WP.region; simp [hl]
    repeat apply WP.seq
    apply WP.region; simp [hl]
    repeat apply WP.seq
    have hk23 := hk2.trans hk3
    obtain ⟨e0, e6, e7, e8⟩ := ld hk23
    apply WP.region; simp [hl, h2, fa29, e8, hrv.len]
    repeat apply WP.seq
    have hk13 : Keep [] h g := hk1.trans hk23
    refine WP.mono (K := fun o e g' => o = .normal ∧ e.length = 75 ∧ nth e 2 = .ptr (some ⟨G, 0⟩) ∧ ∃ c v, c ≤ ps.length ∧ nth e 8 = v ∧ nth e 9 = .int .i64 (c : Nat) ∧ Wrote g.next [] g g' v (flatB ((ps.map Prod.fst).take c)) ∧ (S : Int) + ((flatB ((ps.map Prod.fst).take c)).length : Nat) ≤ limit ∧
        ∀ p, ps[c]? = some p → limit < (S : Int) + ((flatB ((ps.map Prod.fst).take c)).length : Nat) + (p.1.bytes.length : Nat)) ?_ ?_
    · apply WP.block
      refine WP.loop (fun n e g' => e.length = 75 ∧ nth e 1 = .int .i64 limit ∧ nth e 2 = .ptr (some ⟨G, 0⟩) ∧ nth e 7 = .int .i64 (S : Nat) ∧ nth e 31 = rv ∧ nth e 32 = .int .i64 ps.length ∧ ∃ c v, c ≤ ps.length ∧ n = ps.length - c ∧ nth e 33 = .int .i64 (c : Nat) ∧ nth e 8 = v ∧ nth e 9 = .int .i64 (c : Nat) ∧ Wrote g.next [] g g' v (flatB ((ps.map Prod.fst).take c)) ∧ (S : Int) + ((flatB ((ps.map Prod.fst).take c)).length : Nat) ≤ limit) ?_ ps.length _ _ ?_
      · rintro n e g' ⟨hl, h1, h2, h7, h31, h32, c, v, hcle, rfl, h33, h8, h9, hwr, hfit⟩
        repeat apply WP.seq
        apply WP.region; simp [hl, h32, h33]
        repeat apply WP.seq
        apply WP.cond (by simp [hl]; rfl)
        · intro hlt1
          have hlt1 : c < ps.length := by simpa using hlt1
          apply WP.skip; simp
          repeat apply WP.seq
          apply WP.block
          obtain ⟨p, hp⟩ : ∃ p, ps[c]? = some p := ⟨ps[c], by simp [hlt1]⟩
          have hpm := List.mem_of_getElem? hp
          have hrg := (hrv.keep hk13).keep hwr.keep
          obtain ⟨l1, hx1, hld1⟩ := hrg.at hp (k := .i64)
          have htv := hrg.2 p hpm
          have htvo := sl_cellOk htv
          obtain ⟨tl, tc, htve⟩ := htv.slice
          obtain ⟨g4, g5, hv5⟩ := var_of (ds := p.1.cells p.2) hwr.keep.wf al42 s42 rfl rfl (recOk htvo)
          have hal5 := hv5.al
          have hst5 := hv5.st
          have hg5 := hv5.get
          generalize g'.next = X at hal5 hst5 hg5
          have n0 : loadA Try.prog g5 42 ⟨X, 0⟩ = some (.agg (p.1.cells p.2)) := load_whole a42 s42 hg5 rfl
          obtain ⟨vb, g6, hrec, haccb, hk6⟩ := record_ok O.d hv5.keep.wf (hrk p hpm) (htv.keep hv5.keep (by simp))
          have hca16 : callA (callT ov Try.prog) Try.prog g5 16 [.agg (p.1.cells p.2)] = _ := hrec
          have hdl := Rec.data_length (hrk p hpm)
          have hbl := Rec.bytes_length p.1
          obtain ⟨bl, bc, hvb⟩ := haccb.sl.slice
          rw [bytesA_length] at hvb
          have hlenb : ∀ h, lenA Try.prog h 30 vb = some (.int .i64 (p.1.bytes.length : Nat)) := fun h => by rw [hvb]; simp [lenA, u30]
          obtain ⟨al, ac, hva⟩ := hwr.acc.sl.slice
          rw [bytesA_length] at hva
          have hlena : ∀ h, lenA Try.prog h 30 v = some (.int .i64 ((flatB ((ps.map Prod.fst).take c)).length : Nat)) := fun h => by rw [hva]; simp [lenA, u30]
          generalize hF : flatB ((ps.map Prod.fst).take c) = F at hlena hfit hwr
          have hw1 : IntKind.wrap .i64 ((S : Int) + (F.length : Nat)) = (S : Int) + (F.length : Nat) := wrap_small (by omega) (by omega)
          have hw2 : IntKind.wrap .i64 ((S : Int) + (F.length : Nat) + (p.1.bytes.length : Nat)) = (S : Int) + (F.length : Nat) + (p.1.bytes.length : Nat) := wrap_small (by omega) (by omega)
          repeat apply WP.seq
          apply WP.region; simp [hl, h31, h33, hx1, hld1, hal5, storeR_ptr hst5]
          repeat apply WP.seq
          apply WP.region; simp [hl, n0, hca16]
          repeat apply WP.seq
          refine WP.mono (K := fun o e g => o = .normal ∧ g = g6 ∧ e.length = 75 ∧ nth e 1 = .int .i64 limit ∧ nth e 2 = .ptr (some ⟨G, 0⟩) ∧ nth e 7 = .int .i64 (S : Nat) ∧ nth e 31 = rv ∧ nth e 32 = .int .i64 ps.length ∧ nth e 33 = .int .i64 (c : Nat) ∧ nth e 8 = v ∧ nth e 9 = .int .i64 (c : Nat) ∧ nth e 12 = vb ∧ nth e 47 = .bool (decide (limit < (S : Int) + (F.length : Nat) + (p.1.bytes.length : Nat)))) ?_ ?_
          · apply WP.region
            simp [hl, hlena, hlenb, h1, h2, h7, h8, h9, h31, h32, h33, hw1, hw2]
          rintro o e g7 ⟨rfl, rfl, hl, h1, h2, h7, h31, h32, h33, h8, h9, h12, h47⟩
          simp
          repeat apply WP.seq
          apply WP.cond (t := decide (limit < (S : Int) + (F.length : Nat) + (p.1.bytes.length : Nat))) (by simp [h47])
          · intro hover
            have hover : limit < (S : Int) + (F.length : Nat) + (p.1.bytes.length : Nat) := by simpa using hover
            apply WP.exit
            simp [blockK_ne]
            refine ⟨hl, h2, c, hcle, h9, ?_, by rw [hF]; exact hfit, ?_⟩
            · rw [h8, hF]; exact (hwr.ext hv5.keep).ext hk6
            · intro a b hab
              rw [hp] at hab
              cases hab
              rw [hF]; exact hover
          · intro hover
            have hover : ¬ limit < (S : Int) + (F.length : Nat) + (p.1.bytes.length : Nat) := by simpa using hover
            apply WP.skip; simp
            have hsrc := haccb.sl.src (P := Try.prog) u30 bytesA_ok
            rw [bytesA_length] at hsrc
            have hneb : p.1.bytes ≠ [] := by
              intro hh
              have h0 : p.1.bytes.length = 0 := by rw [hh]; rfl
              omega
            obtain ⟨v', g8, hap, hw8⟩ := ((hwr.ext hv5.keep).ext hk6).app (Nat.le_refl _) (tu := 30) (ys := p.1.bytes) hneb hsrc (by omega)
            repeat apply WP.seq
            apply WP.region; simp [hl, h8, h12, hap]
            repeat apply WP.seq
            apply WP.region; simp [hl, h9, int_wrap (show c < 9223372036854775807 by omega)]
            repeat apply WP.seq
            apply WP.region; simp [hl, h33, int_wrap (show c < 9223372036854775807 by omega)]
            have hF2 : flatB ((ps.map Prod.fst).take (c + 1)) = F ++ p.1.bytes := by rw [take_snoc (x := p.1) (by simp [hp]), ← hF]; exact flatB_snoc _ _
            refine ⟨ps.length - (c + 1), by omega, by simp [h1], by simp [h2], by simp [h7], by simp [h31], by simp [h32], c + 1, by omega, rfl, by simp, ?_, ?_⟩
            · rw [hF2]
              simpa [hl] using hw8
            · rw [hF2]
              simp only [List.length_append]
              omega
        · intro hge
          have hge : ¬ c < ps.length := by simpa using hge
          have hi' : c = ps.length := by omega
          apply WP.exit
          simp
          refine ⟨by simp [hl], by simp [h2], c, hcle, by simp [h9], by simpa [h8] using hwr, by simpa using hfit, ?_⟩
          intro a b hp
          rw [hi', List.getElem?_eq_none (by omega)] at hp
          cases hp
      · exact ⟨by simp [hl], by simp [h1, hl], by simp [h2, hl], by simp [h7, hl], by simp [hl], by simp [hl], 0, .slice none 0 (.exact 0), by omega, by omega, by simp [hl], by simp [hl], by simp [hl], ⟨by simpa [flatB, bytesA] using Acc.nil, Keep.refl hk3.wf, by simp [idOf]⟩, by simp [flatB]; omega⟩
    rintro o e g9 ⟨rfl, hl, h2, c, v, hcle, h8, h9, hwr, hfit, hnext⟩
    simp
    obtain ⟨f0, f6, f7, f8⟩ := ld (hk23.trans hwr.keep)
    have hkg9 : Keep [] h g9 := hk13.trans hwr.keep
    have s3 : u16In 33792 := ⟨by omega, by omega⟩
    have srr : u16In rcode := ⟨hrc.1, by omega⟩
    have s1 := or_16 s3 srr
    have s2 := or_16 s1 (y := 512) ⟨by omega, by omega⟩
    have sm : ∀ {x : Int}, u16In x → Small x := fun hx => ⟨hx.1, by have := hx.2; omega⟩
    have ho1 : ∀ (xo yo : Operand) (h : Heap), binA Try.prog h .or 3 xo yo (.int .i64 33792) (.int .i64 rcode) = some (.int .i64 (orI 33792 rcode)) := fun _ _ _ => bin_or (sm s3) (sm srr)
    have ho2 : ∀ (xo yo : Operand) (h : Heap), binA Try.prog h .or 3 xo yo (.int .i64 (orI 33792 rcode)) (.int .i64 512) = some (.int .i64 (orI (orI 33792 rcode) 512)) := fun _ _ _ => bin_or (sm s1) (sm ⟨by omega, by omega⟩)
    have hfl : r.flags c = if cut || decide (c < ps.length) then orI (orI 33792 rcode) 512 else orI 33792 rcode := by rw [Rep.flags, hr]; simp
    have hfl16 : u16In (r.flags c) := by rw [hfl]; split <;> assumption
    repeat apply WP.seq
    apply WP.region; simp [hl, h2, fa29, f6, ho1]
    repeat apply WP.seq
    refine WP.mono (K := fun o e g => o = .normal ∧ g = g9 ∧ e.length = 75 ∧ nth e 2 = .ptr (some ⟨G, 0⟩) ∧ nth e 8 = v ∧ nth e 9 = .int .i64 (c : Nat) ∧ nth e 13 = .int .i64 (orI 33792 rcode) ∧ nth e 65 = .bool (cut || decide (c < ps.length))) ?_ ?_
    · apply WP.region
      cases cut with
      | true => simp [hl, h2, h8, h9, fa29, f7, guardA]
      | false => simp [hl, h2, h8, h9, fa29, f7, f8, hrv.len, guardA]
    rintro o e g ⟨rfl, rfl, hl, h2, h8, h9, h13, h65⟩
    simp
    repeat apply WP.seq
    refine WP.mono (K := fun o e g' => o = .normal ∧ g' = g ∧ e.length = 75 ∧ nth e 2 = .ptr (some ⟨G, 0⟩) ∧ nth e 8 = v ∧ nth e 9 = .int .i64 (c : Nat) ∧ nth e 13 = .int .i64 (r.flags c)) ?_ ?_
    · apply WP.cond (t := (cut || decide (c < ps.length))) (by simp [h65])
      · intro hc
        rw [if_pos hc] at hfl
        apply WP.region; simp [hl, h2, h8, h9, h13, ho2, hfl]
      · intro hc
        rw [if_neg (by rw [hc]; simp)] at hfl
        apply WP.skip
        simp [hl, h2, h8, h9, h13, hfl]
    rintro o e g' ⟨rfl, rfl, hl, h2, h8, h9, h13⟩
    simp
    have hlv9 := hlv.keep hkg9 (by simp)
    have hbg := O.begin hwr.keep.wf hqok hlv9 hfl16 (ans := (c : Nat))
    have hca15' : callA (callT ov Try.prog) Try.prog g' 15 [.agg (q.cells lv), .int .i64 (r.flags c), .int .i64 (c : Nat)] = _ := hbg
    have hk10 := (Keep.refl (ex := []) hwr.keep.wf).alloc (.cells (bytesA (q.bytes (r.flags c) c)) .own)
    have hg10 := Heap.get_alloc g' (.cells (bytesA (q.bytes (r.flags c) c)) .own)
    generalize g'.alloc (.cells (bytesA (q.bytes (r.flags c) c)) .own) = g10 at hca15' hk10 hg10
    have hqb := hSr (r.flags c) c
    have hne10 : bytesA (q.bytes (r.flags c) c) ≠ [] := by
      intro hh
      have h3 : (bytesA (q.bytes (r.flags c) c)).length = 0 := by rw [hh]; rfl
      rw [bytesA_length, Qu.bytes_length] at h3
      omega
    have hacc10 : Acc g'.next g10 (.slice (some ⟨g'.next, 0⟩) (q.bytes (r.flags c) c).length (.tip 1)) (bytesA (q.bytes (r.flags c) c)) := .inr ⟨g'.next, Nat.le_refl _, hne10, by rw [bytesA_length], hg10⟩
    have hsrc9 := (hwr.acc.sl.keep hk10 (by simp)).src (P := Try.prog) u30 bytesA_ok
    rw [bytesA_length] at hsrc9
    obtain ⟨v11, g11, h11, hw11⟩ := (Wrote.start (ex := [g'.next]) hk10.wf hacc10 (by simp [idOf])).app2 hk10.le (tu := 30) hsrc9 (by omega)
    have hkg11 : Keep [] h g11 := (hkg9.trans hk10).into hw11.keep (by intro i hi; simp at hi; subst hi; exact .inr hkg9.le)
    repeat apply WP.seq
    apply WP.region; simp [hl, h2, h8, h9, h13, fa29, f0, hca15', h11]
    apply WP.ret
    have hwire : r.wire c = q.bytes (r.flags c) c ++ flatB ((ps.map Prod.fst).take c) := by rw [Rep.wire, hr]
    have hfin := hw11.acc.sl
    rw [← hwire] at hfin
    obtain ⟨l, cc, rfl⟩ := hfin.slice
    simp [hl, resultsA, resultA, single]
    refine ⟨_, _, ⟨rfl, rfl⟩, hkg11, .inr ⟨rfl, hok, c, ?_, hfin⟩⟩
    have hwl : ((r.wire c).length : Int) = (S : Int) + (flatB ((ps.map Prod.fst).take c)).length := by rw [hwire, List.length_append, hqb]; omega
    refine ⟨by rw [hr]; simpa using hcle, by omega, by omega, fun x hx => ?_⟩
    rw [hr] at hx
    simp only [List.getElem?_map, Option.map_eq_some_iff] at hx
    obtain ⟨p, hp, rfl⟩ := hx
    have := hnext p hp
    omega
  obtain ⟨u, h', h1, v, e, rfl, h2, h3⟩ := main
  exact ⟨v, e, h', h1, h2, h3⟩
end
end Go.Am

set_option linter.unusedSimpArgs false
namespace Go.Am
open Go.RowKit Go.Proofs

/-- A part of what is shown. -/
theorem Sl.range {P : Program} {h : Heap} {v : AV} {xs : List AV} (hs : Sl h v xs) {t el : TypeId} (hu : P.underlying t = some (.slice el)) (h1 : sizeA P el = some 1) {k k' : IntKind} {lo hi : Nat} (hlt : lo < hi) (hhi : hi ≤ xs.length) :
    ∃ v', sliceA P t v (some (.int k (lo : Int))) (some (.int k' (hi : Int))) none = some v' ∧ Sl h v' ((xs.take hi).drop lo) ∧ idOf v' = idOf v := by
  match v, hs with
  | .slice none n c, hs => obtain ⟨_, rfl⟩ := hs; simp at hhi; omega
  | .slice (some l) n c, hs =>
    obtain ⟨⟨rfl, hcap⟩, h0 | ⟨cs, kk, hg, hle, hd⟩⟩ := hs
    · omega
    · have hd' : (cs.drop (l.off + lo)).take (hi - lo) = (xs.take hi).drop lo := by
        rw [← hd, List.take_take, Nat.min_eq_left hhi, List.drop_take, List.drop_drop]
      have hb : ∀ y, hi ≤ y → boundA (some (.int k' (hi : Int))) xs.length y = some hi := by
        intro y hy
        simp only [boundA]
        rw [if_pos ⟨by omega, by omega⟩]
        rfl
      have b2 : boundA (some (.int k (lo : Int))) 0 hi = some lo := by
        simp only [boundA]
        rw [if_pos ⟨by omega, by omega⟩]
        rfl
      have hlen : ((xs.take hi).drop lo).length = hi - lo := by simp; omega
      have hltb : Nat.blt lo xs.length = true := (blt_iff _ _).2 (by omega)
      simp only [sliceA, hu, sliceOf, h1]
      cases c with
      | exact n =>
        simp only [capOk] at hcap
        rw [hb _ (by simp only [Cap.sure]; omega)]
        simp only [b2]
        have hl : (bif Nat.beq n lo then l else locAdd l (lo * 1)) = locAdd l (lo * 1) := by
          have : Nat.beq n lo = false := by rw [Trie.beq1]; simp; omega
          rw [this]; rfl
        rw [hl]
        exact ⟨_, rfl, ⟨⟨hlen, by simp only [capOk]; omega⟩, .inr ⟨cs, kk, hg, by simp only [locAdd]; omega, by simpa [locAdd] using hd'⟩⟩, rfl⟩
      | tip e =>
        simp only [capOk] at hcap
        subst hcap
        rw [hb _ (by simp only [Cap.sure]; omega)]
        simp only [b2, hltb, cond_true, Trie.beq1, decide_true]
        exact ⟨_, rfl, ⟨⟨hlen, rfl⟩, .inr ⟨cs, kk, hg, by simp only [locAdd]; omega, by simpa [locAdd] using hd'⟩⟩, rfl⟩
      | dim =>
        rw [hb _ (by simp only [Cap.sure]; omega)]
        simp only [b2, hltb, cond_true]
        exact ⟨_, rfl, ⟨⟨hlen, trivial⟩, .inr ⟨cs, kk, hg, by simp only [locAdd]; omega, by simpa [locAdd] using hd'⟩⟩, rfl⟩

/-- A reader in memory. -/
structure Rd (h : Heap) (X : Nat) (bv : AV) (b : List UInt8) (p : Nat) : Prop where
  get : h.get X = some (.cells [bv, .int .i64 (p : Nat)] .own)
  sl : Sl h bv (bytesA b)
  ne : idOf bv ≠ some X
  n : b.length ≤ 1000000000
theorem Rd.keep {ex : List Nat} {h0 h : Heap} {X : Nat} {bv : AV} {b : List UInt8} {p : Nat} (hr : Rd h0 X bv b p) (hk : Keep ex h0 h) (h1 : X ∉ ex) (h2 : ∀ i, idOf bv = some i → i ∉ ex) : Rd h X bv b p :=
  ⟨hk.get _ _ hr.get h1, hr.sl.keep hk h2, hr.ne, hr.n⟩
theorem bytesA_drop_take (b : List UInt8) (lo hi : Nat) : ((bytesA b).take hi).drop lo = bytesA ((b.take hi).drop lo) := by simp [bytesA]
theorem drop_part {b s rest : List UInt8} {p : Nat} (hd : b.drop p = s ++ rest) : (b.take (p + s.length)).drop p = s ∧ (s ≠ [] → p + s.length ≤ b.length) ∧ b.drop (p + s.length) = rest := by
  have h1 : (b.take (p + s.length)).drop p = s := by
    rw [List.drop_take, hd, Nat.add_sub_cancel_left, List.take_left']
    rfl
  refine ⟨h1, fun hne => ?_, ?_⟩
  · have h2 : (b.drop p).length = s.length + rest.length := by rw [hd, List.length_append]
    rw [List.length_drop] at h2
    have := List.length_pos_iff.2 hne
    omega
  · rw [← List.drop_drop, hd, List.drop_left']
    rfl

section
variable {ov : CallF}

theorem fail_ok (O : DOv ov) (h : Heap) (x : AV) : callT ov Try.prog 30 [.bool false, x] h = some (.ret (.tuple []) h) := by
  have main : ∃ u h', callT ov Try.prog 30 [.bool false, x] h = some (.ret u h') ∧ u = .tuple [] ∧ h' = h := by
    refine callT_wp (fn := Try.f30) (O 30 (by decide) (by decide) (by decide) _ _) (by kernel_rfl) rfl ?_
    have hl : (frameA Try.f30 [.bool false, x]).length = 7 := frameA_length (Nat.le_of_ble_eq_true rfl)
    have h0 : nth (frameA Try.f30 [.bool false, x]) 0 = .bool false := frameA_nth (Nat.le_of_ble_eq_true rfl)
    generalize frameA Try.f30 [.bool false, x] = e at hl h0
    repeat apply WP.seq
    apply WP.region; simp [hl, h0]
    apply WP.cond (t := false) (by simp [hl]) (by simp)
    intro _
    apply WP.skip
    simp [resultsA, single]
  obtain ⟨_, _, h1, rfl, rfl⟩ := main
  exact h1

theorem take_ok (O : DOv ov) {h : Heap} (hw : Wf h) {X : Nat} {bv : AV} {b s rest : List UInt8} {p : Nat} (hr : Rd h X bv b p) (hd : b.drop p = s ++ rest) (hne : s ≠ []) :
    ∃ v h', callT ov Try.prog 37 [.ptr (some ⟨X, 0⟩), .int .i64 (s.length : Nat)] h = some (.ret v h') ∧ Sl h' v (bytesA s) ∧ idOf v = idOf bv ∧ Rd h' X bv b (p + s.length) ∧ Keep [X] h h' := by
  refine callT_wp (fn := Try.f37) (O 37 (by decide) (by decide) (by decide) _ _) (by kernel_rfl) rfl ?_
  have hl : (frameA Try.f37 [.ptr (some ⟨X, 0⟩), .int .i64 (s.length : Nat)]).length = 43 := frameA_length (Nat.le_of_ble_eq_true rfl)
  have h0 : nth (frameA Try.f37 [.ptr (some ⟨X, 0⟩), .int .i64 (s.length : Nat)]) 0 = .ptr (some ⟨X, 0⟩) := frameA_nth (Nat.le_of_ble_eq_true rfl)
  have h1 : nth (frameA Try.f37 [.ptr (some ⟨X, 0⟩), .int .i64 (s.length : Nat)]) 1 = .int .i64 (s.length : Nat) := frameA_nth (Nat.le_of_ble_eq_true rfl)
  generalize frameA Try.f37 [.ptr (some ⟨X, 0⟩), .int .i64 (s.length : Nat)] = e at hl h0 h1
  obtain ⟨d1, d2, d3⟩ := drop_part hd
  have d2 := d2 hne
  have hn := hr.n
  have hw1 : IntKind.wrap .i64 ((p : Int) + (s.length : Nat)) = (p : Int) + (s.length : Nat) := wrap_small (by omega) (by omega)
  have l0 : loadA Try.prog h 30 ⟨X, 0⟩ = some bv := load_cell a30 hr.get rfl
  have l1 : loadA Try.prog h 3 ⟨X, 1⟩ = some (.int .i64 (p : Nat)) := load_cell a3 hr.get rfl
  have hlen : ∀ h, lenA Try.prog h 30 bv = some (.int .i64 (b.length : Nat)) := fun h => by
    obtain ⟨l, c, hv⟩ := hr.sl.slice
    rw [hv]; simp [lenA, u30, bytesA_length]
  have hcmp : ¬ ((b.length : Int) < (p : Int) + (s.length : Nat)) := by omega
  have hfl : ∀ h, callA (callT ov Try.prog) Try.prog h 30 [.bool false, .int .i64 200] = _ := fun h => fail_ok O h (.int .i64 200)
  have hsp : 1 ≤ s.length := List.length_pos_iff.2 hne
  obtain ⟨v, hv1, hv2, hv3⟩ := hr.sl.range (P := Try.prog) u30 s5 (k := .i64) (k' := .i64) (lo := p) (hi := p + s.length) (by omega) (by rw [bytesA_length]; exact d2)
  rw [bytesA_drop_take, d1] at hv2
  have hv1 : sliceA Try.prog 30 bv (some (.int .i64 (p : Nat))) (some (.int .i64 ((p : Int) + (s.length : Nat)))) none = some v := hv1
  have hst := store_cell (h := h) (t := 3) (v := .int .i64 ((p : Int) + (s.length : Nat))) s3 rfl rfl hr.get (by simp) (o := 1) (by simp)
  simp only [List.set_cons_succ, List.set_cons_zero] at hst
  have hX := hw _ _ hr.get
  have hk := (Keep.refl (ex := [X]) hw).set (i := X) (.cells [bv, .int .i64 ((p : Int) + (s.length : Nat))] .own) hX (.inl (by simp))
  have hgX := Heap.get_set h X (.cells [bv, .int .i64 ((p : Int) + (s.length : Nat))] .own)
  generalize h.set X (.cells [bv, .int .i64 ((p : Int) + (s.length : Nat))] .own) = g at hst hk hgX
  have hbx : ∀ i, idOf bv = some i → i ∉ [X] := fun i hi hm => hr.ne (by rw [hi, List.mem_singleton.1 hm])
  repeat apply WP.seq
  apply WP.region; simp [hl]
  repeat apply WP.seq
  apply WP.draw (by kernel_rfl) (by kernel_rfl)
  simp [hl, h0, h1, fa64, l0, l1, hlen, hw1, hcmp, hfl]
  repeat apply WP.seq
  apply WP.draw (by kernel_rfl) (by kernel_rfl)
  simp [hl, h0, h1, fa64, l0, l1, hw1, hv1]
  repeat apply WP.seq
  apply WP.region; simp [hl, h0, h1, fa64, l1, hw1, storeR_ptr hst]
  repeat apply WP.seq
  apply WP.region; simp [hl]
  apply WP.ret
  obtain ⟨l, c, rfl⟩ := hv2.slice
  simp [hl, resultsA, resultA, single]
  exact ⟨hv2.keep hk (fun i hi => hbx i (by rw [← hv3]; exact hi)), hv3, ⟨by simpa using hgX, hr.sl.keep hk hbx, hr.ne, hr.n⟩, hk⟩
end
end Go.Am
