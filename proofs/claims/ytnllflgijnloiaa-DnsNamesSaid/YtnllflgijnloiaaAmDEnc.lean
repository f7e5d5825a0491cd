/- What the dns writer writes: numbers and names. -/
import Derived.Test.YtnllflgijnloiaaAmDFacts
set_option linter.unusedSimpArgs false
namespace Go.Am
open Go.RowKit Go.Proofs

/-- A number's lowest byte; its two bytes. -/
def b8 (n : Int) : UInt8 := UInt8.ofNat (n % 256).toNat
def be2 (n : Int) : List UInt8 := [b8 (n.fdiv 256), b8 n]
def be2s (ns : List Int) : List UInt8 := ns.flatMap be2
def bytesA (bs : List UInt8) : List AV := bs.map byteA
theorem b8_nat (n : Int) : ((b8 n).toNat : Int) = n % 256 := by
  have h1 : 0 ≤ n % 256 := Int.emod_nonneg _ (by omega)
  have h2 : n % 256 < 256 := Int.emod_lt_of_pos _ (by omega)
  unfold b8
  rw [UInt8.toNat_ofNat', Nat.mod_eq_of_lt (by omega)]
  omega
theorem u8_b8 (n : Int) : AV.int .u8 (IntKind.wrap .u8 n) = byteA (b8 n) := by
  have h : IntKind.wrap .u8 n = n % 256 := by simp [IntKind.wrap, IntKind.bits, IntKind.signed]
  rw [h, byteA, b8_nat]
theorem conv3_5 {h : Heap} {n : Int} {k : IntKind} : convertA Try.prog h 3 5 (.int k n) = some (byteA (b8 n), h) := by
  simp only [convertA, u3, u5, ← u8_b8]
theorem bytesA_length (bs : List UInt8) : (bytesA bs).length = bs.length := by simp [bytesA]
theorem bytesA_append (a b : List UInt8) : bytesA (a ++ b) = bytesA a ++ bytesA b := by simp [bytesA]
theorem bytesA_ok : ∀ {bs : List UInt8}, cellsOk (bytesA bs) = true
  | [] => rfl
  | b :: bs => by simp only [bytesA, List.map_cons, cellsOk, byteA, cellOk, Bool.true_and]; exact bytesA_ok (bs := bs)
theorem bytesA_get {bs : List UInt8} {i : Nat} {b : UInt8} (h : bs[i]? = some b) : (bytesA bs)[i]? = some (byteA b) := by simp [bytesA, h]
theorem shr8 {h : Heap} {n : Int} {xo yo : Operand} : binA Try.prog h .shr 3 xo yo (.int .i64 n) (.int .u64 8) = some (.int .i64 (n.fdiv 256)) := by
  simp [binA, shiftA, IntKind.bits]
theorem be2s_length : ∀ ns : List Int, (be2s ns).length = 2 * ns.length
  | [] => rfl
  | n :: ns => by
    have h1 := be2s_length ns
    have h2 : be2s (n :: ns) = be2 n ++ be2s ns := rfl
    rw [h2, List.length_append, h1]
    simp [be2]; omega
theorem be2s_snoc (ns : List Int) (n : Int) : be2s (ns ++ [n]) = be2s ns ++ be2 n := by simp [be2s]
theorem b30_2b {h : Heap} {a b : UInt8} : buildSliceA Try.prog h 30 2 [(0, byteA a), (1, byteA b)] = some (.slice (some ⟨h.next, 0⟩) 2 (.exact 2), h.alloc (.cells [byteA a, byteA b] .own)) := b30_2
theorem b30_1b {h : Heap} {a : UInt8} : buildSliceA Try.prog h 30 1 [(0, byteA a)] = some (.slice (some ⟨h.next, 0⟩) 1 (.exact 1), h.alloc (.cells [byteA a] .own)) := b30_1
theorem Sl.exact {h : Heap} {i n : Nat} {xs : List AV} (hn : xs.length = n) (hg : h.get i = some (.cells xs .own)) : Sl h (.slice (some ⟨i, 0⟩) n (.exact n)) xs :=
  ⟨⟨hn, Nat.le_refl _⟩, .inr ⟨xs, .own, hg, by simp [hn], by simp [← hn]⟩⟩
theorem take_snoc {α : Type} {xs : List α} {i : Nat} {x : α} (h : xs[i]? = some x) : xs.take (i + 1) = xs.take i ++ [x] := by
  rw [List.take_add_one, h]; rfl

def strs (ls : List (List UInt8)) : List AV := ls.map .str
theorem strs_length (ls : List (List UInt8)) : (strs ls).length = ls.length := by simp [strs]
theorem strs_get {ls : List (List UInt8)} {i : Nat} {l : List UInt8} (h : ls[i]? = some l) : (strs ls)[i]? = some (.str l) := by simp [strs, h]
theorem strs_ok : ∀ {ls : List (List UInt8)}, cellsOk (strs ls) = true
  | [] => rfl
  | l :: ls => by simp only [strs, List.map_cons, cellsOk, cellOk, Bool.true_and]; exact strs_ok (ls := ls)
def encLabels (ls : List (List UInt8)) : List UInt8 := ls.flatMap fun l => b8 l.length :: l
def encName (ls : List (List UInt8)) : List UInt8 := encLabels ls ++ [0]
def nameLen (ls : List (List UInt8)) : Nat := 1 + (ls.map fun l => l.length + 1).sum
/-- A name: labels of 1 to 63 letters, 255 in all. -/
def Named (ls : List (List UInt8)) : Prop := (∀ l ∈ ls, 1 ≤ l.length ∧ l.length ≤ 63) ∧ nameLen ls ≤ 255
theorem encLabels_snoc (ls : List (List UInt8)) (l : List UInt8) : encLabels (ls ++ [l]) = encLabels ls ++ ([b8 l.length] ++ l) := by simp [encLabels]
theorem encLabels_length : ∀ ls : List (List UInt8), (encLabels ls).length = (ls.map fun l => l.length + 1).sum
  | [] => rfl
  | l :: ls => by
    have h1 := encLabels_length ls
    have h2 : encLabels (l :: ls) = (b8 l.length :: l) ++ encLabels ls := rfl
    rw [h2, List.length_append, h1]
    simp
theorem encName_length (ls : List (List UInt8)) : (encName ls).length = nameLen ls := by simp [encName, encLabels_length, nameLen]; omega
theorem encLabels_take (ls : List (List UInt8)) (i : Nat) : (encLabels (ls.take i)).length ≤ (encLabels ls).length := by
  conv => rhs; rw [← List.take_append_drop i ls]
  have h : encLabels (ls.take i ++ ls.drop i) = encLabels (ls.take i) ++ encLabels (ls.drop i) := by unfold encLabels; rw [List.flatMap_append]
  rw [h, List.length_append]; omega
theorem labels_le (ls : List (List UInt8)) : ls.length ≤ (encLabels ls).length := by
  rw [encLabels_length]
  induction ls with
  | nil => simp
  | cons l ls ih => simp; omega

section
variable {ov : CallF}

/-- Written into what is written to: the bytes, behind those that stand there. -/
structure Wrote (n0 : Nat) (ex : List Nat) (h h' : Heap) (v : AV) (bs : List UInt8) : Prop where
  acc : Acc n0 h' v (bytesA bs)
  keep : Keep ex h h'
  new : ∀ i, idOf v = some i → i ∈ ex ∨ h.next ≤ i

theorem Wrote.app {n0 : Nat} {ex : List Nat} {h g : Heap} {v : AV} {bs : List UInt8} (hw : Wrote n0 ex h g v bs) (hn : n0 ≤ h.next) {tu : TypeId} {y : AV} {ys : List UInt8} (hne : ys ≠ []) (hsrc : srcA Try.prog g 1 tu y = some (ys.length, bytesA ys)) (hlen : bs.length + ys.length ≤ 100000000000) :
    ∃ v' g', appendA Try.prog g 30 tu v y = some (v', g') ∧ Wrote n0 ex h g' v' (bs ++ ys) := by
  have hle := hw.keep.le
  have ⟨v', g', h1, h2, h3, h4⟩ := hw.acc.app (ex := match idOf v with | some i => [i] | none => []) (P := Try.prog) (tu := tu) (y := y) (ys := bytesA ys) hw.keep.wf (by intro i hi; rw [hi]; simp) (by omega) u30 s5 (by rw [bytesA_length, bytesA_length]; exact room5 hlen) (by rw [bytesA_length]; exact hsrc) bytesA_ok (by intro hh; apply hne; simpa [bytesA] using hh)
  refine ⟨v', g', h1, by rw [bytesA_append]; exact h2, hw.keep.into h3 ?_, fun i hi => .inr (by have := h4 i hi; omega)⟩
  intro i hi
  cases hid : idOf v with
  | none => rw [hid] at hi; simp at hi
  | some j => rw [hid] at hi; simp at hi; subst hi; exact hw.new _ hid
theorem Wrote.alloc {n0 : Nat} {ex : List Nat} {h g : Heap} {v : AV} {bs : List UInt8} (hw : Wrote n0 ex h g v bs) (o : Obj) : Wrote n0 ex h (g.alloc o) v bs :=
  ⟨hw.acc.keep2 ((Keep.refl (ex := []) hw.keep.wf).alloc o) (fun _ _ => by simp), hw.keep.alloc o, hw.new⟩
theorem Wrote.start {n0 : Nat} {ex : List Nat} {h : Heap} {v : AV} {bs : List UInt8} (hw : Wf h) (ha : Acc n0 h v (bytesA bs)) (hex : ∀ i, idOf v = some i → i ∈ ex) : Wrote n0 ex h h v bs := ⟨ha, Keep.refl hw, fun i hi => .inl (hex i hi)⟩
theorem Wrote.then {n0 : Nat} {ex ex' : List Nat} {a b c : Heap} {u v : AV} {bs cs : List UInt8} (h1 : Wrote n0 ex a b u bs) (h2 : Wrote n0 ex' b c v cs) (hx : ∀ i ∈ ex', i ∈ ex ∨ a.next ≤ i) : Wrote n0 ex a c v cs :=
  ⟨h2.acc, h1.keep.into h2.keep hx, fun i hi => by
    rcases h2.new i hi with h3 | h3
    · exact hx i h3
    · have := h1.keep.le; exact .inr (by omega)⟩

theorem two_ok (hov : ∀ a h, ov 26 a h = none) {h : Heap} {n0 : Nat} {ex : List Nat} {v nv : AV} {bs : List UInt8} {ns : List Int} (hw : Wf h) (ha : Acc n0 h v (bytesA bs)) (hex : ∀ i, idOf v = some i → i ∈ ex) (hn0 : n0 ≤ h.next)
    (hs : Sl h nv (ints ns)) (hid : ∀ i, idOf nv = some i → i ∉ ex) (hlen : bs.length ≤ 10000000000) (hn : ns.length ≤ 1000) :
    ∃ v' h', callT ov Try.prog 26 [v, nv] h = some (.ret v' h') ∧ Wrote n0 ex h h' v' (bs ++ be2s ns) := by
  refine callT_wp (fn := Try.f26) (hov _ _) (by kernel_rfl) rfl ?_
  have hl : (frameA Try.f26 [v, nv]).length = 23 := frameA_length (Nat.le_of_ble_eq_true rfl)
  have h0 : nth (frameA Try.f26 [v, nv]) 0 = v := frameA_nth (Nat.le_of_ble_eq_true rfl)
  have h1 : nth (frameA Try.f26 [v, nv]) 1 = nv := frameA_nth (Nat.le_of_ble_eq_true rfl)
  generalize frameA Try.f26 [v, nv] = e at hl h0 h1
  have hlenv := hs.len u54
  apply WP.seq; apply WP.region; simp [hl]
  repeat apply WP.seq
  apply WP.region; simp [hl, h1, hlenv]
  repeat apply WP.seq
  apply WP.block
  refine WP.loop (fun n e g => e.length = 23 ∧ nth e 7 = nv ∧ nth e 8 = .int .i64 ns.length ∧ ∃ i u, i ≤ ns.length ∧ n = ns.length - i ∧ nth e 9 = .int .i64 (i : Nat) ∧ nth e 0 = u ∧ Wrote n0 ex h g u (bs ++ be2s (ns.take i))) ?_ ns.length _ _ ?_
  · rintro n e g ⟨hl, h7, h8, i, u, hi, rfl, h9, h0, hwr⟩
    repeat apply WP.seq
    apply WP.region; simp [hl, h8, h9]
    repeat apply WP.seq
    apply WP.cond (by simp [hl]; rfl)
    · intro hlt1
      have hlt1 : i < ns.length := by simpa using hlt1
      apply WP.skip; simp
      repeat apply WP.seq
      apply WP.block
      obtain ⟨x, hx⟩ : ∃ x, ns[i]? = some x := ⟨ns[i], by simp [hlt1]⟩
      obtain ⟨l1, hl1, hl1', _⟩ := (hs.keep hwr.keep hid).at u54 s3 a3 (ints_get hx) (k := .i64)
      repeat apply WP.seq
      apply WP.region; simp [hl, h7, h9, hl1, hl1']
      repeat apply WP.seq
      have hwr2 := hwr.alloc (.cells [byteA (b8 (x.fdiv 256)), byteA (b8 x)] .own)
      have hg2 := Heap.get_alloc g (.cells [byteA (b8 (x.fdiv 256)), byteA (b8 x)] .own)
      have hbl := b30_2b (h := g) (a := b8 (x.fdiv 256)) (b := b8 x)
      generalize g.alloc (.cells [byteA (b8 (x.fdiv 256)), byteA (b8 x)] .own) = g2 at hwr2 hg2 hbl
      have hsrc := (Sl.exact (n := 2) rfl hg2).src (P := Try.prog) u30 (bytesA_ok (bs := be2 x))
      have hbl2 : (be2s (ns.take i)).length ≤ 2000 := by rw [be2s_length, List.length_take]; omega
      obtain ⟨v', g', h3, h4⟩ := hwr2.app hn0 (tu := 30) (ys := be2 x) (by simp [be2]) hsrc (by simp [be2]; omega)
      apply WP.region; simp [hl, h0, shr8, conv3_5, hbl, h3]
      repeat apply WP.seq
      apply WP.region; simp [hl, h9, int_wrap (show i < 9223372036854775807 by omega)]
      refine ⟨ns.length - (i + 1), by omega, by simp [hl, h7], by simp [hl, h8], i + 1, by omega, rfl, by simp, ?_⟩
      rw [take_snoc hx, be2s_snoc, ← List.append_assoc]
      exact h4
    · intro hlt1
      have hlt1 : ¬ i < ns.length := by simpa using hlt1
      have : i = ns.length := by omega
      subst this
      apply WP.exit; simp
      repeat apply WP.seq
      apply WP.region; simp [hl, h0]
      apply WP.ret
      simp only [List.take_length] at hwr
      obtain ⟨l, c, rfl⟩ := hwr.acc.sl.slice
      simp [hl, resultsA, resultA, single]
      exact hwr
  · exact ⟨by simp [hl], by simp [hl], by simp [hl], 0, v, by omega, by omega, by simp [hl], by simp [h0], by simpa [be2s] using Wrote.start hw ha hex⟩

theorem name_ok (hov : ∀ a h, ov 27 a h = none) {h : Heap} {n0 : Nat} {ex : List Nat} {v lv : AV} {bs : List UInt8} {ls : List (List UInt8)} (hw : Wf h) (ha : Acc n0 h v (bytesA bs)) (hex : ∀ i, idOf v = some i → i ∈ ex) (hn0 : n0 ≤ h.next)
    (hs : Sl h lv (strs ls)) (hid : ls ≠ [] → ∀ i, idOf lv = some i → i ∉ ex) (hlen : bs.length ≤ 10000000000) (hn : Named ls) :
    ∃ v' h', callT ov Try.prog 27 [v, lv] h = some (.ret v' h') ∧ Wrote n0 ex h h' v' (bs ++ encName ls) := by
  refine callT_wp (fn := Try.f27) (hov _ _) (by kernel_rfl) rfl ?_
  have hl : (frameA Try.f27 [v, lv]).length = 25 := frameA_length (Nat.le_of_ble_eq_true rfl)
  have h0 : nth (frameA Try.f27 [v, lv]) 0 = v := frameA_nth (Nat.le_of_ble_eq_true rfl)
  have h1 : nth (frameA Try.f27 [v, lv]) 1 = lv := frameA_nth (Nat.le_of_ble_eq_true rfl)
  generalize frameA Try.f27 [v, lv] = e at hl h0 h1
  have hlenv := hs.len u24
  rw [strs_length] at hlenv
  have hel : (encLabels ls).length ≤ 255 := by have := hn.2; have h2 := encName_length ls; simp [encName] at h2; omega
  have hll := labels_le ls
  apply WP.seq; apply WP.region; simp [hl]
  repeat apply WP.seq
  apply WP.region; simp [hl, h1, hlenv]
  repeat apply WP.seq
  apply WP.block
  refine WP.loop (fun n e g => e.length = 25 ∧ nth e 7 = lv ∧ nth e 8 = .int .i64 ls.length ∧ ∃ i u, i ≤ ls.length ∧ n = ls.length - i ∧ nth e 9 = .int .i64 (i : Nat) ∧ nth e 0 = u ∧ Wrote n0 ex h g u (bs ++ encLabels (ls.take i))) ?_ ls.length _ _ ?_
  · rintro n e g ⟨hl, h7, h8, i, u, hi, rfl, h9, h0, hwr⟩
    repeat apply WP.seq
    apply WP.region; simp [hl, h8, h9]
    repeat apply WP.seq
    apply WP.cond (by simp [hl]; rfl)
    · intro hlt1
      have hlt1 : i < ls.length := by simpa using hlt1
      apply WP.skip; simp
      repeat apply WP.seq
      apply WP.block
      obtain ⟨x, hx⟩ : ∃ x, ls[i]? = some x := ⟨ls[i], by simp [hlt1]⟩
      obtain ⟨l1, hl1, hl1', _⟩ := (hs.keep' hwr.keep (fun hh => hid (by rintro rfl; simp at hlt1))).at u24 s9 a9 (strs_get hx) (k := .i64)
      repeat apply WP.seq
      apply WP.region; simp [hl, h7, h9, hl1, hl1']
      repeat apply WP.seq
      have hxl := hn.1 x (List.mem_of_getElem? hx)
      have htl := encLabels_take ls i
      have hwr2 := hwr.alloc (.cells [byteA (b8 x.length)] .own)
      have hg2 := Heap.get_alloc g (.cells [byteA (b8 x.length)] .own)
      have hbl := b30_1b (h := g) (a := b8 x.length)
      generalize g.alloc (.cells [byteA (b8 x.length)] .own) = g2 at hwr2 hg2 hbl
      have hsrc := (Sl.exact (n := 1) rfl hg2).src (P := Try.prog) u30 (bytesA_ok (bs := [b8 x.length]))
      obtain ⟨v', g', h3, h4⟩ := hwr2.app hn0 (tu := 30) (ys := [b8 x.length]) (by simp) hsrc (by simp; omega)
      obtain ⟨v'', g'', h5, h6⟩ := h4.app hn0 (tu := 9) (y := .str x) (ys := x) (by rintro rfl; simp at hxl) (by simp [srcA, u9, bytesA]) (by simp; omega)
      have hlx : ∀ h, lenA Try.prog h 9 (.str x) = some (.int .i64 x.length) := fun h => by simp [lenA, u9]
      apply WP.region; simp [hl, h0, hlx, conv3_5, hbl, h3, h5]
      repeat apply WP.seq
      apply WP.region; simp [hl, h9, int_wrap (show i < 9223372036854775807 by omega)]
      refine ⟨ls.length - (i + 1), by omega, by simp [hl, h7], by simp [hl, h8], i + 1, by omega, rfl, by simp, ?_⟩
      rw [take_snoc hx, encLabels_snoc, ← List.append_assoc, ← List.append_assoc]
      exact h6
    · intro hlt1
      have hlt1 : ¬ i < ls.length := by simpa using hlt1
      have : i = ls.length := by omega
      subst this
      apply WP.exit; simp
      repeat apply WP.seq
      simp only [List.take_length] at hwr
      have hwr2 := hwr.alloc (.cells [byteA 0] .own)
      have hg2 := Heap.get_alloc g (.cells [byteA 0] .own)
      have hbl := b30_1b (h := g) (a := 0)
      generalize g.alloc (.cells [byteA 0] .own) = g2 at hwr2 hg2 hbl
      have hsrc := (Sl.exact (n := 1) rfl hg2).src (P := Try.prog) u30 (bytesA_ok (bs := [0]))
      obtain ⟨v', g', h3, h4⟩ := hwr2.app hn0 (tu := 30) (ys := [0]) (by simp) hsrc (by simp; omega)
      have hz : byteA 0 = .int .u8 0 := rfl
      rw [hz] at hbl
      apply WP.region; simp [hl, h0, hbl, h3]
      apply WP.ret
      obtain ⟨l, c, rfl⟩ := h4.acc.sl.slice
      simp [hl, resultsA, resultA, single]
      simpa [encName] using h4
  · exact ⟨by simp [hl], by simp [hl], by simp [hl], 0, v, by omega, by omega, by simp [hl], by simp [h0], by simpa [encLabels] using Wrote.start hw ha hex⟩
end
end Go.Am
