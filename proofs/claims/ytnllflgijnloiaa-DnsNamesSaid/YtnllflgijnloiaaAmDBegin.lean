/- What the dns writer writes ahead: the head and the question. -/
import Derived.Test.YtnllflgijnloiaaAmDEnc
import Derived.Test.YtnllflgijnloiaaAmCanon
set_option linter.unusedSimpArgs false
namespace Go.Am
open Go.RowKit Go.Proofs
attribute [simp] seqS_normal seqS_exit seqS_ret TP_done TP_stop chk_nil trace_nil trace_cons trace_guard tstep_ret tstep_none tguard_true tguard_false tcons_some TW_some sameV_load' pairsOk beqV_refl

/-! ### Bits of numbers that are none below zero -/
def orI (x y : Int) : Int := ((x.toNat ||| y.toNat : Nat) : Int)
def andI (x y : Int) : Int := ((x.toNat &&& y.toNat : Nat) : Int)
def Small (x : Int) : Prop := 0 ≤ x ∧ x < 4611686018427387904
theorem wrap_nat {n : Nat} (h : n < 9223372036854775808) : IntKind.wrap .i64 (n : Int) = n := wrap_small (by omega) (by omega)
theorem ofInt_nat {x : Int} (hx : Small x) : (BitVec.ofInt 64 x).toNat = x.toNat := by
  obtain ⟨h1, h2⟩ := hx
  rw [BitVec.toNat_ofInt]
  omega
theorem or_small {x y : Int} (hx : Small x) (hy : Small y) : Small (orI x y) := by
  have h1 : x.toNat < 2 ^ 62 := by have := hx.2; have := hx.1; omega
  have h2 : y.toNat < 2 ^ 62 := by have := hy.2; have := hy.1; omega
  have := Nat.or_lt_two_pow h1 h2
  unfold orI Small
  omega
theorem and_small {x y : Int} (_ : Small x) (hy : Small y) : Small (andI x y) := by
  have h2 : y.toNat < 2 ^ 62 := by have := hy.2; have := hy.1; omega
  have : x.toNat &&& y.toNat ≤ y.toNat := Nat.and_le_right
  unfold andI Small
  omega
theorem bin_or {h : Heap} {x y : Int} {xo yo : Operand} (hx : Small x) (hy : Small y) : binA Try.prog h .or 3 xo yo (.int .i64 x) (.int .i64 y) = some (.int .i64 (orI x y)) := by
  have hs := or_small hx hy
  have he : binA Try.prog h .or 3 xo yo (.int .i64 x) (.int .i64 y) = some (.int .i64 (IntKind.wrap .i64 ((BitVec.ofInt 64 x ||| BitVec.ofInt 64 y).toNat : Nat))) := rfl
  rw [he, BitVec.toNat_or, ofInt_nat hx, ofInt_nat hy, wrap_nat (by have := hs.2; unfold orI at this; omega)]
  rfl
theorem bin_and {h : Heap} {x y : Int} {xo yo : Operand} (hx : Small x) (hy : Small y) : binA Try.prog h .and 3 xo yo (.int .i64 x) (.int .i64 y) = some (.int .i64 (andI x y)) := by
  have hs := and_small hx hy
  have he : binA Try.prog h .and 3 xo yo (.int .i64 x) (.int .i64 y) = some (.int .i64 (IntKind.wrap .i64 ((BitVec.ofInt 64 x &&& BitVec.ofInt 64 y).toNat : Nat))) := rfl
  rw [he, BitVec.toNat_and, ofInt_nat hx, ofInt_nat hy, wrap_nat (by have := hs.2; unfold andI at this; omega)]
  rfl
theorem bin_shl11 {h : Heap} {x : Int} {xo yo : Operand} (h1 : 0 ≤ x) (h2 : x < 65536) : binA Try.prog h .shl 3 xo yo (.int .i64 x) (.int .u64 11) = some (.int .i64 (x * 2048)) := by
  have h3 : IntKind.wrap .i64 (x * 2048) = x * 2048 := wrap_small (by omega) (by omega)
  simp [binA, shiftA, IntKind.bits, h3]
theorem conv23_3 {h : Heap} {x : Int} {k : IntKind} (h1 : 0 ≤ x) (h2 : x < 65536) : convertA Try.prog h 23 3 (.int k x) = some (.int .i64 x, h) := by
  have h3 : IntKind.wrap .i64 x = x := wrap_small (by omega) (by omega)
  simp [convertA, u23, u3, h3]

/-- A question. -/
structure Qu where
  id : Int
  op : Int
  wish : Bool
  labels : List (List UInt8)
  ty : Int
  cl : Int
def u16In (x : Int) : Prop := 0 ≤ x ∧ x < 65536
structure Qu.Ok (q : Qu) : Prop where
  id : u16In q.id
  op : 0 ≤ q.op ∧ q.op ≤ 15
  labels : Named q.labels
  ty : u16In q.ty
  cl : u16In q.cl
def Qu.cells (q : Qu) (lv : AV) : List AV := [.int .u16 q.id, .int .i64 q.op, .bool q.wish, lv, .int .u16 q.ty, .int .u16 q.cl]
def Qu.flags (q : Qu) (fl : Int) : Int := if q.wish then orI (orI fl (q.op * 2048)) 256 else orI fl (q.op * 2048)
def Qu.bytes (q : Qu) (fl ans : Int) : List UInt8 := be2s [q.id, q.flags fl, 1, ans, 0, 0] ++ encName q.labels ++ be2s [q.ty, q.cl]

theorem Acc.weaken {n0 n1 : Nat} {h : Heap} {v : AV} {xs : List AV} (ha : Acc n0 h v xs) (hn : n1 ≤ n0) : Acc n1 h v xs := by
  rcases ha with ⟨h1, l, h2, h3⟩ | ⟨i, h1, h2⟩
  · exact .inl ⟨h1, l, h2, fun x hx => ⟨by have := (h3 x hx).1; omega, (h3 x hx).2⟩⟩
  · exact .inr ⟨i, by omega, h2⟩
def none0 : CallF := fun _ _ _ => none
theorem none0_ok : CallsOk Try.prog none0 := fun _ _ _ _ h => by cases h
def idsOf (v : AV) : List Nat := (idOf v).toList
theorem mem_ids {v : AV} {i : Nat} (h : idOf v = some i) : i ∈ idsOf v := by simp [idsOf, h]
theorem ids_mem {v : AV} {i : Nat} (h : i ∈ idsOf v) : idOf v = some i := by simpa [idsOf] using h

def planAlt : Plan := .alt 3 [5, 8] (.alt 10 [2] (.alt 11 [] (.quiet 12 .done) .stop) .stop) (.alt 10 [2] (.alt 3 [5, 8] (.alt 11 [] (.quiet 12 .done) .stop) .stop) .stop)
def planBegin : Plan := .quiet 0 <| .quiet 1 <| .quiet 2 <| .quiet 4 <| .quiet 5 <| .quiet 6 <| .quiet 7 <| .quiet 8 <| .quiet 9 planAlt

set_option maxHeartbeats 1000000 in
theorem begin_s {h : Heap} (hw : Wf h) {q : Qu} (hq : q.Ok) {lv : AV} (hlv : Sl h lv (strs q.labels)) {fl ans : Int} (hfl : u16In fl) :
    SCall Try.prog 15 [.agg (q.cells lv), .int .i64 fl, .int .i64 ans] h (fun r => ∃ v h', r = .ret v h' ∧ Acc h.next h' v (bytesA (q.bytes fl ans)) ∧ Keep [] h h') := by
  refine scall_of fns_ok (fn := Try.f15) (by kernel_rfl) rfl ?_
  have hl : (frameA Try.f15 [.agg (q.cells lv), .int .i64 fl, .int .i64 ans]).length = 36 := frameA_length (Nat.le_of_ble_eq_true rfl)
  have h0 : nth (frameA Try.f15 [.agg (q.cells lv), .int .i64 fl, .int .i64 ans]) 0 = .agg (q.cells lv) := frameA_nth (Nat.le_of_ble_eq_true rfl)
  have h1 : nth (frameA Try.f15 [.agg (q.cells lv), .int .i64 fl, .int .i64 ans]) 1 = .int .i64 fl := frameA_nth (Nat.le_of_ble_eq_true rfl)
  have h2 : nth (frameA Try.f15 [.agg (q.cells lv), .int .i64 fl, .int .i64 ans]) 2 = .int .i64 ans := frameA_nth (Nat.le_of_ble_eq_true rfl)
  generalize frameA Try.f15 [.agg (q.cells lv), .int .i64 fl, .int .i64 ans] = e at hl h0 h1 h2
  obtain ⟨sl, sc, hlveq⟩ := hlv.slice
  have hbx := box_agg (h := h) (vs := q.cells lv) (cs := q.cells lv) rfl
  have hk1 := (Keep.refl (ex := []) hw).alloc (.cells (q.cells lv) .own)
  have hg1 := Heap.get_alloc h (.cells (q.cells lv) .own)
  have hn1 : (h.alloc (.cells (q.cells lv) .own)).next = h.next + 1 := Heap.next_alloc _ _
  generalize h.alloc (.cells (q.cells lv) .own) = g1 at hbx hk1 hg1 hn1
  have hld : ∀ {ex : List Nat} {g : Heap}, Keep ex g1 g → (∀ i ∈ ex, g1.next ≤ i) → g.get h.next = some (.cells (q.cells lv) .own) := fun hk hx => hk.get _ _ hg1 (fun hm => by have := hx _ hm; omega)
  have ld : ∀ {g : Heap}, g.get h.next = some (.cells (q.cells lv) .own) → loadA Try.prog g 23 ⟨h.next, 0⟩ = some (.int .u16 q.id) ∧ loadA Try.prog g 3 ⟨h.next, 1⟩ = some (.int .i64 q.op) ∧ loadA Try.prog g 4 ⟨h.next, 2⟩ = some (.bool q.wish) ∧ loadA Try.prog g 24 ⟨h.next, 3⟩ = some lv ∧ loadA Try.prog g 23 ⟨h.next, 4⟩ = some (.int .u16 q.ty) ∧ loadA Try.prog g 23 ⟨h.next, 5⟩ = some (.int .u16 q.cl) := fun hg =>
    ⟨load_cell a23 hg rfl, load_cell a3 hg rfl, load_cell a4 hg rfl, load_cell a24 hg rfl, load_cell a23 hg rfl, load_cell a23 hg rfl⟩
  obtain ⟨d0, d1, d2, d3, d4, d5⟩ := ld hg1
  have so : Small (q.op * 2048) := ⟨by have := hq.op; omega, by have := hq.op; omega⟩
  have sf : Small fl := ⟨hfl.1, by have := hfl.2; omega⟩
  have s1 := or_small sf so
  have s256 : Small 256 := ⟨by omega, by omega⟩
  repeat apply SWP.seq
  refine SWP.of fns_ok mixed_ok none0_ok ?_
  apply WP.region; simp [hl, h0, hbx]
  repeat apply SWP.seq
  refine SWP.of fns_ok mixed_ok none0_ok ?_
  apply WP.region; simp [hl, h1, fa26, d1, bin_shl11 hq.op.1 (by have := hq.op; omega), bin_or sf so]
  repeat apply SWP.seq
  refine SWP.of fns_ok mixed_ok none0_ok ?_
  apply WP.region; simp [hl, fa26, d2]
  repeat apply SWP.seq
  refine SWP.mono (K := fun o e g => o = .normal ∧ g1 = g ∧ e.length = 36 ∧ nth e 1 = .int .i64 (q.flags fl) ∧ nth e 2 = .int .i64 ans ∧ nth e 3 = .ptr (some ⟨h.next, 0⟩)) ?_ ?_
  · refine SWP.of fns_ok mixed_ok none0_ok ?_
    apply WP.cond (by simp [hl]; rfl)
    · intro hwish
      apply WP.region; simp [hl, bin_or s1 s256]
      simp [Qu.flags, hwish, h2, hl]
    · intro hwish
      apply WP.skip
      simp [Qu.flags, hwish, h2, hl]
  rintro o e g ⟨rfl, rfl, hl, h1, h2, h3⟩
  simp
  repeat apply SWP.seq
  refine SWP.of fns_ok mixed_ok none0_ok ?_
  have hbl := b54_6 (h := g1) (a := q.id) (b := q.flags fl) (c := 1) (d := ans) (e := 0) (f := 0)
  have hk2 := (Keep.refl (ex := []) hk1.wf).alloc (.cells (ints [q.id, q.flags fl, 1, ans, 0, 0]) .own)
  have hg2 := Heap.get_alloc g1 (.cells (ints [q.id, q.flags fl, 1, ans, 0, 0]) .own)
  generalize g1.alloc (.cells (ints [q.id, q.flags fl, 1, ans, 0, 0]) .own) = g2 at hbl hk2 hg2
  obtain ⟨v1, g3, hc1, hw1⟩ := two_ok (ov := none0) (fun _ _ => rfl) (n0 := g1.next) (ex := []) (v := .slice none 0 (.exact 0)) (bs := []) hk2.wf Acc.nil (by simp [idOf]) hk2.le (Sl.exact rfl hg2) (by simp) (by simp) (by simp)
  have hca1 : callA (callT none0 Try.prog) Try.prog g2 26 [.slice none 0 (.exact 0), .slice (some ⟨g1.next, 0⟩) 6 (.exact 6)] = _ := hc1
  simp only [List.nil_append] at hw1
  apply WP.region; simp [hl, h1, h2, h3, fa26, d0, conv23_3 hq.id.1 hq.id.2, hbl, hca1]
  repeat apply SWP.seq
  have hkg3 : Keep [] g1 g3 := hk2.into hw1.keep (by simp)
  have hv1 : ∀ i ∈ idsOf v1, g1.next ≤ i := fun i hi => hw1.acc.id (ids_mem hi)
  have hv1' : ∀ i ∈ idsOf v1, i < g3.next := fun i hi => hw1.acc.lt hw1.keep.wf (ids_mem hi)
  have hlv1 : Sl g1 lv (strs q.labels) := hlv.keep hk1 (by simp)
  have hlid : q.labels ≠ [] → ∀ i, idOf lv = some i → i < g1.next := fun hne i hi => by have := hlv.lt hw (by simpa [strs] using hne) hi; omega
  obtain ⟨e0, e1, e2, e3, e4, e5⟩ := ld (hld hkg3 (by simp))
  have hbn : (be2s [q.id, q.flags fl, 1, ans, 0, 0]).length = 12 := be2s_length _
  have hnn : (encName q.labels).length ≤ 255 := by rw [encName_length]; exact hq.labels.2
  refine SWP.mono (K := fun o e g => o = .normal ∧ e.length = 36 ∧ ∃ v, nth e 6 = v ∧ Acc g1.next g v (bytesA (q.bytes fl ans)) ∧ Keep [] g1 g) ?_ ?_
  · refine SWP.tree fns_ok mixed_ok (callT_ok none0 _ fns_ok mixed_ok none0_ok) (n := 36) (pl := planBegin) (by kernel_rfl) (by kernel_rfl) (by kernel_rfl) (by simpa using hl) ?_
    refine TP_quiet rfl ?_; simp [hl]
    refine TP_quiet rfl ?_; simp [hl, h3, fa26]
    refine TP_quiet rfl ?_; simp [hl, e3]
    refine TP_quiet rfl ?_; simp [hl, h3, fa26]
    refine TP_quiet rfl ?_; simp [hl, e4]
    refine TP_quiet rfl ?_; simp [hl, conv23_3 hq.ty.1 hq.ty.2]
    refine TP_quiet rfl ?_; simp [hl, h3, fa26]
    refine TP_quiet rfl ?_; simp [hl, e5]
    refine TP_quiet rfl ?_; simp [hl, conv23_3 hq.cl.1 hq.cl.2]
    refine TP_alt rfl ?_ (TP_alt rfl ?_ trivial)
    · obtain ⟨v2, g4, hc2, hw2⟩ := name_ok (ov := none0) (fun _ _ => rfl) (n0 := g1.next) (ex := idsOf v1) hw1.keep.wf hw1.acc (fun i hi => mem_ids hi) hkg3.le (hlv1.keep hkg3 (by simp)) (fun hne i hi hm => by have := hlid hne i hi; have := hv1 i hm; omega) (by omega) hq.labels
      have hca2 : callA (callT none0 Try.prog) Try.prog g3 27 [v1, lv] = _ := hc2
      have hkg4 : Keep [] g1 g4 := hkg3.into hw2.keep (fun i hi => .inr (hv1 i hi))
      obtain ⟨f0, f1, f2, f3, f4, f5⟩ := ld (hld hkg4 (by simp))
      simp [hl, hca2]
      refine ⟨chk_intro rfl (by simp [hl, sameV_load', loadSame, f4]) (chk_intro rfl (by simp [hl, sameV_load', loadSame, f5]) trivial), ?_⟩
      refine TP_alt rfl ?_ trivial
      have hbl5 := b54_2 (h := g4) (a := q.ty) (b := q.cl)
      have hk5 := (Keep.refl (ex := []) hkg4.wf).alloc (.cells (ints [q.ty, q.cl]) .own)
      have hg5 := Heap.get_alloc g4 (.cells (ints [q.ty, q.cl]) .own)
      generalize g4.alloc (.cells (ints [q.ty, q.cl]) .own) = g5 at hbl5 hk5 hg5
      obtain ⟨k0, k1, k2, k3, k4, k5⟩ := ld (hld (hkg4.trans hk5) (by simp))
      simp [hl, hbl5]
      refine ⟨chk_intro rfl (by simp [hl, sameV_load', loadSame, k3]) trivial, ?_⟩
      refine TP_alt rfl ?_ trivial
      have hv2' : ∀ i ∈ idsOf v2, i < g4.next := fun i hi => hw2.acc.lt hkg4.wf (ids_mem hi)
      obtain ⟨v3, g6, hc3, hw3⟩ := two_ok (ov := none0) (fun _ _ => rfl) (n0 := g1.next) (ex := idsOf v2) (ns := [q.ty, q.cl]) hk5.wf (hw2.acc.keep2 hk5 (by simp)) (fun i hi => mem_ids hi) (by have := hkg4.le; have := hk5.le; omega) (Sl.exact rfl hg5) (by intro i hi hm; simp [idOf] at hi; have := hv2' i hm; omega) (by simp [hbn]; omega) (by simp)
      have hca3 : callA (callT none0 Try.prog) Try.prog g5 26 [v2, .slice (some ⟨g4.next, 0⟩) 2 (.exact 2)] = _ := hc3
      simp [hl, hca3]
      refine TP_quiet rfl ?_; simp [hl]
      refine ⟨by simpa [Qu.bytes] using hw3.acc, ?_⟩
      exact (hkg4.trans hk5).into hw3.keep (fun i hi => .inr (hw2.acc.id (ids_mem hi)))
    · have hbl5 := b54_2 (h := g3) (a := q.ty) (b := q.cl)
      have hk5 := (Keep.refl (ex := []) hkg3.wf).alloc (.cells (ints [q.ty, q.cl]) .own)
      have hg5 := Heap.get_alloc g3 (.cells (ints [q.ty, q.cl]) .own)
      generalize g3.alloc (.cells (ints [q.ty, q.cl]) .own) = g5 at hbl5 hk5 hg5
      have hkg5 := hkg3.trans hk5
      obtain ⟨k0, k1, k2, k3, k4, k5⟩ := ld (hld hkg5 (by simp))
      simp [hl, hbl5]
      refine ⟨chk_intro rfl (by simp [hl, sameV_load', loadSame, k3]) trivial, ?_⟩
      refine TP_alt rfl ?_ trivial
      obtain ⟨v2, g4, hc2, hw2⟩ := name_ok (ov := none0) (fun _ _ => rfl) (n0 := g1.next) (ex := idsOf v1) hkg5.wf (hw1.acc.keep2 hk5 (by simp)) (fun i hi => mem_ids hi) hkg5.le (hlv1.keep hkg5 (by simp)) (fun hne i hi hm => by have := hlid hne i hi; have := hv1 i hm; omega) (by omega) hq.labels
      have hca2 : callA (callT none0 Try.prog) Try.prog g5 27 [v1, lv] = _ := hc2
      have hkg4 : Keep [] g1 g4 := hkg5.into hw2.keep (fun i hi => .inr (hv1 i hi))
      obtain ⟨f0, f1, f2, f3, f4, f5⟩ := ld (hld hkg4 (by simp))
      simp [hl, hca2]
      refine ⟨chk_intro rfl (by simp [hl, sameV_load', loadSame, f4]) (chk_intro rfl (by simp [hl, sameV_load', loadSame, f5]) trivial), ?_⟩
      refine TP_alt rfl ?_ trivial
      have hg5' : g4.get g3.next = some (.cells (ints [q.ty, q.cl]) .own) := hw2.keep.get _ _ hg5 (fun hm => by have := hv1' _ hm; omega)
      have hne2 : ∀ i, idOf v2 = some i → i ≠ g3.next := by
        intro i hi hh
        rcases hw2.new i hi with h5 | h5
        · have := hv1' i h5; omega
        · have := hk5.wf _ _ hg5; omega
      obtain ⟨v3, g6, hc3, hw3⟩ := two_ok (ov := none0) (fun _ _ => rfl) (n0 := g1.next) (ex := idsOf v2) (ns := [q.ty, q.cl]) hkg4.wf hw2.acc (fun i hi => mem_ids hi) hkg4.le (Sl.exact rfl hg5') (by intro i hi hm; simp [idOf] at hi; exact hne2 i (ids_mem hm) hi.symm) (by simp [hbn]; omega) (by simp)
      have hca3 : callA (callT none0 Try.prog) Try.prog g4 26 [v2, .slice (some ⟨g3.next, 0⟩) 2 (.exact 2)] = _ := hc3
      simp [hl, hca3]
      refine TP_quiet rfl ?_; simp [hl]
      refine ⟨by simpa [Qu.bytes] using hw3.acc, ?_⟩
      exact hkg4.into hw3.keep (fun i hi => .inr (hw2.acc.id (ids_mem hi)))
  rintro o e g ⟨rfl, hl, v, h6, hacc, hk⟩
  simp
  refine SWP.ret ?_
  obtain ⟨l, c, rfl⟩ := hacc.sl.slice
  refine ⟨.inr rfl, [_], by simp [resultsA, resultA, h6], _, _, ⟨rfl, rfl⟩, hacc.weaken (by omega), hk1.trans hk⟩

theorem bytesA_flat : ∀ bs : List UInt8, (bytesA bs).all flatV = true
  | [] => rfl
  | b :: bs => by simp only [bytesA, List.map_cons, List.all_cons, byteA, flatV, Bool.true_and]; exact bytesA_flat bs
theorem begin_ok {h : Heap} (hw : Wf h) {q : Qu} (hq : q.Ok) {lv : AV} (hlv : Sl h lv (strs q.labels)) {fl ans : Int} (hfl : u16In fl) :
    CallOk Try.prog 15 [.agg (q.cells lv), .int .i64 fl, .int .i64 ans] h (.ret (.slice (some ⟨h.next, 0⟩) (q.bytes fl ans).length (.tip 1)) (h.alloc (.cells (bytesA (q.bytes fl ans)) .own))) := by
  have := canon_flat (bytesA_flat (q.bytes fl ans)) (by simp [Qu.bytes, be2s, be2, bytesA]) (begin_s hw hq hlv hfl (ans := ans))
  rw [bytesA_length] at this
  exact this
end Go.Am
