/- Parts of the proof by the abstract machine: BBase, FHeap, FSt. -/
import Derived.Test.YteoekjfgihnhaaaGreatDoorHmGRF23
import Derived.Test.YteoekjfgihnhaaaGreatDoorHmGRF22
import Derived.Test.YteoekjfgihnhaaaGreatDoorHmGRF18
set_option linter.all false
noncomputable section
namespace Go.Am
open Go.RowKit Go.Proofs

theorem globs : Tryz.prog.globals.size = 10 := by kernel_rfl
theorem hHeap_get {i : Nat} {o : Obj} (h : hHeap.get i = some o) : i = 1 ∧ o = kindsO := by
  have h : (T16.put .leaf 1 (some kindsO)).get i = some o := h
  by_cases hi : i = 1
  · subst hi; rw [T16.get_put] at h; exact ⟨rfl, (Option.some.inj h).symm⟩
  · rw [T16.get_put_ne _ (Ne.symm hi), show T16.leaf.get i = none from T16.get_leaf i] at h; cases h
theorem kinds_O {φ φ' : List Emb} {e : Emb} {w : World} (h : O φ e w kindsO) : O φ' e w kindsO := by
  obtain ⟨C, t, fr, h1, h2, h3, h4, h5, h6⟩ := h
  refine ⟨C, t, fr, h1, h2, h3, h4, h5, ?_⟩
  simp only [Vs, V] at h6 ⊢
  exact h6
theorem R.restrict {φ : List Emb} {h : Heap} {w0 w : World} (hR : R Tryz.prog φ h w0 w) (hk : h.get 1 = some kindsO) : R Tryz.prog (φ.take 10) hHeap w w where
  below := Below.refl _ _
  len := by
    obtain ⟨n, hn⟩ := hR.glob 9 (by rw [globs]; omega)
    have := (List.getElem?_eq_some_iff.1 hn).1
    show (φ.take 10).length = Tryz.prog.globals.size
    rw [globs, List.length_take]; omega
  objs := fun i o hi => by
    obtain ⟨rfl, rfl⟩ := hHeap_get hi
    obtain ⟨e, he, hO, _⟩ := hR.objs 1 _ hk
    exact ⟨e, by rw [List.getElem?_take, if_pos (by omega)]; exact he, kinds_O hO, fun hh => by cases hh⟩
  sep := fun i j oi oj ei ej hij hi hj => by
    obtain ⟨rfl, _⟩ := hHeap_get hi
    obtain ⟨rfl, _⟩ := hHeap_get hj
    exact absurd rfl hij
  glob := fun g hg => by
    obtain ⟨n, hn⟩ := hR.glob g hg
    rw [globs] at hg
    exact ⟨n, by rw [List.getElem?_take, if_pos hg]; exact hn⟩

end Go.Am

noncomputable section
namespace Go.Am
open Go.RowKit Go.Proofs

def errV : AV := .iface 526 (.ptr (some ⟨10, 0⟩))
def errO : Obj := .cells [errV] .ro
/-- schema.kinds and api.ErrFull; what ErrFull points at is not told. -/
def fHeap : Heap := ((⟨11, .leaf, []⟩ : Heap).set 0 errO).set 1 kindsO
end Go.Am

noncomputable section
namespace Go.Am.FSt
open Go.RowKit Go.Proofs

theorem hb0 : Bnd 11 fHeap.tr := fun i hi => by
  show (T16.put (T16.put .leaf 0 (some errO)) 1 (some kindsO)).get i = none
  rw [T16.get_put_ne _ (by omega), T16.get_put_ne _ (by omega)]
  exact T16.get_leaf i
def d1 : List (Nat × Option Obj) := [qo 11 (cv 100 [(.int .i32 (.ofNat 0)), (.int .u32 (.ofNat 0)), (qp 389 0)]),
  qo 55 (ct 262 [(qs 4 0x656d616e), (qi 1), (qs 4 0x72646461), (qi 1), (qs 4 0x6564616d), (qi 2), (qs 7 0x6465676e616863), (qi 2)]),
  qo 74 (ct 3 [(qi 0)]),
  qo 76 (ct 189 [(qs 2 0x6469), (qk 74 0 1), qt, qz, qz]),
  qo 138 (ct 262 [(qs 4 0x65646f6e), (qi 1), (qs 2 0x6469), (qi 1), (qs 4 0x656d616e), (qi 1), (qs 4 0x74726f70), (qi 2), (qs 4 0x73676174), (qi 3), (qs 4 0x6564616d), (qi 2), (qs 7 0x6465676e616863), (qi 2)]),
  qo 165 (ct 3 [(qi 0), (qi 1)]),
  qo 189 (ct 3 [(qi 2)]),
  qo 191 (ct 189 [(qs 2 0x6469), (qk 165 0 2), qt, qz, qz, (qs 4 0x656d616e), (qk 189 0 1), qz, qz, qz]),
  qo 254 (ct 262 [(qs 4 0x65646f6e), (qi 1), (qs 2 0x6469), (qi 1), (qs 7 0x65636976726573), (qi 1), (qs 6 0x737574617473), (qi 2), (qs 4 0x65746f6e), (qi 1), (qs 4 0x6564616d), (qi 2), (qs 7 0x6465676e616863), (qi 2)]),
  qo 281 (ct 3 [(qi 0), (qi 1)]),
  qo 312 (ct 3 [(qi 0), (qi 2)]),
  qo 338 (ct 3 [(qi 3)]),
  qo 340 (ct 189 [(qs 2 0x6469), (qk 281 0 2), qt, qz, qz, (qs 7 0x65636976726573), (qk 312 0 2), qz, qz, qt, (qs 6 0x737574617473), (qk 338 0 1), qz, qz, qz]),
  qo 348 (ct 174 [(qs 5 0x7365646f6e), (ql 55 0 4 (.tip 2)), (ql 76 0 1 (.tip 5)), (qs 8 0x7365636976726573), (ql 138 0 7 (.tip 2)), (ql 191 0 2 (.tip 5)), (qs 6 0x736b63656863), (ql 254 0 7 (.tip 2)), (ql 340 0 3 (.tip 5)), (qs 5 0x736b72616d), (ql 359 0 2 (.tip 2)), (ql 380 0 1 (.tip 5))]),
  qo 359 (ct 262 [(qs 5 0x656c626174), (qi 1), (qs 5 0x65756c6176), (qi 2)]),
  qo 378 (ct 3 [(qi 0)]),
  qo 380 (ct 189 [(qs 2 0x6469), (qk 378 0 1), qt, qz, qz]),
  qo 382 (.map [((qs 5 0x7365646f6e), (qi 0), 0), ((qs 8 0x7365636976726573), (qi 1), 1), ((qs 6 0x736b63656863), (qi 2), 2), ((qs 5 0x736b72616d), (qi 3), 3)] 4),
  qo 383 (cv 248 [(qp 1276 0), (.int .i32 (.ofNat 0)), (.int .u32 (.ofNat 0))]),
  qo 389 (cv 170 [(ql 348 0 4 (.tip 3)), (qm 382), (qp 383 0)]),
  qo 573 (ct 196 [(qs 5 0x7365646f6e), (qu 0), (.slice none 0 (.exact 0)), qe, (qu 1), (.slice none 0 (.exact 0))]),
  qo 589 (.chan 0 [] false),
  qo 590 (cv 341 [(.int .u32 (.ofNat 0)), (.int .i32 (.ofNat 0)), (.int .u32 (.ofNat 0)), (.chan (some 589))]),
  qo 591 (cv 382 [(qs 10 0x1007365646f6e010003), (ql 573 0 2 (.tip 3)), (qp 590 0)]),
  qo 595 (.chan 0 [] false),
  qo 596 (cv 341 [(.int .u32 (.ofNat 0)), (.int .i32 (.ofNat 0)), (.int .u32 (.ofNat 0)), (.chan (some 595))]),
  qo 799 (ct 196 [(qs 8 0x7365636976726573), (qu 0), (.slice none 0 (.exact 0)), qe, (qu 1), (.slice none 0 (.exact 0))]),
  qo 815 (.chan 0 [] false),
  qo 816 (cv 341 [(.int .u32 (.ofNat 0)), (.int .i32 (.ofNat 0)), (.int .u32 (.ofNat 0)), (.chan (some 815))]),
  qo 817 (cv 382 [(qs 13 0x1007365636976726573010003), (ql 799 0 2 (.tip 3)), (qp 816 0)]),
  qo 823 (cv 364 [(qs 7 0x1007365646f6e), (qp 591 0), (.slice none 0 (.exact 0)), (qp 596 0)]),
  qo 828 (.chan 0 [] false),
  qo 829 (cv 341 [(.int .u32 (.ofNat 0)), (.int .i32 (.ofNat 0)), (.int .u32 (.ofNat 0)), (.chan (some 828))]),
  qo 830 (cv 364 [(qs 10 0x1007365636976726573), (qp 817 0), (.slice none 0 (.exact 0)), (qp 829 0)]),
  qo 1020 (ct 196 [(qs 6 0x736b63656863), (qu 0), (.slice none 0 (.exact 0)), qe, (qu 1), (.slice none 0 (.exact 0))]),
  qo 1036 (.chan 0 [] false),
  qo 1037 (cv 341 [(.int .u32 (.ofNat 0)), (.int .i32 (.ofNat 0)), (.int .u32 (.ofNat 0)), (.chan (some 1036))]),
  qo 1038 (cv 382 [(qs 11 0x100736b63656863010003), (ql 1020 0 2 (.tip 3)), (qp 1037 0)]),
  qo 1049 (.chan 0 [] false),
  qo 1050 (cv 341 [(.int .u32 (.ofNat 0)), (.int .i32 (.ofNat 0)), (.int .u32 (.ofNat 0)), (.chan (some 1049))]),
  qo 1051 (cv 364 [(qs 8 0x100736b63656863), (qp 1038 0), (.slice none 0 (.exact 0)), (qp 1050 0)]),
  qo 1235 (ct 196 [(qs 5 0x7865646e69), (qu 0), (.slice none 0 (.exact 0)), qe, (qu 1), (.slice none 0 (.exact 0))]),
  qo 1251 (.chan 0 [] false),
  qo 1252 (cv 341 [(.int .u32 (.ofNat 0)), (.int .i32 (.ofNat 0)), (.int .u32 (.ofNat 0)), (.chan (some 1251))]),
  qo 1253 (cv 382 [(qs 10 0x1007865646e69010003), (ql 1235 0 2 (.tip 3)), (qp 1252 0)]),
  qo 1255 (ct 359 [(qp 1263 0)]),
  qo 1256 (.chan 0 [] false),
  qo 1257 (cv 341 [(.int .u32 (.ofNat 0)), (.int .i32 (.ofNat 0)), (.int .u32 (.ofNat 0)), (.chan (some 1256))]),
  qo 1258 (cv 364 [qe, qn, (qk 1255 0 1), (qp 1257 0)]),
  qo 1261 (.chan 0 [] false),
  qo 1262 (cv 341 [(.int .u32 (.ofNat 0)), (.int .i32 (.ofNat 0)), (.int .u32 (.ofNat 0)), (.chan (some 1261))]),
  qo 1263 (cv 364 [(qs 3 0x10003), qn, (qk 1268 0 4), (qp 1262 0)]),
  qo 1264 (.chan 0 [] false),
  qo 1265 (cv 341 [(.int .u32 (.ofNat 0)), (.int .i32 (.ofNat 0)), (.int .u32 (.ofNat 0)), (.chan (some 1264))]),
  qo 1266 (cv 364 [(qs 7 0x1007865646e69), (qp 1253 0), (.slice none 0 (.exact 0)), (qp 1265 0)]),
  qo 1268 (co [(qp 1051 0), (qp 1266 0), (qp 823 0), (qp 830 0)]),
  qo 1269 (cv 366 [(qp 1258 0), (qi 4)]),
  qo 1276 (cv 251 [(qp 1269 0), (qu 1)])]
def p1 : Piece := ⟨15, [(qu 1)], 11, fHeap.tr, (qp 11 0), 1291, d1⟩
theorem pb1 : Bnd p1.n p1.t := hb0
def z1 : T16 := pt fHeap.tr d1
theorem zb1 : Bnd 1291 z1 := Bnd.pt (n := 11) (Nat.le_of_ble_eq_true (by kernel_rfl)) hb0 (by kernel_rfl)
end Go.Am.FSt
