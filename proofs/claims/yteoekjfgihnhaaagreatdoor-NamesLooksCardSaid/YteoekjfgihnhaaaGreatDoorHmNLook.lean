/- The names seat: what a name asks for, the program's and the document's. -/
import Derived.Test.YteoekjfgihnhaaaGreatDoorHmNLow
import Derived.Test.YteoekjfgihnhaaaGreatDoorHmGRB31
set_option linter.all false
set_option linter.unusedSimpArgs false
noncomputable section
namespace Go.Am
open Go.RowKit Go.Proofs

def sMuster : Str := [109, 117, 115, 116, 101, 114]
def sService : Str := [115, 101, 114, 118, 105, 99, 101]
def sNode : Str := [110, 111, 100, 101]
theorem litM : ([109, 117, 115, 116, 101, 114] : Str) = sMuster := rfl
theorem litS : ([115, 101, 114, 118, 105, 99, 101] : Str) = sService := rfl
theorem litN : ([110, 111, 100, 101] : Str) = sNode := rfl
def rec3 (k : Int) (a b : Str) : List AV := [.int .i64 k, .str a, .str b]
def lookV (ls : List Str) : List AV := match ls with
    | [a, k, _] => if low k = sService ∧ isLab a = true then rec3 1 (low a) [] else if low k = sNode ∧ isLab a = true then rec3 2 (low a) [] else rec3 3 [] []
    | [t, a, k, _] => if low k = sService ∧ isLab t = true ∧ isLab a = true then rec3 1 (low a) (low t) else rec3 3 [] []
    | _ => rec3 3 [] []
/-- What the labels ask for. -/
def lookC (ls : List Str) : List AV :=
  match ls.getLast? with
  | none => rec3 4 [] []
  | some z => if low z ≠ sMuster then rec3 4 [] [] else lookV ls
theorem isLab_low (s : Str) : isLab (low s) = isLab s := by
  rw [Bool.eq_iff_iff, isLab_iff, isLab_iff, low_low]
def strsA (ls : List Str) : List AV := ls.map AV.str
theorem strsA_ok : ∀ {ls : List Str}, cellsOk (strsA ls) = true
  | [] => rfl
  | _ :: ls => strsA_ok (ls := ls)
theorem strsA_get {ls : List Str} {i : Nat} {s : Str} (h : ls[i]? = some s) : (strsA ls)[i]? = some (.str s) := by simp [strsA, h]
theorem u22 : Tryz.prog.underlying 22 = some (.slice 9) := by kernel_rfl
theorem sz9 : sizeA Tryz.prog 9 = some 1 := by kernel_rfl
theorem ag9 : aggA Tryz.prog 9 = some false := by kernel_rfl
theorem sz25 : sizeA Tryz.prog 25 = some 3 := by kernel_rfl
theorem ag25 : aggA Tryz.prog 25 = some true := by kernel_rfl
theorem room9 {n : Nat} (h : n * 16 ≤ 140737488355328) : roomA Tryz.prog 9 n = true := by
  have h1 : roomA Tryz.prog 9 n = (Nat.ble (n * 16) 140737488355328 && Nat.ble n 9223372036854775807 && true && true) := by kernel_rfl
  rw [h1, (ble_iff _ _).2 h, (ble_iff _ _).2 (by omega)]; rfl
theorem alloc25 {h : Heap} : allocA Tryz.prog h 25 = some (.ptr (some ⟨h.next, 0⟩), h.alloc (.cells (rec3 0 [] []) (.var 25))) := by kernel_rfl
theorem build22_1 {h : Heap} {s : Str} : buildSliceA Tryz.prog h 22 1 [(0, .str s)] = some (.slice (some ⟨h.next, 0⟩) 1 (.exact 1), h.alloc (.cells [.str s] (.own (some 9)))) := by kernel_rfl
theorem build22_0 {h : Heap} : buildSliceA Tryz.prog h 22 0 [] = some (.slice (some ⟨h.next, 0⟩) 0 (.exact 0), h.alloc (.cells [] (.own (some 9)))) := by kernel_rfl
theorem b25_k {k : Int} : buildA Tryz.prog 25 [(0, .int .i64 k)] = some (.agg (rec3 k [] [])) := by kernel_rfl
theorem b25_kn {k : Int} {a : Str} : buildA Tryz.prog 25 [(0, .int .i64 k), (1, .str a)] = some (.agg (rec3 k a [])) := by kernel_rfl
theorem b25_knt {k : Int} {a b : Str} : buildA Tryz.prog 25 [(0, .int .i64 k), (1, .str a), (2, .str b)] = some (.agg (rec3 k a b)) := by kernel_rfl
theorem ld25 {h : Heap} {i : Nat} {k : Int} {a b : Str} {kd : Kind} (hg : h.get i = some (.cells (rec3 k a b) kd)) : loadA Tryz.prog h 25 ⟨i, 0⟩ = some (.agg (rec3 k a b)) := load_agg (n := 3) ag25 sz25 hg (by simp [rec3])
theorem st25 {h : Heap} {i : Nat} {k k' : Int} {a b a' b' : Str} (hg : h.get i = some (.cells (rec3 k a b) (.var 25))) : storeA Tryz.prog h 25 ⟨i, 0⟩ (.agg (rec3 k' a' b')) = some (h.set i (.cells (rec3 k' a' b') (.var 25))) := store_agg (n := 3) sz25 hg (by simp) rfl rfl rfl
theorem blt51 : Nat.blt 51 Tryz.prog.funcs.size = true := by kernel_rfl
theorem blt21 : Nat.blt 21 Tryz.prog.funcs.size = true := by kernel_rfl
theorem blt23 : Nat.blt 23 Tryz.prog.funcs.size = true := by kernel_rfl
theorem blt6 : Nat.blt 6 Tryz.prog.funcs.size = true := by kernel_rfl
theorem blt7 : Nat.blt 7 Tryz.prog.funcs.size = true := by kernel_rfl
theorem blt8 : Nat.blt 8 Tryz.prog.funcs.size = true := by kernel_rfl
theorem len22 {h : Heap} {v : AV} {ls : List Str} (hs : Sl h v (strsA ls)) (g : Heap) : lenA Tryz.prog g 22 v = some (.int .i64 ls.length) := by
  obtain ⟨l, c, rfl⟩ := hs.slice
  simp [lenA, u22, strsA]
/-- An element of a slice of texts. -/
theorem adr22 {g : Heap} {v : AV} {ls : List Str} (hs : Sl g v (strsA ls)) {i : Nat} {s : Str} (h : ls[i]? = some s) : ∃ l, indexAddrA Tryz.prog 22 v (.int .i64 (i : Int)) = some (.ptr (some l)) ∧ loadA Tryz.prog g 9 l = some (.str s) := by
  obtain ⟨l, h1, h2, _⟩ := hs.at (P := Tryz.prog) u22 sz9 ag9 (strsA_get h) (k := .i64)
  exact ⟨l, h1, h2⟩

section
variable {ov : CallF}
theorem lab15_ok (hov : ∀ a h, ov 21 a h = none) (hov39 : ∀ a h, ov 51 a h = none) (hov14 : ∀ a h, ov 20 a h = none) {h : Heap} (hw : Wf h) (s : Str) (hn : s.length ≤ 140737488355328) :
    ∃ h', callT ov Tryz.prog 21 [.str s] h = some (.ret (.bool (isLab s)) h') ∧ Keep [] h h' := by
  have main : ∃ u g, callT ov Tryz.prog 21 [.str s] h = some (.ret u g) ∧ u = .bool (isLab s) ∧ Keep [] h g := by
    refine callT_wp (fn := Tryz.f21) (hov _ _) (by kernel_rfl) rfl ?_
    have hl : (frameA Tryz.f21 [.str s]).length = 12 := frameA_length (Nat.le_of_ble_eq_true rfl)
    have h0 : nth (frameA Tryz.f21 [.str s]) 0 = .str s := frameA_nth (Nat.le_of_ble_eq_true rfl)
    generalize frameA Tryz.f21 [.str s] = e at hl h0
    obtain ⟨g1, hcall, hk1⟩ := label_ok hov39 hov14 hw s hn
    have hz : ((labA s).2 == 0) = isLab s := by
      unfold labA
      cases isLab s <;> rfl
    generalize (labA s).2 = q at hcall hz
    generalize (labA s).1 = r at hcall
    apply WP.seq; apply WP.region; simp [hl]
    repeat apply WP.seq
    apply WP.region; simp [hl, h0, callA_eq, blt51, hcall, extractA]
    repeat apply WP.seq
    apply WP.region; simp [hl, hz]
    apply WP.ret
    simp [hl, resultsA, resultA, single]
    exact hk1
  obtain ⟨_, g, h1, rfl, h2⟩ := main
  exact ⟨g, h1, h2⟩

theorem str_eql {P : Program} {h : Heap} {t : TypeId} {xo yo : Operand} {a b : Str} : binA P h .eql t xo yo (.str a) (.str b) = some (.bool (decide (a = b))) := by
  simp only [binA, strA]
  congr 2
  rw [Bool.eq_iff_iff]; simp
theorem str_neq {P : Program} {h : Heap} {t : TypeId} {xo yo : Operand} {a b : Str} : binA P h .neq t xo yo (.str a) (.str b) = some (.bool (!decide (a = b))) := by
  simp only [binA, strA]
  congr 2
  rw [Bool.eq_iff_iff]; simp
attribute [local simp] str_eql str_neq
theorem last_get {ls : List Str} (h : ls ≠ []) : ls.getLast? = ls[ls.length - 1]? := List.getLast?_eq_getElem?
def lookU (lw : List Str) : List AV := match lw with
    | [a, k, _] => if k = sService ∧ isLab a = true then rec3 1 a [] else if k = sNode ∧ isLab a = true then rec3 2 a [] else rec3 3 [] []
    | [t, a, k, _] => if k = sService ∧ isLab t = true ∧ isLab a = true then rec3 1 a t else rec3 3 [] []
    | _ => rec3 3 [] []
/-- What stands behind the loop of the program's Look. -/
def lookT (lw : List Str) : List AV :=
  match lw.getLast? with
  | none => rec3 4 [] []
  | some z => if z ≠ sMuster then rec3 4 [] [] else lookU lw
theorem lookU_some (lw : List Str) : ∃ k a b, lookU lw = rec3 k a b := by
  unfold lookU
  split
  · split; · exact ⟨_, _, _, rfl⟩
    split <;> exact ⟨_, _, _, rfl⟩
  · split <;> exact ⟨_, _, _, rfl⟩
  · exact ⟨_, _, _, rfl⟩
theorem lookT_at {lw : List Str} {z : Str} (hz : lw[lw.length - 1]? = some z) : lookT lw = if z ≠ sMuster then rec3 4 [] [] else lookU lw := by
  unfold lookT
  rw [List.getLast?_eq_getElem?, hz]
theorem lookU_other {lw : List Str} (h3 : lw.length ≠ 3) (h4 : lw.length ≠ 4) : lookU lw = rec3 3 [] [] := by
  match lw with
  | [] => rfl
  | [_] => rfl
  | [_, _] => rfl
  | [_, _, _] => simp at h3
  | [_, _, _, _] => simp at h4
  | _ :: _ :: _ :: _ :: _ :: _ => rfl
theorem lookT_low (ls : List Str) : lookT (ls.map low) = lookC ls := by
  unfold lookT lookC
  rw [List.getLast?_map]
  cases ls.getLast? with
  | none => rfl
  | some z =>
    simp only [Option.map_some]
    congr 1
    unfold lookU lookV
    match ls with
    | [] => rfl
    | [_] => rfl
    | [_, _] => rfl
    | [a, k, _] => simp only [List.map_cons, List.map_nil, isLab_low]
    | [t, a, k, _] => simp only [List.map_cons, List.map_nil, isLab_low]
    | _ :: _ :: _ :: _ :: _ :: _ => rfl
theorem lookT_some (lw : List Str) : ∃ k a b, lookT lw = rec3 k a b := by
  unfold lookT
  split
  · exact ⟨_, _, _, rfl⟩
  · split
    · exact ⟨_, _, _, rfl⟩
    · exact lookU_some lw
theorem u25 : Tryz.prog.underlying 25 = some (.struct #[⟨"Kind", 3, 0, false, "", "", 0⟩, ⟨"Name", 9, 1, false, "", "", 8⟩, ⟨"Tag", 9, 2, false, "", "", 24⟩]) := by kernel_rfl
theorem c25 : Tryz.prog.cellsOf 25 = 3 := by kernel_rfl
theorem c3 : Tryz.prog.cellsOf 3 = 1 := by kernel_rfl
theorem c9 : Tryz.prog.cellsOf 9 = 1 := by kernel_rfl
theorem agg25_ok : (Tryz.prog.keyTypeAt 100 25 && !(Tryz.prog.eqGuardType Tryz.prog.depth 25)) = true := by kernel_rfl
theorem u3' : Tryz.prog.underlying 3 = some (.int .i64) := by kernel_rfl
theorem key25 {k : Int} (h0 : 0 ≤ k) (h9 : k ≤ 9) {a b : Str} (ha : a.length ≤ 140737488355328) (hb : b.length ≤ 140737488355328) :
    Tryz.prog.keyLits 100 25 [.int .i64 k, .string ⟨a.toArray⟩, .string ⟨b.toArray⟩] = some [.int .i64 k, .string a, .string b] := by
  have hw : (Lit.int .i64 k).wf = true := by
    simp only [Lit.wf, IntKind.min, IntKind.max, IntKind.bits, IntKind.signed]
    simp
    omega
  have h1 : a.length ≤ maxLen := Nat.le_trans ha (by decide)
  have h2 : b.length ≤ maxLen := Nat.le_trans hb (by decide)
  have k3 : Tryz.prog.keyLits 99 3 [.int .i64 k] = some [.int .i64 k] := by simp [Program.keyLits, u3', hw]
  have k9 : ∀ {s : Str}, s.length ≤ maxLen → Tryz.prog.keyLits 99 9 [.string ⟨s.toArray⟩] = some [.string s] := fun {s} hs => by
    have : (⟨s.toArray⟩ : ByteArray).size ≤ maxLen := hs
    simp [Program.keyLits, u9, this]
  unfold Program.keyLits
  simp only [u25, c25, c3, c9]
  simp [c3, c9, k3, k9 h1, k9 h2]
theorem formed25 (a b c : Value) : (Value.agg #[a, b, c]).formed Tryz.prog 25 = true := by
  simp only [Value.formed, u25, c25]; rfl
theorem eqA25 {k : Int} (h0 : 0 ≤ k) (h9 : k ≤ 9) {a b : Str} (ha : a.length ≤ 140737488355328) (hb : b.length ≤ 140737488355328) : eqAggA Tryz.prog 25 (rec3 k a b) (rec3 k a b) = some true := by
  have h1 : scalarVs (rec3 k a b) = some [.int .i64 k, .string ⟨a.toArray⟩, .string ⟨b.toArray⟩] := rfl
  have h2 := agg25_ok
  have h3 := formed25 (.int .i64 k) (.string ⟨a.toArray⟩) (.string ⟨b.toArray⟩)
  simp only [eqAggA, h1]
  rw [h2, h3]
  simp only [Bool.and_self, cond_true, key25 h0 h9 ha hb]
  simp [litsEq, litsEq.litOk, litEq]
theorem eq25 (g : Heap) {k : Int} (h0 : 0 ≤ k) (h9 : k ≤ 9) {a b : Str} (ha : a.length ≤ 140737488355328) (hb : b.length ≤ 140737488355328) {xo yo : Operand} : binA Tryz.prog g .eql 25 xo yo (.agg (rec3 k a b)) (.agg (rec3 k a b)) = some (.bool true) := by
  simp only [binA, eqA25 h0 h9 ha hb]; rfl
theorem lookC_bound {ls : List Str} (hb : ∀ s ∈ ls, s.length ≤ 140737488355328) : ∃ k a b, lookC ls = rec3 k a b ∧ 0 ≤ k ∧ k ≤ 9 ∧ a.length ≤ 140737488355328 ∧ b.length ≤ 140737488355328 := by
  have hV : ∃ k a b, lookV ls = rec3 k a b ∧ 0 ≤ k ∧ k ≤ 9 ∧ a.length ≤ 140737488355328 ∧ b.length ≤ 140737488355328 := by
    unfold lookV
    split
    · rename_i a k _
      have h1 := hb a (by simp)
      split
      · exact ⟨_, _, _, rfl, by decide, by decide, by rw [low_len]; exact h1, by simp⟩
      split
      · exact ⟨_, _, _, rfl, by decide, by decide, by rw [low_len]; exact h1, by simp⟩
      · exact ⟨_, _, _, rfl, by decide, by decide, by simp, by simp⟩
    · rename_i t a k _
      have h1 := hb a (by simp)
      have h2 := hb t (by simp)
      split
      · exact ⟨_, _, _, rfl, by decide, by decide, by rw [low_len]; exact h1, by rw [low_len]; exact h2⟩
      · exact ⟨_, _, _, rfl, by decide, by decide, by simp, by simp⟩
    · exact ⟨_, _, _, rfl, by decide, by decide, by simp, by simp⟩
  unfold lookC
  split
  · exact ⟨_, _, _, rfl, by decide, by decide, by simp, by simp⟩
  · split
    · exact ⟨_, _, _, rfl, by decide, by decide, by simp, by simp⟩
    · exact hV
set_option maxHeartbeats 8000000 in
set_option maxRecDepth 100000 in
theorem look_ok (hov : ∀ a h, ov 7 a h = none) (hov15 : ∀ a h, ov 21 a h = none) (hov39 : ∀ a h, ov 51 a h = none) (hov14 : ∀ a h, ov 20 a h = none) {h : Heap} (hw : Wf h) {v : AV} {ls : List Str} (hs : Sl h v (strsA ls)) (hn : ls.length * 16 ≤ 140737488355328) (hb : ∀ s ∈ ls, s.length ≤ 140737488355328) :
    ∃ h', callT ov Tryz.prog 7 [v] h = some (.ret (.agg (lookC ls)) h') ∧ Keep [] h h' := by
  have main : ∃ u g, callT ov Tryz.prog 7 [v] h = some (.ret u g) ∧ u = .agg (lookC ls) ∧ Keep [] h g := by
    refine callT_wp (fn := Tryz.f7) (hov _ _) (by kernel_rfl) rfl ?_
    have hl : (frameA Tryz.f7 [v]).length = 101 := frameA_length (Nat.le_of_ble_eq_true rfl)
    have h0 : nth (frameA Tryz.f7 [v]) 0 = v := frameA_nth (Nat.le_of_ble_eq_true rfl)
    generalize frameA Tryz.f7 [v] = e at hl h0
    have hk0 := (Keep.refl (ex := []) hw).alloc (.cells (rec3 0 [] []) (.var 25))
    have hR0 : (h.alloc (.cells (rec3 0 [] []) (.var 25))).get h.next = _ := Heap.get_alloc _ _
    have hx0 : (h.alloc (.cells (rec3 0 [] []) (.var 25))).next = h.next + 1 := Heap.next_alloc _ _
    have hs0 : Sl (h.alloc (.cells (rec3 0 [] []) (.var 25))) v (strsA ls) := hs.keep hk0 (by simp)
    apply WP.seq; apply WP.region; simp [hl, alloc25]
    generalize h.alloc (.cells (rec3 0 [] []) (.var 25)) = g0 at hk0 hR0 hx0 hs0
    repeat apply WP.seq
    apply WP.region; simp [hl]
    have hlen : ∀ g, lenA Tryz.prog g 22 v = some (.int .i64 ls.length) := fun g => len22 hs g
    repeat apply WP.seq
    apply WP.region; simp [hl, h0, hlen]
    repeat apply WP.seq
    apply WP.block
    refine WP.loop (fun n e g => Keep [] g0 g ∧ e.length = 101 ∧ nth e 2 = .ptr (some ⟨h.next, 0⟩) ∧ nth e 8 = v ∧ nth e 9 = .int .i64 ls.length ∧ ∃ i, i ≤ ls.length ∧ n = ls.length - i ∧ nth e 10 = .int .i64 (i : Nat) ∧ Acc g0.next 9 g (nth e 3) (strsA ((ls.take i).map low))) ?_ ls.length _ _ ?_
    · rintro n e g ⟨hk, hl, h2, h8, h9, i, hi, rfl, h10, hA⟩
      repeat apply WP.seq
      apply WP.region; simp [hl, h9, h10]
      repeat apply WP.seq
      apply WP.cond (by simp [hl]; rfl)
      · intro hlt1
        have hlt1 : i < ls.length := by simpa using hlt1
        apply WP.skip; simp
        repeat apply WP.seq
        apply WP.block
        obtain ⟨s, hsi⟩ : ∃ s, ls[i]? = some s := ⟨ls[i], by simp [hlt1]⟩
        obtain ⟨l1, hl1, hl1'⟩ := adr22 (hs0.keep hk (by simp)) hsi
        obtain ⟨g2, hcall, hk2⟩ := low_ok hov14 hk.wf s (hb s (List.mem_of_getElem? hsi))
        have hA2 : Acc g0.next 9 g2 (nth e 3) (strsA ((ls.take i).map low)) := hA.keep hk2 (by simp)
        have hk02 := hk.trans hk2
        have hy : Sl (g2.alloc (.cells [.str (low s)] (.own (some 9)))) (.slice (some ⟨g2.next, 0⟩) 1 (.exact 1)) [.str (low s)] := ⟨⟨rfl, Nat.le_refl _⟩, .inr ⟨_, _, Heap.get_alloc _ _, by simp, by simp⟩⟩
        have hll : (strsA ((ls.take i).map low)).length + 1 ≤ ls.length := by simp only [strsA, List.length_map, List.length_take]; omega
        obtain ⟨v', g3, ha, hA', hk3, _⟩ := Acc.push (P := Tryz.prog) (t := 22) (hA2.keep ((Keep.refl (ex := []) hk02.wf).alloc (.cells [.str (low s)] (.own (some 9)))) (by simp)) (hk02.alloc (.cells [.str (low s)] (.own (some 9)))) (Nat.le_refl _) (by rw [Heap.next_alloc]; have := hk02.le; omega) u22 sz9 (room9 (by omega)) hy rfl
        have ha' := appA_of ha
        have hnext : strsA ((ls.take (i + 1)).map low) = strsA ((ls.take i).map low) ++ [.str (low s)] := by rw [List.take_add_one, hsi]; simp [strsA]
        repeat apply WP.seq
        apply WP.region; simp [hl, h8, h10, hl1, hl1']
        apply WP.region; simp [hl, callA_eq, blt20, hcall, build22_1, ha']
        repeat apply WP.seq
        apply WP.region; simp [hl, h10, int_wrap (show i < 9223372036854775807 by omega)]
        refine ⟨ls.length - (i + 1), by omega, hk3, h2, h8, h9, i + 1, by omega, rfl, by simp, ?_⟩
        try rw [List.map_take] at hnext
        first | (rw [hnext]; exact hA') | (simp only [List.map_take] at hnext hA' ⊢; rw [hnext]; exact hA')
      · intro hge
        have hge : ¬ i < ls.length := by simpa using hge
        have hi' : i = ls.length := by omega
        subst hi'
        apply WP.exit
        try simp
        rw [List.take_length] at hA
        have hLs := hA.sl
        have hmem : ∀ s ∈ ls.map low, s.length ≤ 140737488355328 := by
          intro s hs
          obtain ⟨s0, h1, rfl⟩ := List.mem_map.1 hs
          rw [low_len]; exact hb s0 h1
        rw [← lookT_low]
        have hlw : (ls.map low).length = ls.length := List.length_map _
        generalize ls.map low = lw at hLs hmem hlw
        rw [← hlw] at hn
        have hRg : g.get h.next = some (.cells (rec3 0 [] []) (.var 25)) := hk.get _ _ hR0 (by simp)
        have hkg := hk0.trans hk
        have hnx : h.next < g.next := by have := hk.le; omega
        clear hA hlen hs0 hs
        -- behind the loop
        have fin : ∀ {e : List AV} {g' : Heap} {K : List AV}, Keep [] g g' → (∃ k a b, K = rec3 k a b) → loadA Tryz.prog (g'.set h.next (.cells K (.var 25))) 25 ⟨h.next, 0⟩ = some (.agg K) ∧ Keep [] h (g'.set h.next (.cells K (.var 25))) ∧ storeA Tryz.prog g' 25 ⟨h.next, 0⟩ (.agg K) = some (g'.set h.next (.cells K (.var 25))) := by
          rintro e g' K hk' ⟨k, a, b, rfl⟩
          exact ⟨ld25 (Heap.get_set _ _ _), (hkg.trans hk').set _ (by have := hk'.le; omega) (.inr (Nat.le_refl _)), st25 (hk'.get _ _ hRg (by simp))⟩
        by_cases hls : lw = []
        · subst hls
          have hlen : ∀ g, lenA Tryz.prog g 22 (nth e 3) = some (.int .i64 (0 : Nat)) := fun g => len22 hLs g
          obtain ⟨f1, f2, f3⟩ := fin (e := e) (K := rec3 4 [] []) (Keep.refl (ex := []) hk.wf) ⟨_, _, _, rfl⟩
          repeat apply WP.seq
          apply WP.region; simp [hl, hlen]
          repeat apply WP.seq
          apply WP.region; simp [hl, guardA, wrap_small]
          apply WP.cond (by simp [hl]; rfl)
          · intro _
            repeat apply WP.seq
            apply WP.region; simp [hl, h2, b25_k, storeR_ptr f3]
            apply WP.ret
            simp [hl, h2, resultsA, resultA, single, f1, lookT, f2]
          · intro hf; cases hf
        · have hpos : 0 < lw.length := List.length_pos_iff.2 hls
          clear hls
          have hlen : ∀ g, lenA Tryz.prog g 22 (nth e 3) = some (.int .i64 lw.length) := fun g => len22 hLs g
          have hpw := pred_wrap hpos (by omega)
          obtain ⟨z, hz⟩ : ∃ z, lw[lw.length - 1]? = some z := ⟨lw[lw.length - 1]'(by omega), by rw [List.getElem?_eq_getElem]⟩
          have hT := lookT_at hz
          obtain ⟨lz, hz1, hz2⟩ := adr22 hLs hz
          generalize hm : lw.length - 1 = m at hpw hz hz1
          have hmn : ¬ (m : Int) < 0 := by omega
          repeat apply WP.seq
          apply WP.region; simp [hl, hlen, hpw]
          repeat apply WP.seq
          generalize hL : nth e 3 = L at hLs hz1
          refine WP.regionS (fun e' g' => e'.length = 101 ∧ g' = g ∧ nth e' 2 = .ptr (some ⟨h.next, 0⟩) ∧ nth e' 3 = L ∧ nth e' 6 = .int .i64 (m : Nat) ∧ nth e' 31 = .bool (decide (z ≠ sMuster))) ?_ ?_
          · simp [hl, h2, hL, guardA, hmn, hz1, hz2, litM]
          · rintro e g' ⟨hl, rfl, h2, h3, h6, h31⟩
            apply WP.cond (by rw [ev_tmp]; exact h31)
            · intro hbad
              have hbad : z ≠ sMuster := by simpa using hbad
              rw [if_pos hbad] at hT
              obtain ⟨f1, f2, f3⟩ := fin (e := e) (K := rec3 4 [] []) (Keep.refl (ex := []) hk.wf) ⟨_, _, _, rfl⟩
              repeat apply WP.seq
              apply WP.region; simp [hl, h2, b25_k, storeR_ptr f3]
              apply WP.ret
              simp [hl, h2, resultsA, resultA, single, f1, hT, f2]
            · intro hgood
              have hgood : ¬ z ≠ sMuster := by simpa using hgood
              rw [if_neg hgood] at hT
              apply WP.skip; simp
              have hka := (Keep.refl (ex := []) hk.wf).alloc (.cells (rec3 0 [] []) (.var 25))
              have hga : (g'.alloc (.cells (rec3 0 [] []) (.var 25))).get g'.next = _ := Heap.get_alloc _ _
              have hsa := st25 (k' := 3) (a' := []) (b' := []) hga
              have hkb := hka.set (i := g'.next) (.cells (rec3 3 [] []) (.var 25)) (by rw [Heap.next_alloc]; omega) (.inr (Nat.le_refl _))
              have hgb : ((g'.alloc (.cells (rec3 0 [] []) (.var 25))).set g'.next (.cells (rec3 3 [] []) (.var 25))).get g'.next = _ := Heap.get_set _ _ _
              have hxb : g'.next < ((g'.alloc (.cells (rec3 0 [] []) (.var 25))).set g'.next (.cells (rec3 3 [] []) (.var 25))).next := by rw [Heap.next_set, Heap.next_alloc]; omega
              repeat apply WP.seq
              apply WP.region; simp [hl, b25_k, alloc25, storeR_ptr hsa]
              generalize (g'.alloc (.cells (rec3 0 [] []) (.var 25))).set g'.next (.cells (rec3 3 [] []) (.var 25)) = gb at hkb hgb hxb
              repeat apply WP.seq
              refine WP.mono (K := fun o e' gc => o = .normal ∧ e'.length = 101 ∧ nth e' 2 = .ptr (some ⟨h.next, 0⟩) ∧ nth e' 7 = .ptr (some ⟨g'.next, 0⟩) ∧ Keep [] g' gc ∧ gc.get g'.next = some (.cells (lookU lw) (.var 25))) ?_ ?_
              · apply WP.block
                have hLb : ∀ {gc : Heap}, Keep [] gb gc → Sl gc L (strsA lw) := fun hkc => (hLs.keep hkb (by simp)).keep hkc (by simp)
                -- the record is told anew
                have put : ∀ {gc : Heap} (K : List AV), Keep [] gb gc → (∃ k a b, K = rec3 k a b) → storeA Tryz.prog gc 25 ⟨g'.next, 0⟩ (.agg K) = some (gc.set g'.next (.cells K (.var 25))) ∧ Keep [] g' (gc.set g'.next (.cells K (.var 25))) ∧ (gc.set g'.next (.cells K (.var 25))).get g'.next = some (.cells K (.var 25)) := by
                  rintro gc K hkc ⟨k, a, b, rfl⟩
                  have hgc := hkc.get _ _ hgb (by simp)
                  exact ⟨st25 hgc, (hkb.trans hkc).set _ (by have := hkc.le; omega) (.inr (Nat.le_refl _)), Heap.get_set _ _ _⟩
                have lab := fun {gc : Heap} (hkc : Keep [] gb gc) (s : Str) (hs : s ∈ lw) => lab15_ok hov15 hov39 hov14 hkc.wf s (hmem s hs)
                have kr := Keep.refl (ex := []) hkb.wf
                have stay : ∀ {gc : Heap}, Keep [] gb gc → lookU lw = rec3 3 [] [] → Keep [] g' gc ∧ gc.get g'.next = some (.cells (lookU lw) (.var 25)) := fun hkc hU => ⟨hkb.trans hkc, by rw [hU]; exact hkc.get _ _ hgb (by simp)⟩
                have hns : sNode ≠ sService := by decide
                have h7 : nth (e.set 33 (.agg (rec3 3 [] []))) 7 = nth e 7 := nth_set_ne (by decide)
                by_cases h3l : lw.length = 3
                · obtain ⟨a, k, z', rfl⟩ : ∃ a k z', lw = [a, k, z'] := by
                    match lw, h3l with
                    | [a, k, z'], _ => exact ⟨a, k, z', rfl⟩
                  have hm2 : m = 2 := by simpa using hm.symm
                  subst hm2
                  obtain ⟨l1, x1, y1⟩ := adr22 (i := 1) (s := k) (hLb kr) rfl
                  obtain ⟨l0, x0, y0⟩ := adr22 (i := 0) (s := a) (hLb kr) rfl
                  have x1 : indexAddrA Tryz.prog 22 L (.int .i64 1) = some (.ptr (some l1)) := x1
                  have x0 : indexAddrA Tryz.prog 22 L (.int .i64 0) = some (.ptr (some l0)) := x0
                  obtain ⟨gc, hc, hkc⟩ := lab kr a (by simp)
                  obtain ⟨l0', x0', y0'⟩ := adr22 (i := 0) (s := a) (hLb hkc) rfl
                  have x0' : indexAddrA Tryz.prog 22 L (.int .i64 0) = some (.ptr (some l0')) := x0'
                  by_cases hsv : k = sService
                  · have hnn : ¬ sService = sNode := fun hh => hns hh.symm
                    subst hsv
                    cases hla : isLab a with
                    | true =>
                      rw [hla] at hc
                      have hU : lookU [a, sService, z'] = rec3 1 a [] := by simp [lookU, hla]
                      obtain ⟨p1, p2, p3⟩ := put (rec3 1 a []) hkc ⟨_, _, _, rfl⟩
                      repeat apply WP.seq
                      apply WP.region; simp [hl, h3, h6, x1, y1, x0, y0, guardA, callA_eq, blt21, hc, litS]
                      apply WP.cond (by simp [hl]; rfl)
                      · intro _
                        apply WP.region; simp [hl, h3, x0', y0', b25_kn, storeR_ptr p1]
                        exact ⟨h2, p2, by rw [hU]; exact p3⟩
                      · intro hf; cases hf
                    | false =>
                      rw [hla] at hc
                      have hU : lookU [a, sService, z'] = rec3 3 [] [] := by simp [lookU, hla]
                      obtain ⟨l1', x1', y1'⟩ := adr22 (i := 1) (s := sService) (hLb hkc) rfl
                      have x1' : indexAddrA Tryz.prog 22 L (.int .i64 1) = some (.ptr (some l1')) := x1'
                      repeat apply WP.seq
                      apply WP.region; simp [hl, h3, h6, x1, y1, x0, y0, guardA, callA_eq, blt21, hc, litS]
                      apply WP.cond (by simp [hl]; rfl)
                      · intro hf; cases hf
                      · intro _
                        repeat apply WP.seq
                        apply WP.region; simp [hl, h6, guardA]
                        apply WP.cond (by simp [hl]; rfl)
                        · intro hf; cases hf
                        · intro _
                          repeat apply WP.seq
                          apply WP.region; simp [hl, h3, h6, x1', y1', guardA, litN, hnn]
                          apply WP.cond (by simp [hl]; rfl)
                          · intro hf; cases hf
                          · intro _
                            apply WP.skip; simp [hl]
                            exact ⟨h2, stay hkc hU⟩
                  · repeat apply WP.seq
                    apply WP.region; simp [hl, h3, h6, x1, y1, guardA, litS, hsv]
                    apply WP.cond (by simp [hl]; rfl)
                    · intro hf; cases hf
                    · intro _
                      repeat apply WP.seq
                      apply WP.region; simp [hl, h6, guardA]
                      apply WP.cond (by simp [hl]; rfl)
                      · intro hf; cases hf
                      · intro _
                        by_cases hnn : k = sNode
                        · subst hnn
                          cases hla : isLab a with
                          | true =>
                            rw [hla] at hc
                            have hU : lookU [a, sNode, z'] = rec3 2 a [] := by simp [lookU, hla, hns]
                            obtain ⟨p1, p2, p3⟩ := put (rec3 2 a []) hkc ⟨_, _, _, rfl⟩
                            repeat apply WP.seq
                            apply WP.region; simp [hl, h3, h6, x1, y1, x0, y0, guardA, callA_eq, blt21, hc, litN]
                            apply WP.cond (by simp [hl]; rfl)
                            · intro _
                              apply WP.region; simp [hl, h3, x0', y0', b25_kn, storeR_ptr p1]
                              exact ⟨h2, p2, by rw [hU]; exact p3⟩
                            · intro hf; cases hf
                          | false =>
                            rw [hla] at hc
                            have hU : lookU [a, sNode, z'] = rec3 3 [] [] := by simp [lookU, hla]
                            repeat apply WP.seq
                            apply WP.region; simp [hl, h3, h6, x1, y1, x0, y0, guardA, callA_eq, blt21, hc, litN]
                            apply WP.cond (by simp [hl]; rfl)
                            · intro hf; cases hf
                            · intro _
                              apply WP.skip; simp [hl]
                              exact ⟨h2, stay hkc hU⟩
                        · have hU : lookU [a, k, z'] = rec3 3 [] [] := by simp [lookU, hsv, hnn]
                          repeat apply WP.seq
                          apply WP.region; simp [hl, h3, h6, x1, y1, guardA, litN, hnn]
                          apply WP.cond (by simp [hl]; rfl)
                          · intro hf; cases hf
                          · intro _
                            apply WP.skip; simp [hl]
                            exact ⟨h2, stay kr hU⟩
                · have hm2 : ((m : Int) == 2) = false := by
                    have : m ≠ 2 := by omega
                    simpa using fun hh => this (by omega)
                  repeat apply WP.seq
                  apply WP.region; simp [hl, h6, guardA, hm2]
                  apply WP.cond (by simp [hl]; rfl)
                  · intro hf; cases hf
                  · intro _
                    by_cases h4l : lw.length = 4
                    · obtain ⟨t, a, k, z', rfl⟩ : ∃ t a k z', lw = [t, a, k, z'] := by
                        match lw, h4l with
                        | [t, a, k, z'], _ => exact ⟨t, a, k, z', rfl⟩
                      have hm3 : m = 3 := by simpa using hm.symm
                      subst hm3
                      obtain ⟨l2, x2, y2⟩ := adr22 (i := 2) (s := k) (hLb kr) rfl
                      obtain ⟨l0, x0, y0⟩ := adr22 (i := 0) (s := t) (hLb kr) rfl
                      have x2 : indexAddrA Tryz.prog 22 L (.int .i64 2) = some (.ptr (some l2)) := x2
                      have x0 : indexAddrA Tryz.prog 22 L (.int .i64 0) = some (.ptr (some l0)) := x0
                      obtain ⟨gc, hc, hkc⟩ := lab kr t (by simp)
                      obtain ⟨l1, x1, y1⟩ := adr22 (i := 1) (s := a) (hLb hkc) rfl
                      have x1 : indexAddrA Tryz.prog 22 L (.int .i64 1) = some (.ptr (some l1)) := x1
                      obtain ⟨gd, hd, hkd'⟩ := lab hkc a (by simp)
                      have hkd := hkc.trans hkd'
                      obtain ⟨l0', x0', y0'⟩ := adr22 (i := 0) (s := t) (hLb hkd) rfl
                      have x0' : indexAddrA Tryz.prog 22 L (.int .i64 0) = some (.ptr (some l0')) := x0'
                      obtain ⟨l1', x1', y1'⟩ := adr22 (i := 1) (s := a) (hLb hkd) rfl
                      have x1' : indexAddrA Tryz.prog 22 L (.int .i64 1) = some (.ptr (some l1')) := x1'
                      by_cases hsv : k = sService
                      · subst hsv
                        cases hlt : isLab t with
                        | true =>
                          rw [hlt] at hc
                          cases hla : isLab a with
                          | true =>
                            rw [hla] at hd
                            have hU : lookU [t, a, sService, z'] = rec3 1 a t := by simp [lookU, hlt, hla]
                            obtain ⟨p1, p2, p3⟩ := put (rec3 1 a t) hkd ⟨_, _, _, rfl⟩
                            repeat apply WP.seq
                            apply WP.region; simp [hl, h3, h6, x2, y2, x0, y0, x1, y1, guardA, callA_eq, blt21, hc, hd, litS]
                            apply WP.cond (by simp [hl]; rfl)
                            · intro _
                              apply WP.draw (by kernel_rfl) (by kernel_rfl)
                              simp [hl, h3, x0', y0', x1', y1', b25_knt, storeR_ptr p1]
                              exact ⟨h2, p2, by rw [hU]; exact p3⟩
                            · intro hf; cases hf
                          | false =>
                            rw [hla] at hd
                            have hU : lookU [t, a, sService, z'] = rec3 3 [] [] := by simp [lookU, hla]
                            repeat apply WP.seq
                            apply WP.region; simp [hl, h3, h6, x2, y2, x0, y0, x1, y1, guardA, callA_eq, blt21, hc, hd, litS]
                            apply WP.cond (by simp [hl]; rfl)
                            · intro hf; cases hf
                            · intro _
                              repeat apply WP.seq
                              apply WP.region; simp [hl, h6, guardA]
                              apply WP.cond (by simp [hl]; rfl)
                              · intro hf; cases hf
                              · intro _
                                apply WP.skip; simp [hl]
                                exact ⟨h2, stay hkd hU⟩
                        | false =>
                          rw [hlt] at hc
                          have hU : lookU [t, a, sService, z'] = rec3 3 [] [] := by simp [lookU, hlt]
                          repeat apply WP.seq
                          apply WP.region; simp [hl, h3, h6, x2, y2, x0, y0, guardA, callA_eq, blt21, hc, litS]
                          apply WP.cond (by simp [hl]; rfl)
                          · intro hf; cases hf
                          · intro _
                            repeat apply WP.seq
                            apply WP.region; simp [hl, h6, guardA]
                            apply WP.cond (by simp [hl]; rfl)
                            · intro hf; cases hf
                            · intro _
                              apply WP.skip; simp [hl]
                              exact ⟨h2, stay hkc hU⟩
                      · have hU : lookU [t, a, k, z'] = rec3 3 [] [] := by simp [lookU, hsv]
                        repeat apply WP.seq
                        apply WP.region; simp [hl, h3, h6, x2, y2, guardA, litS, hsv]
                        apply WP.cond (by simp [hl]; rfl)
                        · intro hf; cases hf
                        · intro _
                          repeat apply WP.seq
                          apply WP.region; simp [hl, h6, guardA]
                          apply WP.cond (by simp [hl]; rfl)
                          · intro hf; cases hf
                          · intro _
                            apply WP.skip; simp [hl]
                            exact ⟨h2, stay kr hU⟩
                    · have hm3 : ((m : Int) == 3) = false := by
                        have : m ≠ 3 := by omega
                        simpa using fun hh => this (by omega)
                      have hU : lookU lw = rec3 3 [] [] := lookU_other h3l h4l
                      repeat apply WP.seq
                      apply WP.region; simp [hl, h6, guardA, hm3]
                      apply WP.cond (by simp [hl]; rfl)
                      · intro hf; cases hf
                      · intro _
                        repeat apply WP.seq
                        apply WP.region; simp [hl, h6, guardA, hm2]
                        apply WP.cond (by simp [hl]; rfl)
                        · intro hf; cases hf
                        · intro _
                          apply WP.skip; simp [hl]
                          exact ⟨h2, stay kr hU⟩
              · rintro o e gc ⟨rfl, hl, h2, h7, hkc, hgc⟩
                obtain ⟨kk, aa, bb, hU⟩ := lookU_some lw
                rw [hU] at hgc hT
                obtain ⟨f1, f2, f3⟩ := fin (e := e) (K := rec3 kk aa bb) hkc ⟨_, _, _, rfl⟩
                show WP _ _ _ _ _ _
                apply WP.seq
                apply WP.region; simp [hl, h2, h7, ld25 hgc, storeR_ptr f3]
                apply WP.ret
                simp [hl, h2, resultsA, resultA, single, f1, hT, f2]
    · exact ⟨Keep.refl hk0.wf, by simp [hl], by simp [hl], by simp [hl, h0], by simp [hl], 0, by omega, by omega, by simp [hl], by simp [hl, strsA]; exact .inl ⟨rfl, none, rfl, by simp⟩⟩
  obtain ⟨_, g, h1, rfl, h2⟩ := main
  exact ⟨g, h1, h2⟩
set_option maxHeartbeats 8000000 in
set_option maxRecDepth 100000 in
theorem rlook_ok (hov : ∀ a h, ov 8 a h = none) (hov17 : ∀ a h, ov 23 a h = none) (hov16 : ∀ a h, ov 22 a h = none) {h : Heap} (hw : Wf h) {v : AV} {ls : List Str} (hs : Sl h v (strsA ls)) (hn : ls.length * 16 ≤ 140737488355328) (hb : ∀ s ∈ ls, s.length ≤ 140737488355328) :
    ∃ h', callT ov Tryz.prog 8 [v] h = some (.ret (.agg (lookC ls)) h') ∧ Keep [] h h' := by
  have main : ∃ u g, callT ov Tryz.prog 8 [v] h = some (.ret u g) ∧ u = .agg (lookC ls) ∧ Keep [] h g := by
    refine callT_wp (fn := Tryz.f8) (hov _ _) (by kernel_rfl) rfl ?_
    have hl : (frameA Tryz.f8 [v]).length = 75 := frameA_length (Nat.le_of_ble_eq_true rfl)
    have h0 : nth (frameA Tryz.f8 [v]) 0 = v := frameA_nth (Nat.le_of_ble_eq_true rfl)
    generalize frameA Tryz.f8 [v] = e at hl h0
    have hk0 := (Keep.refl (ex := []) hw).alloc (.cells (rec3 0 [] []) (.var 25))
    have hR0 : (h.alloc (.cells (rec3 0 [] []) (.var 25))).get h.next = _ := Heap.get_alloc _ _
    have hx0 : (h.alloc (.cells (rec3 0 [] []) (.var 25))).next = h.next + 1 := Heap.next_alloc _ _
    have hs0 : Sl (h.alloc (.cells (rec3 0 [] []) (.var 25))) v (strsA ls) := hs.keep hk0 (by simp)
    apply WP.seq; apply WP.region; simp [hl, alloc25]
    generalize h.alloc (.cells (rec3 0 [] []) (.var 25)) = g0 at hk0 hR0 hx0 hs0
    have hlen : ∀ g, lenA Tryz.prog g 22 v = some (.int .i64 ls.length) := fun g => len22 hs g
    have fin : ∀ {g' : Heap} {K : List AV}, Keep [] g0 g' → (∃ k a b, K = rec3 k a b) → loadA Tryz.prog (g'.set h.next (.cells K (.var 25))) 25 ⟨h.next, 0⟩ = some (.agg K) ∧ Keep [] h (g'.set h.next (.cells K (.var 25))) ∧ storeA Tryz.prog g' 25 ⟨h.next, 0⟩ (.agg K) = some (g'.set h.next (.cells K (.var 25))) := by
      rintro g' K hk' ⟨k, a, b, rfl⟩
      exact ⟨ld25 (Heap.get_set _ _ _), (hk0.trans hk').set _ (by have := hk'.le; omega) (.inr (Nat.le_refl _)), st25 (hk'.get _ _ hR0 (by simp))⟩
    have kr := Keep.refl (ex := []) hk0.wf
    repeat apply WP.seq
    apply WP.region; simp [hl, h0, hlen]
    repeat apply WP.seq
    by_cases hne : ls = []
    · subst hne
      obtain ⟨f1, f2, f3⟩ := fin (K := rec3 4 [] []) kr ⟨_, _, _, rfl⟩
      apply WP.region; simp [hl, guardA]
      apply WP.cond (by simp [hl]; rfl)
      · intro _
        repeat apply WP.seq
        apply WP.region; simp [hl, b25_k, storeR_ptr f3]
        apply WP.ret
        simp [hl, resultsA, resultA, single, f1, lookC, f2]
      · intro hf; cases hf
    · have hpos : 0 < ls.length := List.length_pos_iff.2 hne
      have hpw := pred_wrap hpos (by omega)
      obtain ⟨z, hz⟩ : ∃ z, ls[ls.length - 1]? = some z := ⟨ls[ls.length - 1]'(by omega), by rw [List.getElem?_eq_getElem]⟩
      have hC : lookC ls = if low z ≠ sMuster then rec3 4 [] [] else lookV ls := by
        unfold lookC; rw [List.getLast?_eq_getElem?, hz]
      obtain ⟨lz, z1, z2⟩ := adr22 hs0 hz
      obtain ⟨g1, hc1, hk1⟩ := rlow_ok hov16 hk0.wf z (hb z (List.mem_of_getElem? hz))
      have hn0 : ((ls.length : Int) == 0) = false := by simpa using hne
      refine WP.regionS (fun e' g' => e'.length = 75 ∧ g' = g1 ∧ nth e' 0 = v ∧ nth e' 2 = .ptr (some ⟨h.next, 0⟩) ∧ nth e' 3 = .int .i64 ls.length ∧ nth e' 21 = .bool (decide (low z ≠ sMuster))) ?_ ?_
      · simp [hl, h0, guardA, hn0, hpw, z1, z2, callA_eq, blt22, hc1, litM]
      · rintro e g' ⟨hl, rfl, h0, h2, h3, h21⟩
        apply WP.cond (by rw [ev_tmp]; exact h21)
        · intro hbad
          have hbad : low z ≠ sMuster := by simpa using hbad
          rw [if_pos hbad] at hC
          obtain ⟨f1, f2, f3⟩ := fin (K := rec3 4 [] []) hk1 ⟨_, _, _, rfl⟩
          repeat apply WP.seq
          apply WP.region; simp [hl, h2, b25_k, storeR_ptr f3]
          apply WP.ret
          simp [hl, h2, resultsA, resultA, single, f1, hC, f2]
        · intro hgood
          have hgood : ¬ low z ≠ sMuster := by simpa using hgood
          rw [if_neg hgood] at hC
          apply WP.skip; simp
          repeat apply WP.seq
          refine WP.regionS (fun e' g2 => e'.length = 75 ∧ g2 = g' ∧ nth e' 0 = v ∧ nth e' 2 = .ptr (some ⟨h.next, 0⟩) ∧ nth e' 3 = .int .i64 ls.length ∧ nth e' 28 = .bool (!decide (ls.length = 3 ∨ ls.length = 4))) ?_ ?_
          · by_cases c3 : ls.length = 3
            · simp [hl, h0, h2, h3, guardA, c3]
            · have c3' : ((ls.length : Int) != 3) = true := by simpa using fun hh => c3 (by omega)
              by_cases c4 : ls.length = 4
              · simp [hl, h0, h2, h3, guardA, c4]
              · have c4' : ((ls.length : Int) != 4) = true := by simpa using fun hh => c4 (by omega)
                simp [hl, h0, h2, h3, guardA, c3, c4, c3', c4']
          · rintro e g2 ⟨hl, rfl, h0, h2, h3, h28⟩
            apply WP.cond (by rw [ev_tmp]; exact h28)
            · intro hbad
              have hbad : ¬ (ls.length = 3 ∨ ls.length = 4) := by simpa using hbad
              have hU : lookC ls = rec3 3 [] [] := by
                rw [hC]
                match ls with
                | [] => rfl
                | [_] => rfl
                | [_, _] => rfl
                | [_, _, _] => simp at hbad
                | [_, _, _, _] => simp at hbad
                | _ :: _ :: _ :: _ :: _ :: _ => rfl
              obtain ⟨f1, f2, f3⟩ := fin (K := rec3 3 [] []) hk1 ⟨_, _, _, rfl⟩
              repeat apply WP.seq
              apply WP.region; simp [hl, h2, b25_k, storeR_ptr f3]
              apply WP.ret
              simp [hl, h2, resultsA, resultA, single, f1, hU, f2]
            · intro hshape
              have hshape : ls.length = 3 ∨ ls.length = 4 := by simp at hshape; omega
              apply WP.skip; simp
              obtain ⟨k, hk⟩ : ∃ k, ls[ls.length - 2]? = some k := ⟨ls[ls.length - 2]'(by omega), by rw [List.getElem?_eq_getElem]⟩
              obtain ⟨a, ha⟩ : ∃ a, ls[ls.length - 3]? = some a := ⟨ls[ls.length - 3]'(by omega), by rw [List.getElem?_eq_getElem]⟩
              obtain ⟨t, ht⟩ : ∃ t, ls[0]? = some t := ⟨ls[0]'(by omega), by rw [List.getElem?_eq_getElem]⟩
              have hp2 : IntKind.wrap .i64 ((ls.length : Int) - 2) = ((ls.length - 2 : Nat) : Int) := by rw [wrap_small (by omega) (by omega)]; omega
              have hp3 : IntKind.wrap .i64 ((ls.length : Int) - 3) = ((ls.length - 3 : Nat) : Int) := by rw [wrap_small (by omega) (by omega)]; omega
              have hz2 : ∀ s : Str, ((labA s).2 = 0 ↔ isLab s = true) ∧ (isLab s = true → (labA s).1 = low s) := by
                intro s
                unfold labA
                cases isLab s <;> simp
              have hS : lookC ls = if isLab a = true ∧ (ls.length = 4 → isLab t = true) then (if low k = sService then rec3 1 (low a) (if ls.length = 4 then low t else []) else if low k = sNode ∧ ls.length = 3 then rec3 2 (low a) [] else rec3 3 [] []) else rec3 3 [] [] := by
                rw [hC]
                have hns : sNode ≠ sService := by decide
                rcases hshape with h3 | h4
                · match ls, h3, hk, ha, ht with
                  | [a', k', _], _, hk, ha, ht =>
                    cases hk; cases ha; cases ht
                    by_cases c1 : isLab a = true
                    · by_cases c2 : low k = sService <;> simp [lookV, c1, c2]
                    · simp [lookV, c1]
                · match ls, h4, hk, ha, ht with
                  | [t', a', k', _], _, hk, ha, ht =>
                    cases hk; cases ha; cases ht
                    by_cases c1 : isLab a = true
                    · by_cases c2 : low k = sService
                      · by_cases c3 : isLab t = true <;> simp [lookV, c1, c2, c3]
                      · simp [lookV, c1, c2]
                    · simp [lookV, c1]
              obtain ⟨lk, k1, k2⟩ := adr22 (hs0.keep hk1 (by simp)) hk
              obtain ⟨g3, hc3, hk3⟩ := rlow_ok hov16 hk1.wf k (hb k (List.mem_of_getElem? hk))
              have hk13 := hk1.trans hk3
              obtain ⟨la, a1, a2⟩ := adr22 (hs0.keep hk13 (by simp)) ha
              obtain ⟨g4, hc4, hk4⟩ := rlabel_ok hov17 hov16 hk13.wf a (hb a (List.mem_of_getElem? ha))
              have hk14 := hk13.trans hk4
              have hza := hz2 a
              generalize hqa : labA a = qa at hc4 hza
              obtain ⟨na, ea⟩ := qa
              obtain ⟨lt, t1, t2⟩ := adr22 (hs0.keep hk14 (by simp)) ht
              have t1 : indexAddrA Tryz.prog 22 v (.int .i64 0) = some (.ptr (some lt)) := t1
              obtain ⟨g5, hc5, hk5⟩ := rlabel_ok hov17 hov16 hk14.wf t (hb t (List.mem_of_getElem? ht))
              have hk15 := hk14.trans hk5
              have hzt := hz2 t
              generalize hqt : labA t = qt at hc5 hzt
              obtain ⟨nt, et⟩ := qt
              repeat apply WP.seq
              apply WP.region; simp [hl, h0, h3, hp2, k1, k2, callA_eq, blt22, hc3]
              repeat apply WP.seq
              apply WP.region; simp [hl, h0, h3, hp3, a1, a2, callA_eq, blt23, hc4, extractA]
              repeat apply WP.seq
              apply WP.region; simp [hl]
              repeat apply WP.seq
              apply WP.region; simp [hl, h3]
              refine WP.mono (K := fun o e' g' => o = .normal ∧ e'.length = 75 ∧ nth e' 2 = .ptr (some ⟨h.next, 0⟩) ∧ nth e' 3 = .int .i64 ls.length ∧ nth e' 4 = .str (low k) ∧ nth e' 5 = .str na ∧ nth e' 6 = .int .i64 ea ∧ nth e' 7 = .str (if ls.length = 4 then nt else []) ∧ nth e' 8 = .int .i64 (if ls.length = 4 then et else 0) ∧ Keep [] g0 g') ?_ ?_
              · by_cases c4 : ls.length = 4
                · have c4' : ((ls.length : Int) == 4) = true := by rw [c4]; rfl
                  apply WP.cond (by simp [hl]; rfl)
                  · intro _
                    repeat apply WP.seq
                    apply WP.region; simp [hl, h0, t1, t2, callA_eq, blt23, hc5, extractA]
                    exact ⟨h2, h3, by simp [c4], by simp [c4], hk15⟩
                  · intro hf; rw [c4'] at hf; cases hf
                · have c4' : ((ls.length : Int) == 4) = false := by simpa using fun hh => c4 (by omega)
                  apply WP.cond (by simp [hl]; rfl)
                  · intro hf; rw [c4'] at hf; cases hf
                  · intro _
                    apply WP.skip; simp [hl]
                    exact ⟨h2, h3, by simp [c4], by simp [c4], hk14⟩
              · rintro o e g6 ⟨rfl, hl, h2, h3, h4, h5, h6, h7, h8, hk6⟩
                show WP _ _ _ _ _ _
                repeat apply WP.seq
                refine WP.regionS (fun e' g' => e'.length = 75 ∧ g' = g6 ∧ nth e' 2 = .ptr (some ⟨h.next, 0⟩) ∧ nth e' 3 = .int .i64 ls.length ∧ nth e' 4 = .str (low k) ∧ nth e' 5 = .str na ∧ nth e' 7 = .str (if ls.length = 4 then nt else []) ∧ nth e' 59 = .bool (!decide (isLab a = true ∧ (ls.length = 4 → isLab t = true)))) ?_ ?_
                · by_cases c1 : ea = 0
                  · have l1 : isLab a = true := hza.1.1 c1
                    have c1' : (ea != 0) = false := by simpa using c1
                    by_cases c4 : ls.length = 4
                    · by_cases c2 : et = 0
                      · have l2 : isLab t = true := hzt.1.1 c2
                        have c2' : (et != 0) = false := by simpa using c2
                        simp [hl, h2, h3, h4, h5, h6, h7, h8, guardA, c1, c2, c4, l1, l2]
                      · have l2 : ¬ isLab t = true := fun hh => c2 (hzt.1.2 hh)
                        have c2' : (et != 0) = true := by simpa using c2
                        simp [hl, h2, h3, h4, h5, h6, h7, h8, guardA, c1, c2, c2', c4, l1, l2]
                    · simp [hl, h2, h3, h4, h5, h6, h7, h8, guardA, c1, c4, l1]
                  · have l1 : ¬ isLab a = true := fun hh => c1 (hza.1.2 hh)
                    have c1' : (ea != 0) = true := by simpa using c1
                    simp [hl, h2, h3, h4, h5, h6, h7, h8, guardA, c1, c1', l1]
                · rintro e g' ⟨hl, rfl, h2, h3, h4, h5, h7, h59⟩
                  apply WP.cond (by rw [ev_tmp]; exact h59)
                  · intro hbad
                    have hbad : ¬ (isLab a = true ∧ (ls.length = 4 → isLab t = true)) := by
                      simpa only [Bool.not_eq_true', decide_eq_false_iff_not] using hbad
                    rw [if_neg hbad] at hS
                    obtain ⟨f1, f2, f3⟩ := fin (K := rec3 3 [] []) hk6 ⟨_, _, _, rfl⟩
                    repeat apply WP.seq
                    apply WP.region; simp [hl, h2, b25_k, storeR_ptr f3]
                    apply WP.ret
                    simp [hl, h2, resultsA, resultA, single, f1, hS, f2]
                  · intro hgd
                    have hgd : isLab a = true ∧ (ls.length = 4 → isLab t = true) := by
                      simpa only [Bool.not_eq_false', decide_eq_true_eq] using hgd
                    rw [if_pos hgd] at hS
                    have hna : na = low a := hza.2 hgd.1
                    have hnt : (if ls.length = 4 then nt else []) = (if ls.length = 4 then low t else []) := by
                      split
                      · rename_i c4; exact hzt.2 (hgd.2 c4)
                      · rfl
                    rw [hnt] at h7
                    subst hna
                    generalize hQ : (if ls.length = 4 then low t else []) = Q at h7 hS
                    apply WP.skip; simp
                    repeat apply WP.seq
                    apply WP.region; simp [hl, h4, litS]
                    by_cases c1 : low k = sService
                    · rw [if_pos c1] at hS
                      obtain ⟨f1, f2, f3⟩ := fin (K := rec3 1 (low a) Q) hk6 ⟨_, _, _, rfl⟩
                      apply WP.cond (by simp [hl]; rfl)
                      · intro _
                        repeat apply WP.seq
                        apply WP.region; simp [hl, h2, h5, h7, b25_knt, storeR_ptr f3]
                        apply WP.ret
                        simp [hl, h2, resultsA, resultA, single, f1, hS, f2]
                      · intro hf; simp [c1] at hf
                    · rw [if_neg c1] at hS
                      apply WP.cond (by simp [hl]; rfl)
                      · intro hf; simp [c1] at hf
                      · intro _
                        apply WP.skip; simp
                        repeat apply WP.seq
                        refine WP.regionS (fun e' g2 => e'.length = 75 ∧ g2 = g' ∧ nth e' 2 = .ptr (some ⟨h.next, 0⟩) ∧ nth e' 5 = .str (low a) ∧ nth e' 71 = .bool (decide (low k = sNode ∧ ls.length = 3))) ?_ ?_
                        · by_cases c2 : low k = sNode
                          · simp [hl, h2, h3, h4, h5, guardA, litN, c2]
                            rw [Bool.eq_iff_iff]; simp; omega
                          · simp [hl, h2, h3, h4, h5, guardA, litN, c2]
                        · rintro e g2 ⟨hl, rfl, h2, h5, h71⟩
                          apply WP.cond (by rw [ev_tmp]; exact h71)
                          · intro hyes
                            have hyes : low k = sNode ∧ ls.length = 3 := by simpa using hyes
                            rw [if_pos hyes] at hS
                            obtain ⟨f1, f2, f3⟩ := fin (K := rec3 2 (low a) []) hk6 ⟨_, _, _, rfl⟩
                            repeat apply WP.seq
                            apply WP.region; simp [hl, h2, h5, b25_kn, storeR_ptr f3]
                            apply WP.ret
                            simp [hl, h2, resultsA, resultA, single, f1, hS, f2]
                          · intro hno
                            have hno : ¬ (low k = sNode ∧ ls.length = 3) := by
                              simpa only [decide_eq_false_iff_not] using hno
                            rw [if_neg hno] at hS
                            obtain ⟨f1, f2, f3⟩ := fin (K := rec3 3 [] []) hk6 ⟨_, _, _, rfl⟩
                            apply WP.skip; simp
                            repeat apply WP.seq
                            apply WP.region; simp [hl, h2, b25_k, storeR_ptr f3]
                            apply WP.ret
                            simp [hl, h2, resultsA, resultA, single, f1, hS, f2]
  obtain ⟨_, g, h1, rfl, h2⟩ := main
  exact ⟨g, h1, h2⟩
/-- The law. -/
theorem looks_law (h5 : ∀ h, h.get 1 = some kindsO → ov 6 [] h = some (.ret (.bool true) h)) (hno : ∀ f, f ≠ 6 → ∀ a h, ov f a h = none) {h : Heap} (hw : Wf h) (hk0 : h.get 1 = some kindsO)
    {v : AV} {ls : List Str} (hs : Sl h v (strsA ls)) (hn : ls.length * 16 ≤ 140737488355328) (hb : ∀ s ∈ ls, s.length ≤ 140737488355328) : ∃ h', callT ov Tryz.prog 3 [v] h = some (.ret (.bool true) h') := by
  have main : ∃ u g, callT ov Tryz.prog 3 [v] h = some (.ret u g) ∧ u = .bool true := by
    refine callT_wp (fn := Tryz.f3) (hno 3 (by decide) _ _) (by kernel_rfl) rfl ?_
    have hl : (frameA Tryz.f3 [v]).length = 20 := frameA_length (Nat.le_of_ble_eq_true rfl)
    have h0 : nth (frameA Tryz.f3 [v]) 0 = v := frameA_nth (Nat.le_of_ble_eq_true rfl)
    generalize frameA Tryz.f3 [v] = e at hl h0
    have c5 : callT ov Tryz.prog 6 [] h = some (.ret (.bool true) h) := callT_ov _ _ (h5 h hk0)
    obtain ⟨v1, g1, ha, hs1, hk1⟩ := Sl.clone (P := Tryz.prog) hw (k := .own (some 9)) u22 sz9 hs strsA_ok (fun _ => room9 (by simpa [strsA] using hn))
    have ha' := appA_of ha
    obtain ⟨g2, hc2, hk2⟩ := look_ok (hno 7 (by decide)) (hno 21 (by decide)) (hno 51 (by decide)) (hno 20 (by decide)) hk1.wf hs1 hn hb
    have hs2 : Sl g2 v (strsA ls) := (hs.keep hk1 (by simp)).keep hk2 (by simp)
    obtain ⟨g3, hc3, hk3⟩ := rlook_ok (hno 8 (by decide)) (hno 23 (by decide)) (hno 22 (by decide)) hk2.wf hs2 hn hb
    obtain ⟨k, a, b, hC, q0, q9, qa, qb⟩ := lookC_bound hb
    rw [hC] at hc2 hc3
    have heq : ∀ g : Heap, binA Tryz.prog g .eql 25 (.tmp 16) (.tmp 18) (.agg (rec3 k a b)) (.agg (rec3 k a b)) = some (.bool true) := fun g => eq25 _ q0 q9 qa qb
    apply WP.seq; apply WP.region; simp [hl]
    repeat apply WP.seq
    apply WP.region; simp [hl, c5, callA_eq, blt6]
    apply WP.cond (by simp [hl]; rfl)
    · intro hf; cases hf
    · intro _
      apply WP.skip; simp
      repeat apply WP.seq
      apply WP.region; simp [hl, h0, callA_eq, blt7, blt8, build22_0, ha', hc2, hc3, heq]
      apply WP.ret
      simp [hl, resultsA, resultA, single]
  obtain ⟨_, g, h1, rfl⟩ := main
  exact ⟨g, h1⟩
end
end Go.Am
