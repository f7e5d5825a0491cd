/- A part of the proof by the abstract machine: SNext. -/
import Derived.Test.YtehccakjdbapiaaAmSChoose
set_option linter.unusedSimpArgs false
namespace Go.Am
open Go.RowKit Go.Proofs

/-- The places of those that are ready. -/
def whoFrom : List Bool → Nat → List Nat
  | [], _ => []
  | b :: bs, i => if b then i :: whoFrom bs (i + 1) else whoFrom bs (i + 1)
theorem whoFrom_snoc : ∀ (l : List Bool) (b : Bool) (i : Nat), whoFrom (l ++ [b]) i = whoFrom l i ++ (if b then [i + l.length] else [])
  | [], b, i => by cases b <;> simp [whoFrom]
  | a :: l, b, i => by
    simp only [List.cons_append, whoFrom, whoFrom_snoc l b (i + 1), List.length_cons]
    have h : i + 1 + l.length = i + (l.length + 1) := by omega
    rw [h]
    cases a <;> simp
theorem whoFrom_mem : ∀ (l : List Bool) (i a : Nat), a ∈ whoFrom l i → i ≤ a ∧ a < i + l.length ∧ l[a - i]? = some true
  | [], i, a, h => by simp [whoFrom] at h
  | b :: l, i, a, h => by
    simp only [whoFrom] at h
    have tail : a ∈ whoFrom l (i + 1) → i ≤ a ∧ a < i + (b :: l).length ∧ (b :: l)[a - i]? = some true := by
      intro hm
      have := whoFrom_mem l (i + 1) a hm
      refine ⟨by omega, by simp only [List.length_cons]; omega, ?_⟩
      rw [show a - i = (a - (i + 1)) + 1 from by omega, List.getElem?_cons_succ]
      exact this.2.2
    cases b with
    | false => exact tail (by simpa using h)
    | true =>
      simp only [if_true, List.mem_cons] at h
      rcases h with rfl | h
      · simp
      · exact tail h
theorem whoFrom_length : ∀ (l : List Bool) (i : Nat), (whoFrom l i).length ≤ l.length
  | [], i => by simp [whoFrom]
  | b :: l, i => by
    have := whoFrom_length l (i + 1)
    cases b <;> simp [whoFrom] <;> omega

def agesFor (ages : List Int) (n : Nat) : List Int := ages.take n ++ List.replicate (n - ages.length) 0
theorem agesFor_length (ages : List Int) (n : Nat) : (agesFor ages n).length = n := by simp [agesFor]; omega

/-- An actor's age behind a call. -/
def aged (ready : List Bool) (chosen : Int) (a0 : List Int) (i : Nat) : Int := if ready.getD i false = true ∧ (i : Int) ≠ chosen then at0 a0 i + 1 else 0
def mix (ready : List Bool) (chosen : Int) (a0 : List Int) (k n : Nat) : List Int := (List.range n).map fun j => if j < k then aged ready chosen a0 j else at0 a0 j
def newAges (ready : List Bool) (chosen : Int) (a0 : List Int) : List Int := (List.range ready.length).map fun j => aged ready chosen a0 j
theorem mix_zero (ready : List Bool) (chosen : Int) (a0 : List Int) : mix ready chosen a0 0 a0.length = a0 := by
  apply List.ext_getElem?
  intro i
  by_cases hi : i < a0.length
  · simp [mix, hi, at0]
  · simp [mix, hi]
theorem mix_all (ready : List Bool) (chosen : Int) (a0 : List Int) : mix ready chosen a0 ready.length ready.length = newAges ready chosen a0 := by
  apply List.map_congr_left
  intro i hi
  simp only [List.mem_range] at hi
  simp [hi]
theorem mix_length (ready : List Bool) (chosen : Int) (a0 : List Int) (k n : Nat) : (mix ready chosen a0 k n).length = n := by simp [mix]
theorem mix_at (ready : List Bool) (chosen : Int) (a0 : List Int) {k n : Nat} (h : k < n) : (mix ready chosen a0 k n)[k]? = some (at0 a0 k) := by simp [mix, h]
theorem mix_set (ready : List Bool) (chosen : Int) (a0 : List Int) {k n : Nat} (h : k < n) : (mix ready chosen a0 k n).set k (aged ready chosen a0 k) = mix ready chosen a0 (k + 1) n := by
  apply List.ext_getElem?
  intro i
  rw [List.getElem?_set]
  by_cases hi : i < n
  · by_cases hk : k = i
    · subst hk; simp [mix, h]
    · have : (i < k) = (i < k + 1) := by apply propext; omega
      simp [mix, hi, hk, this]
  · have hk : k ≠ i := by omega
    simp [mix, hi, hk]
theorem ints_set (xs : List Int) (i : Nat) (x : Int) : (ints xs).set i (.int .i64 x) = ints (xs.set i x) := by simp [ints, List.map_set]

theorem build22_i {h : Heap} {k : IntKind} {n : Int} : buildSliceA Try.prog h 22 1 [(0, .int k n)] = some (.slice (some ⟨h.next, 0⟩) 1 (.exact 1), h.alloc (.cells [.int k n] .own)) := build22_1 rfl

structure NextR where
  chosen : Int
  picks : List Int
  ages : List Int
  last : Int
def nextP (picks : List Int) (bound : Int) (ages : List Int) (last : Int) (ready : List Bool) : NextR :=
  let who := whoFrom ready 0
  let a0 := agesFor ages ready.length
  if who = [] then ⟨-1, picks, newAges ready (-1) a0, last⟩
  else
    let c := chooseP picks bound a0 last who
    ⟨(who.getD c.1.toNat 0 : Nat), c.2, newAges ready (who.getD c.1.toNat 0 : Nat) a0, (who.getD c.1.toNat 0 : Nat)⟩

theorem nextP_ages (picks : List Int) (bound : Int) (ages : List Int) (last : Int) (ready : List Bool) : (nextP picks bound ages last ready).ages = newAges ready (nextP picks bound ages last ready).chosen (agesFor ages ready.length) := by
  unfold nextP
  simp only []
  split <;> rfl
theorem agesFor_ok {ages : List Int} {M : Int} (hM : 0 < M) (h : ∀ a ∈ ages, 0 ≤ a ∧ a < M) (n : Nat) : ∀ a ∈ agesFor ages n, 0 ≤ a ∧ a < M := by
  intro a ha
  simp only [agesFor, List.mem_append, List.mem_replicate] at ha
  rcases ha with ha | ⟨_, rfl⟩
  · exact h a (List.mem_of_mem_take ha)
  · omega
theorem at0_ok {xs : List Int} {M : Int} (hM : 0 < M) (h : ∀ a ∈ xs, 0 ≤ a ∧ a < M) (i : Nat) : 0 ≤ at0 xs i ∧ at0 xs i < M := by
  by_cases hi : i < xs.length
  · exact h _ (List.mem_of_getElem? (at0_get hi))
  · simp [at0, hi, hM]
theorem copy_ints (ages : List Int) (n : Nat) : (ints ages).take (List.replicate n (AV.int .i64 0)).length ++ (List.replicate n (AV.int .i64 0)).drop (ints ages).length = ints (agesFor ages n) := by
  simp [ints, agesFor, List.map_take]

/-- A chooser behind a call of Next: its picks' block is the one that it was, its ages' block is new. -/
def ChNext (h h' : Heap) (C : Nat) (pv : AV) (picks : List Int) (bound : Int) (N : NextR) : Prop :=
  ∃ pv' av', ChAt h' C pv' av' N.picks bound N.ages N.last ∧ (N.picks ≠ [] → picks ≠ [] ∧ idOf pv' = idOf pv) ∧ (∀ i, idOf av' = some i → h.next ≤ i)

section
variable {ov : CallF}

set_option maxHeartbeats 4000000 in
theorem next_ok' (o14 : ∀ a h, ov 14 a h = none) (o27 : ∀ a h, ov 27 a h = none) (o28 : ∀ a h, ov 28 a h = none) (o29 : ∀ a h, ov 29 a h = none) (o30 : ∀ a h, ov 30 a h = none) {h : Heap} (hw : Wf h) {C : Nat} {picks ages : List Int} {bound last : Int} {pv av : AV} (hCh : ChAt h C pv av picks bound ages last)
    {v : AV} {ready : List Bool} (hs : Sl h v (bools ready)) (hv : idOf v ≠ some C) (hn : ready.length ≤ 1000000000) (hages : ∀ a ∈ ages, 0 ≤ a ∧ a < 4611686018427387904) :
    ∃ h', callT ov Try.prog 14 [.ptr (some ⟨C, 0⟩), v] h = some (.ret (.tuple [.int .i64 (max (nextP picks bound ages last ready).chosen 0), .bool (decide (0 ≤ (nextP picks bound ages last ready).chosen))]) h') ∧
      ChNext h h' C pv picks bound (nextP picks bound ages last ready) ∧ Keep [C] h h' := by
  have main : ∃ u h', callT ov Try.prog 14 [.ptr (some ⟨C, 0⟩), v] h = some (.ret u h') ∧ u = .tuple [.int .i64 (max (nextP picks bound ages last ready).chosen 0), .bool (decide (0 ≤ (nextP picks bound ages last ready).chosen))] ∧
      ChNext h h' C pv picks bound (nextP picks bound ages last ready) ∧ Keep [C] h h' := by
    refine callT_wp (fn := Try.f14) (o14 _ _) (by kernel_rfl) rfl ?_
    have hl : (frameA Try.f14 [.ptr (some ⟨C, 0⟩), v]).length = 85 := frameA_length (Nat.le_of_ble_eq_true rfl)
    have h0 : nth (frameA Try.f14 [.ptr (some ⟨C, 0⟩), v]) 0 = .ptr (some ⟨C, 0⟩) := frameA_nth (Nat.le_of_ble_eq_true rfl)
    have h1 : nth (frameA Try.f14 [.ptr (some ⟨C, 0⟩), v]) 1 = v := frameA_nth (Nat.le_of_ble_eq_true rfl)
    generalize frameA Try.f14 [.ptr (some ⟨C, 0⟩), v] = e at hl h0 h1
    have hca27 : ∀ args h, callA (callT ov Try.prog) Try.prog h 27 args = callT ov Try.prog 27 args h := fun args h => callA_of (fn := Try.f27) (by kernel_rfl) rfl
    have hlen : ∀ h, lenA Try.prog h 31 v = some (.int .i64 (ready.length : Nat)) := by
      intro h; obtain ⟨l, c, rfl⟩ := hs.slice; simpa using lenA_slice (P := Try.prog) u31
    repeat apply WP.seq
    apply WP.region; simp [hl]
    repeat apply WP.seq
    apply WP.region; simp [hl]
    repeat apply WP.seq
    apply WP.region; simp [hl, h1, hlen]
    repeat apply WP.seq
    apply WP.block
    refine WP.loop (fun n e g => e.length = 85 ∧ nth e 0 = .ptr (some ⟨C, 0⟩) ∧ nth e 1 = v ∧ nth e 12 = v ∧ nth e 13 = .int .i64 ready.length ∧ Keep [] h g ∧ ∃ i, i ≤ ready.length ∧ n = ready.length - i ∧ nth e 14 = .int .i64 (i : Nat) ∧ Acc h.next g (nth e 6) (nats (whoFrom (ready.take i) 0))) ?_ ready.length _ _ ?_
    · rintro n e g ⟨hl, h0, h1, h12, h13, hk, i, hi, rfl, h14, hacc⟩
      repeat apply WP.seq
      apply WP.region; simp [hl, h13, h14]
      repeat apply WP.seq
      apply WP.cond (by simp [hl]; rfl)
      · intro hlt1
        have hlt1 : i < ready.length := by simpa using hlt1
        apply WP.skip; simp
        repeat apply WP.seq
        apply WP.block
        repeat apply WP.seq
        obtain ⟨b, hwb⟩ : ∃ b, ready[i]? = some b := ⟨ready[i], by simp [hlt1]⟩
        have hsg := hs.keep hk (by simp)
        obtain ⟨l1, hl1, hl1', _⟩ := hsg.at u31 s4 a4 (bools_get hwb) (k := .i64)
        have htake : ready.take (i + 1) = ready.take i ++ [b] := by
          rw [List.take_add_one, hwb]; rfl
        have hwt : whoFrom (ready.take (i + 1)) 0 = whoFrom (ready.take i) 0 ++ (if b then [i] else []) := by
          rw [htake, whoFrom_snoc]
          simp only [List.length_take, Nat.zero_add, Nat.min_eq_left hi]
        apply WP.region; simp [hl, h12, h14, hl1, hl1']
        repeat apply WP.seq
        apply WP.region; simp [hl]
        repeat apply WP.seq
        apply WP.cond (by simp [hl]; rfl)
        · intro hb
          subst hb
          simp only [if_true] at hwt
          have hg1 := hk.alloc (.cells [.int .i64 (i : Int)] .own)
          have hacc1 := hacc.keep ((Keep.refl (ex := []) hk.wf).alloc (.cells [.int .i64 (i : Int)] .own)) (by simp)
          have hy : Sl (g.alloc (.cells [.int .i64 (i : Int)] .own)) (.slice (some ⟨g.next, 0⟩) 1 (.exact 1)) [.int .i64 (i : Int)] :=
            ⟨⟨rfl, Nat.le_refl 1⟩, .inr ⟨_, _, Heap.get_alloc _ _, by simp, rfl⟩⟩
          have hwl := whoFrom_length (ready.take i) 0
          simp only [List.length_take] at hwl
          obtain ⟨v', g', hap, hacc', hk', hnx⟩ := Acc.push (P := Try.prog) hacc1 hg1 (Nat.le_refl _) (by rw [Heap.next_alloc]; have := hk.le; omega) u22 s3 (room3 (by simp; omega)) hy rfl
          apply WP.region; simp [hl, build22_i, hap]
          apply WP.region; simp [hl, h14, int_wrap (show i < 9223372036854775807 by omega)]
          refine ⟨ready.length - (i + 1), by omega, h0, h1, h12, h13, hk', i + 1, by omega, rfl, by simp, ?_⟩
          rw [hwt]
          simpa [nats, ints] using hacc'
        · intro hb
          subst hb
          apply WP.skip; simp
          apply WP.region; simp [hl, h14, int_wrap (show i < 9223372036854775807 by omega)]
          refine ⟨ready.length - (i + 1), by omega, h0, h1, h12, h13, hk, i + 1, by omega, rfl, by simp, ?_⟩
          rw [hwt]
          simpa [nats, ints] using hacc
      · intro hge
        have hge : ¬ i < ready.length := by simpa using hge
        have hi' : i = ready.length := by omega
        subst hi'
        apply WP.exit
        simp
        rw [List.take_length] at hacc
        have hwn := whoFrom_length ready 0
        have hsg := hs.keep hk (by simp)
        have hCg := hCh.keep hk (by simp) (by simp) (by simp)
        generalize hwv : nth e 6 = wv at hacc
        have hCn := hw _ _ hCh.1
        have hAn := hk.le
        have hsl := hacc.sl
        have hidw : ∀ i, idOf wv = some i → i ∉ [C] := by
          intro i hi hm
          have := hacc.id hi
          simp only [List.mem_singleton] at hm
          omega
        -- the new ages
        have hkg : Keep [] g (g.alloc (.cells (List.replicate ready.length (.int .i64 0)) .own)) := (Keep.refl hk.wf).alloc _
        have hg2 : (g.alloc (.cells (List.replicate ready.length (.int .i64 0)) .own)).get g.next = some (.cells (List.replicate ready.length (.int .i64 0)) .own) := Heap.get_alloc _ _
        have hmk : makeSliceA Try.prog g 22 (.int .i64 (ready.length : Nat)) (.int .i64 (ready.length : Nat)) = _ := make22 hn
        have hn2 : (g.alloc (.cells (List.replicate ready.length (.int .i64 0)) .own)).next = g.next + 1 := rfl
        generalize g.alloc (.cells (List.replicate ready.length (.int .i64 0)) .own) = g2 at hkg hg2 hn2 hmk
        have hown2 : Own g2 (.slice (some ⟨g.next, 0⟩) ready.length (.exact ready.length)) g.next (List.replicate ready.length (.int .i64 0)) :=
          ⟨.exact ready.length, ⟨by simp, by simp [capOk]⟩, hg2⟩
        have hc1 : cellsA (.slice (some ⟨g.next, 0⟩) ready.length (.exact ready.length)) = some [.slice (some ⟨g.next, 0⟩) ready.length (.exact ready.length)] := rfl
        have hc2 : cellOk (.slice (some ⟨g.next, 0⟩) ready.length (.exact ready.length)) = true := rfl
        have hAC : g.next ≠ C := by omega
        have hAg : g.next < g2.next := by omega
        have hAg' : g.next ≤ g.next := Nat.le_refl _
        generalize hA : g.next = A at hown2 hmk hc1 hc2 hAC hAg
        rw [hA] at hAg'
        generalize AV.slice (some ⟨A, 0⟩) ready.length (.exact ready.length) = ns at hown2 hmk hc1 hc2
        have hCg2 := hCg.keep hkg (by simp) (by simp) (by simp)
        have hld2 : loadA Try.prog g2 22 ⟨C, 2⟩ = some av := load_cell a22 hCg2.1 rfl
        obtain ⟨g3, hcopy, hown3, hor⟩ := copy_own (P := Try.prog) hown2 hCg2.2.2.1 ints_ok u22 s3
        rw [copy_ints] at hown3 hor
        have hk3 : Keep [] g g3 := by
          rcases hor with rfl | rfl
          · exact hkg
          · exact hkg.set _ hAg (.inr (by omega))
        clear hor
        have hCg3 := hCg.keep hk3 (by simp) (by simp) (by simp)
        have hst3 := store_cell (P := Try.prog) s22 hc1 hc2 hCg3.1 (by simp) (o := 2) (by simp)
        simp only [List.set_cons_succ, List.set_cons_zero] at hst3
        have hk4 : Keep [C] g (g3.set C (.cells [pv, .int .i64 bound, ns, .int .i64 last] .own)) := (hk3.more (by simp)).set _ (hk3.wf _ _ hCg3.1) (.inl (by simp))
        have hk34 : Keep [C] g3 (g3.set C (.cells [pv, .int .i64 bound, ns, .int .i64 last] .own)) := (Keep.refl hk3.wf).set _ (hk3.wf _ _ hCg3.1) (.inl (by simp))
        have hown4 := hown3.keep hk34 (by simp [hAC])
        have hpv4 : ∀ i, idOf pv = some i → i ∉ [C] := by
          intro i hi hm
          simp only [List.mem_singleton] at hm
          exact hCh.2.2.2.1 (by rw [hi, hm])
        have hidn : idOf ns ≠ some C := by rw [hown4.id]; simp [hAC]
        have hC4 : ChAt (g3.set C (.cells [pv, .int .i64 bound, ns, .int .i64 last] .own)) C pv ns picks bound (agesFor ages ready.length) last :=
          ⟨Heap.get_set _ _ _, hCg3.2.1.keep hk34 hpv4, hown4.sl, hCh.2.2.2.1, hidn⟩
        generalize g3.set C (.cells [pv, .int .i64 bound, ns, .int .i64 last] .own) = g4 at hst3 hk4 hown4 hC4
        have hsl4 := hsl.keep hk4 hidw
        have hlenw : lenA Try.prog g4 22 wv = some (.int .i64 (whoFrom ready 0).length) := by simpa using hsl4.len (P := Try.prog) u22
        repeat apply WP.seq
        apply WP.region; simp [hl, h1, hlen, hmk]
        repeat apply WP.seq
        apply WP.region; simp [hl, h0, fa62, hld2, hcopy]
        repeat apply WP.seq
        apply WP.region; simp [hl, h0, fa62, storeR_ptr hst3]
        repeat apply WP.seq
        apply WP.region; simp [hl]
        repeat apply WP.seq
        apply WP.region; simp [hl, hwv, hlenw]
        generalize hN : nextP picks bound ages last ready = N
        refine WP.mono (K := fun o e g' => o = .normal ∧ e.length = 85 ∧ nth e 0 = .ptr (some ⟨C, 0⟩) ∧ nth e 1 = v ∧ nth e 10 = .int .i64 N.chosen ∧ Keep [C] g g' ∧ Own g' ns A (ints (agesFor ages ready.length)) ∧ ∃ pv', ChAt g' C pv' ns N.picks bound (agesFor ages ready.length) N.last ∧ (N.picks ≠ [] → picks ≠ [] ∧ idOf pv' = idOf pv)) ?_ ?_
        · apply WP.cond (by simp [hl]; rfl)
          · intro hpos
            have hpos : 0 < (whoFrom ready 0).length := by simpa using hpos
            have hne : whoFrom ready 0 ≠ [] := List.length_pos_iff.1 hpos
            obtain ⟨g5, pv5, hcall, hC5, hpvq, hk5⟩ := choose_ok o27 o28 o29 o30 hk4.wf hC4 hsl4 (by omega) hne (by
              intro a ha
              rw [agesFor_length]
              have := whoFrom_mem _ _ _ ha
              omega)
            have hr := chooseP_range (picks := picks) (bound := bound) (ages := agesFor ages ready.length) (last := last) hne
            have hN' : N = ⟨((whoFrom ready 0).getD (chooseP picks bound (agesFor ages ready.length) last (whoFrom ready 0)).1.toNat 0 : Nat), (chooseP picks bound (agesFor ages ready.length) last (whoFrom ready 0)).2, newAges ready ((whoFrom ready 0).getD (chooseP picks bound (agesFor ages ready.length) last (whoFrom ready 0)).1.toNat 0 : Nat) (agesFor ages ready.length), ((whoFrom ready 0).getD (chooseP picks bound (agesFor ages ready.length) last (whoFrom ready 0)).1.toNat 0 : Nat)⟩ := by
              rw [← hN]; simp only [nextP, if_neg hne]
            generalize chooseP picks bound (agesFor ages ready.length) last (whoFrom ready 0) = cc at hcall hC5 hpvq hr hN'
            obtain ⟨pl, ps⟩ := cc
            simp only at hcall hC5 hpvq hr hN'
            obtain ⟨n, rfl⟩ := Int.eq_ofNat_of_zero_le hr.1
            have hnl : n < (whoFrom ready 0).length := by omega
            obtain ⟨x, hx⟩ : ∃ x, (whoFrom ready 0)[n]? = some x := ⟨(whoFrom ready 0)[n], by simp [hnl]⟩
            have hgd : (whoFrom ready 0).getD n 0 = x := by simp [List.getD_eq_getElem?_getD, hx]
            rw [Int.toNat_natCast, hgd] at hN'
            have hsl5 := hsl4.keep hk5 hidw
            obtain ⟨l1, hl1, hl1', _⟩ := hsl5.at u22 s3 a3 (nats_get hx) (k := .i64)
            have hown5 := hown4.keep hk5 (by simp [hAC])
            have hst := store_cell (P := Try.prog) s3 (v := .int .i64 (x : Int)) rfl rfl hC5.1 (by simp) (o := 3) (by simp)
            simp only [List.set_cons_succ, List.set_cons_zero] at hst
            have hk6 : Keep [C] g5 (g5.set C (.cells [pv5, .int .i64 bound, ns, .int .i64 (x : Int)] .own)) := (Keep.refl hk5.wf).set _ (hk5.wf _ _ hC5.1) (.inl (by simp))
            have hpv5 : ∀ i, idOf pv5 = some i → i ∉ [C] := by
              intro i hi hm
              simp only [List.mem_singleton] at hm
              exact hC5.2.2.2.1 (by rw [hi, hm])
            have hown6 := hown5.keep hk6 (by simp [hAC])
            have hC6 : ChAt (g5.set C (.cells [pv5, .int .i64 bound, ns, .int .i64 (x : Int)] .own)) C pv5 ns ps bound (agesFor ages ready.length) (x : Int) :=
              ⟨Heap.get_set _ _ _, hC5.2.1.keep hk6 hpv5, hown6.sl, hC5.2.2.2.1, hidn⟩
            subst hN'
            repeat apply WP.seq
            apply WP.region; simp [hl, h0, hwv, hca27, hcall, hl1, hl1']
            apply WP.region; simp [hl, h0, fa62, storeR_ptr hst]
            exact ⟨h1, (hk4.trans hk5).trans hk6, hown6, pv5, hC6, hpvq⟩
          · intro hz
            have hz : (whoFrom ready 0).length = 0 := by simpa using hz
            have hz' : whoFrom ready 0 = [] := List.length_eq_zero_iff.1 hz
            have hN' : N = ⟨-1, picks, newAges ready (-1) (agesFor ages ready.length), last⟩ := by
              rw [← hN]; simp [nextP, hz']
            subst hN'
            apply WP.skip
            refine ⟨rfl, by simp [hl], by simp [h0], by simp [h1], by simp [hl], hk4, hown4, pv, hC4, fun h => ⟨h, rfl⟩⟩
        · rintro _ e g5 ⟨rfl, hl, h0, h1, h10, hk5, hown5, pv5, hC5, hpq5⟩
          have hpv5 : N.picks ≠ [] → ∀ j, idOf pv5 = some j → j ≠ A := by
            intro hne' j hj
            obtain ⟨hq1, hq2⟩ := hpq5 hne'
            have := hCg.2.1.lt hk.wf (by simpa [ints] using hq1) (by rw [← hq2]; exact hj)
            omega
          have hida : ∀ i, idOf ns = some i → h.next ≤ i := by
            intro i hi
            rw [hown5.id] at hi
            cases hi
            have := hk.le
            omega
          have hNa : N.ages = newAges ready N.chosen (agesFor ages ready.length) := by rw [← hN]; exact nextP_ages _ _ _ _ _
          have hal := agesFor_length ages ready.length
          have haok := agesFor_ok (by decide) hages ready.length
          generalize agesFor ages ready.length = a0 at hown5 hC5 hNa hal haok
          simp
          repeat apply WP.seq
          apply WP.region; simp [hl, h1, hlen]
          repeat apply WP.seq
          apply WP.block
          refine WP.loop (fun n e g' => e.length = 85 ∧ nth e 0 = .ptr (some ⟨C, 0⟩) ∧ nth e 1 = v ∧ nth e 10 = .int .i64 N.chosen ∧ nth e 52 = .int .i64 ready.length ∧ Keep [C] g g' ∧ ∃ i, i ≤ ready.length ∧ n = ready.length - i ∧ nth e 53 = .int .i64 (i : Nat) ∧
            Own g' ns A (ints (mix ready N.chosen a0 i ready.length)) ∧ ChAt g' C pv5 ns N.picks bound (mix ready N.chosen a0 i ready.length) N.last) ?_ ready.length _ _ ?_
          · rintro n e g6 ⟨hl, h0, h1, h10, h52, hk6, i, hi, rfl, h53, hown6, hC6⟩
            repeat apply WP.seq
            apply WP.region; simp [hl, h52, h53]
            repeat apply WP.seq
            apply WP.cond (by simp [hl]; rfl)
            · intro hlt1
              have hlt1 : i < ready.length := by simpa using hlt1
              apply WP.skip; simp
              repeat apply WP.seq
              apply WP.block
              repeat apply WP.seq
              obtain ⟨b, hwb⟩ : ∃ b, ready[i]? = some b := ⟨ready[i], by simp [hlt1]⟩
              have hsg := (hs.keep hk (by simp)).keep hk6 (by intro i hi hm; simp only [List.mem_singleton] at hm; exact hv (by rw [hi, hm]))
              obtain ⟨l1, hl1, hl1', _⟩ := hsg.at u31 s4 a4 (bools_get hwb) (k := .i64)
              have hmx := mix_at ready N.chosen a0 hlt1
              have hml := mix_length ready N.chosen a0 i ready.length
              have hms := mix_set ready N.chosen a0 hlt1
              have hgd : ready.getD i false = b := by simp [List.getD_eq_getElem?_getD, hwb]
              have ha0 := at0_ok (by decide) haok i
              have haddr := hown6.addr (P := Try.prog) u22 s3 (i := i) (by simp [hml, hlt1]) (k := .i64)
              have hload := hown6.load (P := Try.prog) a3 (ints_get hmx)
              have hldC := load_cell (P := Try.prog) a22 hC6.1 (o := 2) (v := ns) rfl
              have fin : ∀ x : Int, x = aged ready N.chosen a0 i → ∃ g7, storeA Try.prog g6 3 ⟨A, i⟩ (.int .i64 x) = some g7 ∧ Keep [C] g g7 ∧ Own g7 ns A (ints (mix ready N.chosen a0 (i + 1) ready.length)) ∧ ChAt g7 C pv5 ns N.picks bound (mix ready N.chosen a0 (i + 1) ready.length) N.last := by
                rintro x rfl
                obtain ⟨hst, hown7⟩ := hown6.store (P := Try.prog) s3 (i := i) (by simp [hml, hlt1]) (x := .int .i64 (aged ready N.chosen a0 i)) rfl rfl
                rw [ints_set, hms] at hst hown7
                have hA6 : A < g6.next := hk6.wf _ _ hown6.choose_spec.2
                have hk7 : Keep [A] g6 (g6.set A (.cells (ints (mix ready N.chosen a0 (i + 1) ready.length)) .own)) := (Keep.refl hk6.wf).set _ hA6 (.inl (by simp))
                refine ⟨_, hst, hk6.set _ hA6 (.inr (by omega)), hown7, hk7.get _ _ hC6.1 (by simp; omega), hC6.2.1.keep' hk7 ?_, hown7.sl, hC6.2.2.2.1, hidn⟩
                intro hne' j hj hm
                simp only [List.mem_singleton] at hm
                exact hpv5 (by simpa [ints] using hne') j hj hm
              have hagd : aged ready N.chosen a0 i = if b = true ∧ (i : Int) ≠ N.chosen then at0 a0 i + 1 else 0 := by simp only [aged, hgd]
              apply WP.region; simp [hl, h53]
              repeat apply WP.seq
              apply WP.region
              cases b with
              | false =>
                obtain ⟨g7, hst, hk7, hown7, hC7⟩ := fin 0 (by rw [hagd]; simp)
                simp [hl, h1, h10, hl1, hl1', guardA]
                apply WP.cond (t := false) (by simp [hl]) (by simp)
                intro _
                apply WP.region; simp [hl, h0, fa62, hldC, haddr, storeR_ptr hst]
                apply WP.region; simp [hl, h53, int_wrap (show i < 9223372036854775807 by omega)]
                exact ⟨ready.length - (i + 1), by omega, h0, h1, h10, h52, hk7, i + 1, by omega, rfl, by simp, hown7, hC7⟩
              | true =>
                simp [hl, h1, h10, hl1, hl1', guardA]
                apply WP.cond (by simp [hl]; rfl)
                · intro hc
                  have hc : (i : Int) ≠ N.chosen := by simpa using hc
                  obtain ⟨g7, hst, hk7, hown7, hC7⟩ := fin (at0 a0 i + 1) (by rw [hagd]; simp [hc])
                  apply WP.region; simp [hl, h0, fa62, hldC, haddr, hload, wrap_small (show -9223372036854775808 ≤ at0 a0 i + 1 by omega) (by omega), storeR_ptr hst]
                  apply WP.region; simp [hl, h53, int_wrap (show i < 9223372036854775807 by omega)]
                  exact ⟨ready.length - (i + 1), by omega, h0, h1, h10, h52, hk7, i + 1, by omega, rfl, by simp, hown7, hC7⟩
                · intro hc
                  have hc : (i : Int) = N.chosen := by simpa using hc
                  obtain ⟨g7, hst, hk7, hown7, hC7⟩ := fin 0 (by rw [hagd]; simp [hc])
                  apply WP.region; simp [hl, h0, fa62, hldC, haddr, storeR_ptr hst]
                  apply WP.region; simp [hl, h53, int_wrap (show i < 9223372036854775807 by omega)]
                  exact ⟨ready.length - (i + 1), by omega, h0, h1, h10, h52, hk7, i + 1, by omega, rfl, by simp, hown7, hC7⟩
            · intro hge
              have hge : ¬ i < ready.length := by simpa using hge
              have hi' : i = ready.length := by omega
              subst hi'
              apply WP.exit
              simp
              rw [mix_all, ← hNa] at hC6
              have hmax : (if 0 > N.chosen then (0 : Int) else N.chosen) = max N.chosen 0 := by rw [Int.max_def]; split <;> split <;> omega
              repeat apply WP.seq
              apply WP.region; simp [hl, h10]
              apply WP.ret
              have hkf : Keep [C] h g6 := (hk.more (by simp)).trans hk6
              have hCf : ChNext h g6 C pv picks bound N := ⟨_, _, hC6, hpq5, hida⟩
              simp [hl, resultsA, resultA, single, hkf, hCf, hmax]
          · refine ⟨by simp [hl], by simp [h0], by simp [h1], by simp [h10], by simp [hl], hk5, 0, by omega, by omega, by simp [hl], ?_, ?_⟩
            · rw [← hal, mix_zero]; exact hown5
            · rw [← hal, mix_zero]; exact hC5
    · refine ⟨by simp [hl], by simp [h0], by simp [h1], by simp [hl], by simp [hl], Keep.refl hw, 0, by omega, by omega, by simp [hl], by simp [hl, whoFrom, nats, ints, Acc.nil]⟩
  obtain ⟨_, h', h1, rfl, h2⟩ := main
  exact ⟨h', h1, h2⟩

theorem next_ok (o14 : ∀ a h, ov 14 a h = none) (o27 : ∀ a h, ov 27 a h = none) (o28 : ∀ a h, ov 28 a h = none) (o29 : ∀ a h, ov 29 a h = none) (o30 : ∀ a h, ov 30 a h = none) {h : Heap} (hw : Wf h) {C : Nat} {picks ages : List Int} {bound last : Int} (hC : Ch h C picks bound ages last)
    {v : AV} {ready : List Bool} (hs : Sl h v (bools ready)) (hv : idOf v ≠ some C) (hn : ready.length ≤ 1000000000) (hages : ∀ a ∈ ages, 0 ≤ a ∧ a < 4611686018427387904) :
    ∃ h', callT ov Try.prog 14 [.ptr (some ⟨C, 0⟩), v] h = some (.ret (.tuple [.int .i64 (max (nextP picks bound ages last ready).chosen 0), .bool (decide (0 ≤ (nextP picks bound ages last ready).chosen))]) h') ∧
      Ch h' C (nextP picks bound ages last ready).picks bound (nextP picks bound ages last ready).ages (nextP picks bound ages last ready).last ∧ Keep [C] h h' := by
  obtain ⟨pv, av, hCh⟩ := hC
  obtain ⟨h', h1, ⟨pv', av', h2, _⟩, h3⟩ := next_ok' o14 o27 o28 o29 o30 hw hCh hs hv hn hages
  exact ⟨h', h1, ⟨pv', av', h2⟩, h3⟩
end
end Go.Am
