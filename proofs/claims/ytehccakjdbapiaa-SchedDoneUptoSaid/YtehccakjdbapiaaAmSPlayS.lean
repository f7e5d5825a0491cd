/- A part of the proof by the abstract machine: SPlayS. -/
import Derived.Test.YtehccakjdbapiaaAmSPlayR
set_option linter.unusedSimpArgs false
namespace Go.Am
open Go.RowKit Go.Proofs

def acts (Ws : List Nat) : List AV := Ws.map fun W => .iface 69 (.ptr (some ⟨W, 0⟩))
def wcells (L : Nat) (j : Int × Int) (i : Nat) (c : Int) : List AV := [.ptr (some ⟨L, 0⟩), .int .i64 j.1, .int .i64 j.2, .int .i64 (i : Int), .int .i64 c]
def WkAt (h : Heap) (L : Nat) (Ws : List Nat) (jobs : List (Int × Int)) (cnt : List Int) : Prop := ∀ i W j, Ws[i]? = some W → jobs[i]? = some j → h.get W = some (.cells (wcells L j i (at0 cnt i)) .own)
theorem WkAt.keep {ex : List Nat} {h0 h : Heap} (hk : Keep ex h0 h) {L : Nat} {Ws : List Nat} {jobs : List (Int × Int)} {cnt : List Int} (hW : WkAt h0 L Ws jobs cnt) (hx : ∀ W ∈ Ws, W ∉ ex) : WkAt h L Ws jobs cnt :=
  fun i W j hi hj => hk.get _ _ (hW i W j hi hj) (hx W (List.mem_of_getElem? hi))
theorem acts_get {Ws : List Nat} {i W : Nat} (h : Ws[i]? = some W) : (acts Ws)[i]? = some (.iface 69 (.ptr (some ⟨W, 0⟩))) := by simp [acts, h]
theorem mixB_set {new old : List Bool} {i : Nat} {b : Bool} (hl : new.length = old.length) (h : new[i]? = some b) : (new.take i ++ old.drop i).set i b = new.take (i + 1) ++ old.drop (i + 1) := by
  have hi := (List.getElem?_eq_some_iff.1 h).1
  rw [List.take_add_one, h, List.drop_eq_getElem_cons (by omega), List.set_append_right _ _ (by simp; omega)]
  simp only [List.length_take, Nat.min_eq_left (Nat.le_of_lt hi), Nat.sub_self, List.set_cons_zero, Option.toList, List.append_assoc, List.cons_append, List.nil_append]
theorem ChXs.fresh {ex ex' : List Nat} {h : Heap} (hw : Wf h) {C : Nat} {picks ages : List Int} {bound last : Int} (hC : ChXs ex h C picks bound ages last) (hA : ∀ A ∈ ex', h.next ≤ A) : ChXs (ex' ++ ex) h C picks bound ages last := by
  induction ex' with
  | nil => exact hC
  | cons A ex' ih => exact (ih (fun B hB => hA B (List.mem_cons_of_mem _ hB))).cons hw (hA A List.mem_cons_self)

section
variable {ov : CallF}

set_option maxHeartbeats 4000000 in
theorem run_ok (O : OvOk ov) (o24 : ∀ a h, ov 24 a h = none) (o46 : ∀ a h, ov 46 a h = none) (o47 : ∀ a h, ov 47 a h = none) {h : Heap} (hw : Wf h) {av : AV} {Ws : List Nat} {jobs : List (Int × Int)} (hlen : Ws.length = jobs.length) (hnd : ∀ i j W : Nat, Ws[i]? = some W → Ws[j]? = some W → i = j) (hjn : jobs.length ≤ 1000000)
    {L C : Nat} (hav : Sl h av (acts Ws)) (hLW : L ∉ Ws) (hCW : C ∉ Ws) (hCL : C ≠ L) (havx : Ws ≠ [] → ∀ j, idOf av = some j → j ∉ C :: L :: Ws) {m : AV} (hL : h.get L = some (.cells [.slice none 0 (.exact 0), m] .own)) {picks : List Int} {b : Int} (hWk : WkAt h L Ws jobs (List.replicate jobs.length 0))
    (hC : ChXs (L :: Ws) h C picks b [] (-1)) (hWn : ∀ W ∈ Ws, W < h.next) (steps : Int) (hst : steps ≤ 1000000) (hst' : -9223372036854775808 ≤ steps) :
    ∃ r h', callT ov Try.prog 24 [av, .ptr (some ⟨C, 0⟩), .int .i64 steps] h = some (.ret (.int .i64 r) h') ∧ ∃ dv', h'.get L = some (.cells [dv', m] .own) ∧ Acc h.next h' dv' (ints (playN jobs b steps.toNat (startP jobs picks)).out) ∧ Keep (C :: L :: Ws) h h' := by
  have main : ∃ u h', callT ov Try.prog 24 [av, .ptr (some ⟨C, 0⟩), .int .i64 steps] h = some (.ret u h') ∧ (∃ r, u = .int .i64 r) ∧ ∃ dv', h'.get L = some (.cells [dv', m] .own) ∧ Acc h.next h' dv' (ints (playN jobs b steps.toNat (startP jobs picks)).out) ∧ Keep (C :: L :: Ws) h h' := by
    refine callT_wp (fn := Try.f24) (o24 _ _) (by kernel_rfl) rfl ?_
    have hl : (frameA Try.f24 [av, .ptr (some ⟨C, 0⟩), .int .i64 steps]).length = 50 := frameA_length (Nat.le_of_ble_eq_true rfl)
    have h0 : nth (frameA Try.f24 [av, .ptr (some ⟨C, 0⟩), .int .i64 steps]) 0 = av := frameA_nth (Nat.le_of_ble_eq_true rfl)
    have h1 : nth (frameA Try.f24 [av, .ptr (some ⟨C, 0⟩), .int .i64 steps]) 1 = .ptr (some ⟨C, 0⟩) := frameA_nth (Nat.le_of_ble_eq_true rfl)
    have h2 : nth (frameA Try.f24 [av, .ptr (some ⟨C, 0⟩), .int .i64 steps]) 2 = .int .i64 steps := frameA_nth (Nat.le_of_ble_eq_true rfl)
    generalize frameA Try.f24 [av, .ptr (some ⟨C, 0⟩), .int .i64 steps] = e at hl h0 h1 h2
    have hca14 : ∀ args h, callA (callT ov Try.prog) Try.prog h 14 args = callT ov Try.prog 14 args h := fun args h => callA_of (fn := Try.f14) (by kernel_rfl) rfl
    have hca46 : ∀ args h, callA (callT ov Try.prog) Try.prog h 46 args = callT ov Try.prog 46 args h := fun args h => callA_of (fn := Try.f46) (by kernel_rfl) rfl
    have hca47 : ∀ args h, callA (callT ov Try.prog) Try.prog h 47 args = callT ov Try.prog 47 args h := fun args h => callA_of (fn := Try.f47) (by kernel_rfl) rfl
    have hacl : (acts Ws).length = jobs.length := by simp [acts, hlen]
    have hlena : ∀ h, lenA Try.prog h 54 av = some (.int .i64 (jobs.length : Nat)) := by
      intro h; obtain ⟨l, c, rfl⟩ := hav.slice; rw [hacl]; exact lenA_slice (P := Try.prog) u54
    have hLn := hw _ _ hL
    have hCn := hC.ch.lt hw
    repeat apply WP.seq
    apply WP.region; simp [hl]
    repeat apply WP.seq
    have hmk : makeSliceA Try.prog h 31 (.int .i64 (jobs.length : Nat)) (.int .i64 (jobs.length : Nat)) = _ := make31 (by omega)
    have hk1 := (Keep.refl (ex := []) hw).alloc (.cells (List.replicate jobs.length (.bool false)) .own)
    have hg1 := Heap.get_alloc h (.cells (List.replicate jobs.length (.bool false)) .own)
    have hCX1 := (hC.cons hw (Nat.le_refl h.next)).keep0 hk1
    generalize h.alloc (.cells (List.replicate jobs.length (.bool false)) .own) = g1 at hmk hk1 hg1 hCX1
    have hown1 : Own g1 (.slice (some ⟨h.next, 0⟩) jobs.length (.exact jobs.length)) h.next (bools (List.replicate jobs.length false)) := ⟨.exact jobs.length, ⟨by simp, by simp [capOk]⟩, by rw [hg1]; simp [bools]⟩
    generalize AV.slice (some ⟨h.next, 0⟩) jobs.length (.exact jobs.length) = rv at hmk hown1
    have hRh : h.next ≤ h.next := Nat.le_refl _
    have hR1 := hk1.wf _ _ hg1
    have hlenr : ∀ g, lenA Try.prog g 31 rv = some (.int .i64 (jobs.length : Nat)) := by
      intro g; obtain ⟨l, c, rfl⟩ := hown1.sl.slice; simpa using lenA_slice (P := Try.prog) u31
    have hne : (⟨h.next, 0⟩ : Loc).id = h.next := rfl
    obtain ⟨R, hRd⟩ : ∃ R, R = h.next := ⟨_, rfl⟩
    rw [← hRd] at hown1 hR1 hCX1
    have hRh' : h.next ≤ R := by omega
    apply WP.region; simp [hl, h0, hlena, hmk]
    repeat apply WP.seq
    apply WP.region; simp [hl]
    generalize hF : (playN jobs b steps.toNat (startP jobs picks)).out = F
    have hgL1 := hk1.get _ _ hL (by simp)
    have hWk1 := hWk.keep hk1 (by simp)
    have hRC : R ≠ C ∧ R ≠ L ∧ R ∉ Ws := ⟨by omega, by omega, fun hm => by have := hWn R hm; omega⟩
    have hvx : ∀ W ∈ Ws, W ≠ L ∧ W ≠ C := fun W hW => ⟨fun h => hLW (h ▸ hW), fun h => hCW (h ▸ hW)⟩
    apply WP.block
    refine WP.loop (fun k e g' => e.length = 50 ∧ nth e 0 = av ∧ nth e 1 = .ptr (some ⟨C, 0⟩) ∧ nth e 2 = .int .i64 steps ∧ nth e 7 = rv ∧ Keep (C :: L :: Ws) h g' ∧ R < g'.next ∧ ∃ (s : PS) (dv : AV) (old : List Bool), k = steps.toNat - s.out.length ∧ nth e 8 = .int .i64 (s.out.length : Nat) ∧ s.out.length ≤ steps.toNat ∧ (playN jobs b (steps.toNat - s.out.length) s).out = F ∧
      (∀ a ∈ s.ages, 0 ≤ a ∧ a ≤ (s.out.length : Int)) ∧ (∀ a ∈ s.cnt, 0 ≤ a ∧ a ≤ (s.out.length : Int)) ∧ s.cnt.length = jobs.length ∧ old.length = jobs.length ∧ Own g' rv R (bools old) ∧ Acc h.next g' dv (ints s.out) ∧ idOf dv ≠ some R ∧
      g'.get L = some (.cells [dv, m] .own) ∧ WkAt g' L Ws jobs s.cnt ∧ ChXs (R :: ((idOf dv).toList ++ (L :: Ws))) g' C s.picks b s.ages s.last) ?_ steps.toNat _ _ ?_
    · rintro k e g' ⟨hl, h0, h1, h2, h7, hkg, hRg, s, dv, old, rfl, h8, hol, hF, haok, hcok, hcl, hold, hown, hacc, hdR, hgL, hwk, hCX⟩
      have hlh := hkg.le
      have hwf' := hkg.wf
      have hdlt := fun j (hj : idOf dv = some j) => hacc.lt hwf' hj
      have hdge := fun j (hj : idOf dv = some j) => hacc.id hj
      have hmem : ∀ j, j ∈ (idOf dv).toList → idOf dv = some j := fun j hj => by simpa using hj
      have hav' : Sl g' av (acts Ws) := hav.keep' hkg (fun hne j hj => havx (by intro hh; apply hne; rw [hh]; rfl) j hj)
      have havR : acts Ws ≠ [] → ∀ j, idOf av = some j → j < h.next := fun hne j hj => hav.lt hw hne hj
      repeat apply WP.seq
      apply WP.block
      repeat apply WP.seq
      apply WP.region; simp [hl, h2, h8]
      repeat apply WP.seq
      apply WP.cond (by simp [hl]; rfl)
      · intro hge
        have hge : steps ≤ (s.out.length : Int) := by simpa using hge
        have hz : steps.toNat - s.out.length = 0 := by omega
        rw [hz] at hF
        simp only [playN] at hF
        subst hF
        repeat apply WP.seq
        apply WP.region; simp [hl, h8]
        apply WP.ret
        simp [hl, resultsA, resultA, single]
        exact ⟨dv, hgL, hacc, hkg⟩
      · intro hlt1
        have hlt1 : (s.out.length : Int) < steps := by simpa using hlt1
        apply WP.skip; simp
        repeat apply WP.seq
        apply WP.region; simp [hl, h0, hlena]
        repeat apply WP.seq
        apply WP.block
        have hrl := readyP_length jobs s
        refine WP.loop (fun k e g2 => e.length = 50 ∧ nth e 0 = av ∧ nth e 1 = .ptr (some ⟨C, 0⟩) ∧ nth e 2 = .int .i64 steps ∧ nth e 7 = rv ∧ nth e 8 = .int .i64 (s.out.length : Nat) ∧ nth e 23 = av ∧ nth e 24 = .int .i64 jobs.length ∧ Keep [R] g' g2 ∧ ∃ i, i ≤ jobs.length ∧ k = jobs.length - i ∧ nth e 25 = .int .i64 (i : Nat) ∧ Own g2 rv R (bools ((readyP jobs s).take i ++ old.drop i))) ?_ jobs.length _ _ ?_
        · rintro k e g2 ⟨hl, h0, h1, h2, h7, h8, h23, h24, hk2, i, hi, rfl, h25, hown2⟩
          have hav2 : Sl g2 av (acts Ws) := hav'.keep' hk2 (fun hne j hj hm => by
            have := havR hne j hj
            simp only [List.mem_singleton] at hm
            omega)
          have hgL2 := hk2.get _ _ hgL (by simp only [List.mem_singleton]; exact fun h => hRC.2.1 h.symm)
          have hwk2 := hwk.keep hk2 (fun W hW hm => by
            simp only [List.mem_singleton] at hm
            exact hRC.2.2 (hm ▸ hW))
          have hacc2 := hacc.keep2 hk2 (fun j hj hm => by
            simp only [List.mem_singleton] at hm
            exact hdR (hm ▸ hj))
          repeat apply WP.seq
          apply WP.region; simp [hl, h24, h25]
          repeat apply WP.seq
          apply WP.cond (by simp [hl]; rfl)
          · intro hlt2
            have hlt2 : i < jobs.length := by simpa using hlt2
            apply WP.skip; simp
            repeat apply WP.seq
            apply WP.block
            repeat apply WP.seq
            have hji : jobs[i]? = some jobs[i] := List.getElem?_eq_getElem hlt2
            generalize jobs[i] = j at hji
            obtain ⟨W, hWi⟩ : ∃ W, Ws[i]? = some W := ⟨Ws[i]'(by omega), by simp⟩
            obtain ⟨l1, hl1, hl1', _⟩ := hav2.at (P := Try.prog) u54 s56 a56 (acts_get hWi) (k := .i64)
            have hrdy := ready_ok o46 (hwk2 i W j hWi hji) hgL2 hacc2.sl
            rw [← readyAt_eq (s := s) hji] at hrdy
            have hmb := mixB_set (old := old) (by rw [hrl, hold]) (readyP_get (s := s) hlt2)
            have hml : ((readyP jobs s).take i ++ old.drop i).length = jobs.length := by simp [hrl, hold]; omega
            have hka := hown2.addr (P := Try.prog) u31 s4 (i := i) (by rw [bools_length, hml]; exact hlt2) (k := .i64)
            obtain ⟨hst3, hown3⟩ := hown2.store (P := Try.prog) s4 (i := i) (by rw [bools_length, hml]; exact hlt2) (x := .bool (readyAt jobs s i)) rfl rfl
            rw [bools_set, hmb] at hst3 hown3
            have hR2 := hk2.wf _ _ hown2.choose_spec.2
            have hk3 := hk2.set (i := R) (.cells (bools ((readyP jobs s).take (i + 1) ++ old.drop (i + 1))) .own) hR2 (.inl (by simp))
            apply WP.region; simp [hl, h23, h25, hl1, hl1']
            apply WP.region; simp [hl, h7, op_invoke, invR_iface meth69.1, hca46, hrdy, hka, storeR_ptr hst3]
            apply WP.region; simp [hl, h25, int_wrap (show i < 9223372036854775807 by omega)]
            exact ⟨jobs.length - (i + 1), by omega, h0, h1, h2, h7, h8, h23, h24, hk3, i + 1, by omega, rfl, by simp, hown3⟩
          · intro hge
            have hge : ¬ i < jobs.length := by simpa using hge
            apply WP.exit
            simp
            have hrt : (readyP jobs s).take i ++ old.drop i = readyP jobs s := by
              rw [List.take_of_length_le (by omega), List.drop_eq_nil_of_le (by omega), List.append_nil]
            rw [hrt] at hown2
            have hk2l := hk2.le
            have hCX2 := hCX.keep hk2 (by simp) (by simp only [List.mem_singleton]; exact fun h => hRC.1 h.symm)
            obtain ⟨g3, hcall3, hCX3, hk3⟩ := next_okXs O hk2.wf (fun A hA => by
              rcases List.mem_cons.1 hA with h1 | h1
              · omega
              · rcases List.mem_append.1 h1 with h1 | h1
                · have := hdlt A (hmem A h1); omega
                · rcases List.mem_cons.1 h1 with h1 | h1
                  · omega
                  · have := hWn A h1; omega) hCX2 hown2.sl (by rw [hown2.id]; simp; exact hRC.1) (by omega) (fun a ha => by have := haok a ha; omega)
            have hchl := fun (_ : Unit) h => next_chosen_lt (jobs := jobs) (b := b) (s := s) h
            have hstop := fun h => playN_stop (jobs := jobs) (b := b) (s := s) h
            have hpos : 0 < steps.toNat - s.out.length := by omega
            have hgo : ¬ (nextS jobs b s).chosen < 0 → playN jobs b (steps.toNat - s.out.length) s = playN jobs b (steps.toNat - s.out.length - 1) (moved s (nextS jobs b s)) := fun h => playN_go h hpos
            have hokN : ∀ a ∈ (nextP s.picks b s.ages s.last (readyP jobs s)).ages, 0 ≤ a ∧ a ≤ (s.out.length : Int) + 1 := by
              rw [nextP_ages]
              exact newAges_ok (by omega) (at0_le (by omega) (agesFor_le (by omega) haok (readyP jobs s).length))
            have hNS : nextS jobs b s = nextP s.picks b s.ages s.last (readyP jobs s) := rfl
            rw [← hNS] at hcall3 hCX3 hokN
            generalize nextS jobs b s = N at hcall3 hCX3 hokN hchl hstop hgo
            have hgL3 := hk3.get _ _ hgL2 (by simp only [List.mem_singleton]; exact fun h => hCL h.symm)
            have hwk3 := hwk2.keep hk3 (fun W hW hm => by
              simp only [List.mem_singleton] at hm
              exact hCW (hm ▸ hW))
            have hacc3 := hacc2.keep2 hk3 (fun j hj hm => by
              have := hdge j hj
              simp only [List.mem_singleton] at hm
              omega)
            have hown3 := hown2.keep hk3 (by simp only [List.mem_singleton]; exact hRC.1)
            have hav3 : Sl g3 av (acts Ws) := hav2.keep' hk3 (fun hne j hj hm => havx (by intro hh; apply hne; rw [hh]; rfl) j hj (by simp at hm; simp [hm]))
            have hk3l := hk3.le
            have hkE : Keep (C :: L :: R :: ((idOf dv).toList ++ Ws)) h g3 := (hkg.more (fun j hj => .inl (by simp only [List.mem_cons, List.mem_append] at hj ⊢; rcases hj with h | h | h <;> simp [h]))).trans ((hk2.more (by simp)).trans (hk3.more (by simp)))
            have hEm : ∀ j, j ∈ C :: L :: R :: ((idOf dv).toList ++ Ws) → j ∈ C :: L :: Ws ∨ h.next ≤ j := by
              intro j hj
              simp only [List.mem_cons, List.mem_append] at hj ⊢
              rcases hj with h | h | h | h | h
              · simp [h]
              · simp [h]
              · right; omega
              · right; exact hdge j (hmem j h)
              · simp [h]
            repeat apply WP.seq
            apply WP.region; simp [hl, h1, h7, hca14, hcall3, extractA]
            repeat apply WP.seq
            apply WP.region; simp [hl]
            repeat apply WP.seq
            apply WP.cond (t := !decide (0 ≤ N.chosen)) (by simp [hl])
            · intro hc
              have hc : N.chosen < 0 := by simpa using hc
              have hF' := hstop hc (steps.toNat - s.out.length)
              rw [hF'] at hF
              subst hF
              repeat apply WP.seq
              apply WP.region; simp [hl, h8]
              apply WP.ret
              simp [hl, resultsA, resultA, single]
              exact ⟨dv, hgL3, hacc3, hkE.more hEm⟩
            · intro hc
              have hc : ¬ N.chosen < 0 := by simpa using hc
              obtain ⟨c, hNc, hcj, hrc⟩ := hchl () hc
              have hF' := hgo hc
              rw [hF'] at hF
              have hjc : jobs[c]? = some jobs[c] := List.getElem?_eq_getElem hcj
              generalize jobs[c] = j at hjc
              obtain ⟨W, hWi⟩ : ∃ W, Ws[c]? = some W := ⟨Ws[c]'(by omega), by simp⟩
              have hWm := List.mem_of_getElem? hWi
              have hWh := hWn W hWm
              have hcle := at0_nonneg hcok (by omega) c
              obtain ⟨l1, hl1, hl1', _⟩ := hav3.at (P := Try.prog) u54 s56 a56 (acts_get hWi) (k := .i64)
              obtain ⟨dv4, g4, hstep, hW4, hL4, hacc4, hk4, hid4⟩ := step_ok o47 hk3.wf (hvx W hWm).1 (hwk3 c W j hWi hjc) hgL3 hacc3 (by omega) hWh hLn (by omega) (by omega)
              have hmx : max N.chosen 0 = (c : Int) := by omega
              have hk4l := hk4.le
              have hX : ∀ A, A ∈ L :: W :: (idOf dv).toList → A = L ∨ A = W ∨ idOf dv = some A := by
                intro A hA
                rcases List.mem_cons.1 hA with h1 | h1
                · exact .inl h1
                · rcases List.mem_cons.1 h1 with h1 | h1
                  · exact .inr (.inl h1)
                  · exact .inr (.inr (hmem A h1))
              have hown4 := hown3.keep hk4 (fun hm => by
                rcases hX R hm with h1 | h1 | h1
                · exact hRC.2.1 h1
                · exact hRC.2.2 (h1 ▸ hWm)
                · exact hdR h1)
              have hwk4 : WkAt g4 L Ws jobs (s.cnt.set c (at0 s.cnt c + 1)) := by
                intro i' W' j' hWi' hji'
                by_cases hic : i' = c
                · subst hic
                  rw [hWi] at hWi'; rw [hjc] at hji'
                  cases hWi'; cases hji'
                  have : at0 (s.cnt.set i' (at0 s.cnt i' + 1)) i' = at0 s.cnt i' + 1 := by simp [at0, List.getD_eq_getElem?_getD, hcl, hcj]
                  rw [this]
                  exact hW4
                · have hWne : W' ≠ W := fun hh => hic (hnd i' c W (hh ▸ hWi') hWi)
                  have : at0 (s.cnt.set c (at0 s.cnt c + 1)) i' = at0 s.cnt i' := by
                    simp only [at0, List.getD_eq_getElem?_getD]
                    rw [List.getElem?_set_ne (fun hh => hic hh.symm)]
                  rw [this]
                  have hWm' := List.mem_of_getElem? hWi'
                  exact hk4.get _ _ (hwk3 i' W' j' hWi' hji') (fun hm => by
                    rcases hX W' hm with h1 | h1 | h1
                    · exact (hvx W' hWm').1 h1
                    · exact hWne h1
                    · have := hdge W' h1; have := hWn W' hWm'; omega)
              have hCX4 : ChXs (R :: ((idOf dv4).toList ++ (L :: Ws))) g4 C N.picks b N.ages N.last := by
                refine ((hCX3.fresh hk3.wf (ex' := (idOf dv4).toList) (fun A hA => hid4 A (by simpa using hA))).keep hk4 ?_ ?_).less ?_
                · intro A hA
                  simp only [List.mem_append, List.mem_cons]
                  rcases hX A hA with h1 | h1 | h1
                  · simp [h1]
                  · simp [h1, hWm]
                  · simp [h1]
                · intro hm
                  rcases hX C hm with h1 | h1 | h1
                  · exact hCL h1
                  · exact hCW (h1 ▸ hWm)
                  · have := hdge C h1; omega
                · intro A hA
                  simp only [List.mem_append, List.mem_cons] at hA ⊢
                  rcases hA with h1 | h1 | h1 | h1
                  · simp [h1]
                  · simp [h1]
                  · simp [h1]
                  · simp [h1]
              have hkf : Keep (C :: L :: Ws) h g4 := (hkE.trans (hk4.more (fun A hA => .inl (by
                simp only [List.mem_append, List.mem_cons]
                rcases hX A hA with h1 | h1 | h1
                · simp [h1]
                · simp [h1, hWm]
                · simp [h1])))).more hEm
              apply WP.skip; simp
              apply WP.region; simp [hl, h0, hmx, hl1, hl1', op_invoke, invR_iface meth69.2, hca47, hstep]
              apply WP.region; simp [hl, h8, int_wrap (show s.out.length < 9223372036854775807 by omega)]
              have hm : moved s N = ⟨N.picks, N.ages, N.last, s.cnt.set c (at0 s.cnt c + 1), s.out ++ [N.chosen]⟩ := by simp only [moved, hNc, Int.toNat_natCast]
              rw [hm] at hF
              have hsub : steps.toNat - s.out.length - 1 = steps.toNat - (s.out ++ [N.chosen]).length := by rw [List.length_append, List.length_singleton]; omega
              rw [hsub] at hF
              rw [← hNc] at hacc4
              refine ⟨steps.toNat - (s.out ++ [N.chosen]).length, by rw [← hsub]; omega, h0, h1, h2, h7, hkf, by omega, ⟨N.picks, N.ages, N.last, s.cnt.set c (at0 s.cnt c + 1), s.out ++ [N.chosen]⟩, rfl, by simp, by simp; omega, hF, ?_, ?_, by simpa using hcl, dv4, readyP jobs s, hrl, hown4, hacc4, ?_, hL4, hwk4, hCX4⟩
              · intro a ha
                have := hokN a ha
                simp only [List.length_append, List.length_singleton]
                omega
              · intro a ha
                have := set_le hcok (i := c) (x := at0 s.cnt c + 1) (by omega) a ha
                simp only [List.length_append, List.length_singleton]
                omega
              · intro hh
                have := hid4 R hh
                omega
        · refine ⟨by simp [hl], by simp [hl, h0], by simp [hl, h1], by simp [hl, h2], by simp [hl, h7], by simp [hl, h8], by simp [hl], by simp [hl], Keep.refl hwf', 0, by omega, by omega, by simp [hl], by simpa using hown⟩
    · refine ⟨by simp [hl], by simp [hl, h0], by simp [hl, h1], by simp [hl, h2], by simp [hl], hk1.more (by simp), hR1, startP jobs picks, .slice none 0 (.exact 0), List.replicate jobs.length false, by simp [startP], by simp [hl, startP], by simp [startP], by simpa [startP] using hF, by simp [startP], by simp [startP], by simp [startP], by simp, hown1, by simpa [startP, ints] using Acc.nil, by simp [idOf], hgL1, hWk1, by simpa [idOf, startP] using hCX1⟩
  obtain ⟨_, h', h1, ⟨r, rfl⟩, h2⟩ := main
  exact ⟨r, h', h1, h2⟩
end
end Go.Am
