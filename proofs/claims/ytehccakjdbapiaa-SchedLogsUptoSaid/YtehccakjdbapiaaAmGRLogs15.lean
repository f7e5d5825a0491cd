/- Parts of the proof by the abstract machine: SPlayS, SPlayQ, SPlays, SDoneP, SLogR, SLogP. -/
import Derived.Test.YtehccakjdbapiaaAmGRLogs14
set_option linter.unusedSimpArgs false
namespace Go.Am
open Go.RowKit Go.Proofs

def acts (Ws : List Nat) : List AV := Ws.map fun W => .iface 69 (.ptr (some ⟨W, 0⟩))
def wcells (L : Nat) (j : Int × Int) (i : Nat) (c : Int) : List AV := [.ptr (some ⟨L, 0⟩), .int .i64 j.1, .int .i64 j.2, .int .i64 (i : Int), .int .i64 c]
def WkAt (h : Heap) (L : Nat) (Ws : List Nat) (jobs : List (Int × Int)) (cnt : List Int) : Prop := ∀ i W j, Ws[i]? = some W → jobs[i]? = some j → h.get W = some (.cells (wcells L j i (at0 cnt i)) .own)
theorem WkAt.keep {ex : List Nat} {h0 h : Heap} (hk : Keep ex h0 h) {L : Nat} {Ws : List Nat} {jobs : List (Int × Int)} {cnt : List Int} (hW : WkAt h0 L Ws jobs cnt) (hx : ∀ W ∈ Ws, W ∉ ex) : WkAt h L Ws jobs cnt :=
  fun i W j hi hj => hk.get _ _ (hW i W j hi hj) (hx W (List.mem_of_getElem? hi))
theorem acts_get {Ws : List Nat} {i W : Nat} (h : Ws[i]? = some W) : (acts Ws)[i]? = some (.iface 69 (.ptr (some ⟨W, 0⟩))) := by simp [acts, h]
theorem mixB_set {new old : List Bool} {i : Nat} {b : Bool} (hl : new.length = old.length) (h : new[i]? = some b) : (new.take i ++ old.drop i).set i b = new.take (i + 1) ++ old.drop (i + 1) := by
  have hi := (List.getElem?_eq_some_iff.1 h).1
  rw [List.take_add_one, h, List.drop_eq_getElem_cons (by omega), List.set_append_right _ _ (by simp; omega)]
  simp only [List.length_take, Nat.min_eq_left (Nat.le_of_lt hi), Nat.sub_self, List.set_cons_zero, Option.toList, List.append_assoc, List.cons_append, List.nil_append]
theorem ChXs.fresh {ex ex' : List Nat} {h : Heap} (hw : Wf h) {C : Nat} {picks ages : List Int} {bound last : Int} (hC : ChXs ex h C picks bound ages last) (hA : ∀ A ∈ ex', h.next ≤ A) : ChXs (ex' ++ ex) h C picks bound ages last := by
  induction ex' with
  | nil => exact hC
  | cons A ex' ih => exact (ih (fun B hB => hA B (List.mem_cons_of_mem _ hB))).cons hw (hA A List.mem_cons_self)

section
variable {ov : CallF}

set_option maxHeartbeats 4000000 in
theorem run_ok (O : OvOk ov) (o24 : ∀ a h, ov 24 a h = none) (o46 : ∀ a h, ov 46 a h = none) (o47 : ∀ a h, ov 47 a h = none) {h : Heap} (hw : Wf h) {av : AV} {Ws : List Nat} {jobs : List (Int × Int)} (hlen : Ws.length = jobs.length) (hnd : ∀ i j W : Nat, Ws[i]? = some W → Ws[j]? = some W → i = j) (hjn : jobs.length ≤ 1000000)
    {L C : Nat} (hav : Sl h av (acts Ws)) (hLW : L ∉ Ws) (hCW : C ∉ Ws) (hCL : C ≠ L) (havx : Ws ≠ [] → ∀ j, idOf av = some j → j ∉ C :: L :: Ws) {m : AV} (hL : h.get L = some (.cells [.slice none 0 (.exact 0), m] .own)) {picks : List Int} {b : Int} (hWk : WkAt h L Ws jobs (List.replicate jobs.length 0))
    (hC : ChXs (L :: Ws) h C picks b [] (-1)) (hWn : ∀ W ∈ Ws, W < h.next) (steps : Int) (hst : steps ≤ 1000000) (hst' : -9223372036854775808 ≤ steps) :
    ∃ r h', callT ov Try.prog 24 [av, .ptr (some ⟨C, 0⟩), .int .i64 steps] h = some (.ret (.int .i64 r) h') ∧ ∃ dv', h'.get L = some (.cells [dv', m] .own) ∧ Acc h.next h' dv' (ints (playN jobs b steps.toNat (startP jobs picks)).out) ∧ Keep (C :: L :: Ws) h h' := by
  have main : ∃ u h', callT ov Try.prog 24 [av, .ptr (some ⟨C, 0⟩), .int .i64 steps] h = some (.ret u h') ∧ (∃ r, u = .int .i64 r) ∧ ∃ dv', h'.get L = some (.cells [dv', m] .own) ∧ Acc h.next h' dv' (ints (playN jobs b steps.toNat (startP jobs picks)).out) ∧ Keep (C :: L :: Ws) h h' := by
    refine callT_wp (fn := Try.f24) (o24 _ _) (by kernel_rfl) rfl ?_
    have hl : (frameA Try.f24 [av, .ptr (some ⟨C, 0⟩), .int .i64 steps]).length = 50 := frameA_length (Nat.le_of_ble_eq_true rfl)
    have h0 : nth (frameA Try.f24 [av, .ptr (some ⟨C, 0⟩), .int .i64 steps]) 0 = av := frameA_nth (Nat.le_of_ble_eq_true rfl)
    have h1 : nth (frameA Try.f24 [av, .ptr (some ⟨C, 0⟩), .int .i64 steps]) 1 = .ptr (some ⟨C, 0⟩) := frameA_nth (Nat.le_of_ble_eq_true rfl)
    have h2 : nth (frameA Try.f24 [av, .ptr (some ⟨C, 0⟩), .int .i64 steps]) 2 = .int .i64 steps := frameA_nth (Nat.le_of_ble_eq_true rfl)
    generalize frameA Try.f24 [av, .ptr (some ⟨C, 0⟩), .int .i64 steps] = e at hl h0 h1 h2
    have hca14 : ∀ args h, callA (callT ov Try.prog) Try.prog h 14 args = callT ov Try.prog 14 args h := fun args h => callA_of (fn := Try.f14) (by kernel_rfl) rfl
    have hca46 : ∀ args h, callA (callT ov Try.prog) Try.prog h 46 args = callT ov Try.prog 46 args h := fun args h => callA_of (fn := Try.f46) (by kernel_rfl) rfl
    have hca47 : ∀ args h, callA (callT ov Try.prog) Try.prog h 47 args = callT ov Try.prog 47 args h := fun args h => callA_of (fn := Try.f47) (by kernel_rfl) rfl
    have hacl : (acts Ws).length = jobs.length := by simp [acts, hlen]
    have hlena : ∀ h, lenA Try.prog h 54 av = some (.int .i64 (jobs.length : Nat)) := by
      intro h; obtain ⟨l, c, rfl⟩ := hav.slice; rw [hacl]; exact lenA_slice (P := Try.prog) u54
    have hLn := hw _ _ hL
    have hCn := hC.ch.lt hw
    repeat apply WP.seq
    apply WP.region; simp [hl]
    repeat apply WP.seq
    have hmk : makeSliceA Try.prog h 31 (.int .i64 (jobs.length : Nat)) (.int .i64 (jobs.length : Nat)) = _ := make31 (by omega)
    have hk1 := (Keep.refl (ex := []) hw).alloc (.cells (List.replicate jobs.length (.bool false)) .own)
    have hg1 := Heap.get_alloc h (.cells (List.replicate jobs.length (.bool false)) .own)
    have hCX1 := (hC.cons hw (Nat.le_refl h.next)).keep0 hk1
    generalize h.alloc (.cells (List.replicate jobs.length (.bool false)) .own) = g1 at hmk hk1 hg1 hCX1
    have hown1 : Own g1 (.slice (some ⟨h.next, 0⟩) jobs.length (.exact jobs.length)) h.next (bools (List.replicate jobs.length false)) := ⟨.exact jobs.length, ⟨by simp, by simp [capOk]⟩, by rw [hg1]; simp [bools]⟩
    generalize AV.slice (some ⟨h.next, 0⟩) jobs.length (.exact jobs.length) = rv at hmk hown1
    have hRh : h.next ≤ h.next := Nat.le_refl _
    have hR1 := hk1.wf _ _ hg1
    have hlenr : ∀ g, lenA Try.prog g 31 rv = some (.int .i64 (jobs.length : Nat)) := by
      intro g; obtain ⟨l, c, rfl⟩ := hown1.sl.slice; simpa using lenA_slice (P := Try.prog) u31
    have hne : (⟨h.next, 0⟩ : Loc).id = h.next := rfl
    obtain ⟨R, hRd⟩ : ∃ R, R = h.next := ⟨_, rfl⟩
    rw [← hRd] at hown1 hR1 hCX1
    have hRh' : h.next ≤ R := by omega
    apply WP.region; simp [hl, h0, hlena, hmk]
    repeat apply WP.seq
    apply WP.region; simp [hl]
    generalize hF : (playN jobs b steps.toNat (startP jobs picks)).out = F
    have hgL1 := hk1.get _ _ hL (by simp)
    have hWk1 := hWk.keep hk1 (by simp)
    have hRC : R ≠ C ∧ R ≠ L ∧ R ∉ Ws := ⟨by omega, by omega, fun hm => by have := hWn R hm; omega⟩
    have hvx : ∀ W ∈ Ws, W ≠ L ∧ W ≠ C := fun W hW => ⟨fun h => hLW (h ▸ hW), fun h => hCW (h ▸ hW)⟩
    apply WP.block
    refine WP.loop (fun k e g' => e.length = 50 ∧ nth e 0 = av ∧ nth e 1 = .ptr (some ⟨C, 0⟩) ∧ nth e 2 = .int .i64 steps ∧ nth e 7 = rv ∧ Keep (C :: L :: Ws) h g' ∧ R < g'.next ∧ ∃ (s : PS) (dv : AV) (old : List Bool), k = steps.toNat - s.out.length ∧ nth e 8 = .int .i64 (s.out.length : Nat) ∧ s.out.length ≤ steps.toNat ∧ (playN jobs b (steps.toNat - s.out.length) s).out = F ∧
      (∀ a ∈ s.ages, 0 ≤ a ∧ a ≤ (s.out.length : Int)) ∧ (∀ a ∈ s.cnt, 0 ≤ a ∧ a ≤ (s.out.length : Int)) ∧ s.cnt.length = jobs.length ∧ old.length = jobs.length ∧ Own g' rv R (bools old) ∧ Acc h.next g' dv (ints s.out) ∧ idOf dv ≠ some R ∧
      g'.get L = some (.cells [dv, m] .own) ∧ WkAt g' L Ws jobs s.cnt ∧ ChXs (R :: ((idOf dv).toList ++ (L :: Ws))) g' C s.picks b s.ages s.last) ?_ steps.toNat _ _ ?_
    · rintro k e g' ⟨hl, h0, h1, h2, h7, hkg, hRg, s, dv, old, rfl, h8, hol, hF, haok, hcok, hcl, hold, hown, hacc, hdR, hgL, hwk, hCX⟩
      have hlh := hkg.le
      have hwf' := hkg.wf
      have hdlt := fun j (hj : idOf dv = some j) => hacc.lt hwf' hj
      have hdge := fun j (hj : idOf dv = some j) => hacc.id hj
      have hmem : ∀ j, j ∈ (idOf dv).toList → idOf dv = some j := fun j hj => by simpa using hj
      have hav' : Sl g' av (acts Ws) := hav.keep' hkg (fun hne j hj => havx (by intro hh; apply hne; rw [hh]; rfl) j hj)
      have havR : acts Ws ≠ [] → ∀ j, idOf av = some j → j < h.next := fun hne j hj => hav.lt hw hne hj
      repeat apply WP.seq
      apply WP.block
      repeat apply WP.seq
      apply WP.region; simp [hl, h2, h8]
      repeat apply WP.seq
      apply WP.cond (by simp [hl]; rfl)
      · intro hge
        have hge : steps ≤ (s.out.length : Int) := by simpa using hge
        have hz : steps.toNat - s.out.length = 0 := by omega
        rw [hz] at hF
        simp only [playN] at hF
        subst hF
        repeat apply WP.seq
        apply WP.region; simp [hl, h8]
        apply WP.ret
        simp [hl, resultsA, resultA, single]
        exact ⟨dv, hgL, hacc, hkg⟩
      · intro hlt1
        have hlt1 : (s.out.length : Int) < steps := by simpa using hlt1
        apply WP.skip; simp
        repeat apply WP.seq
        apply WP.region; simp [hl, h0, hlena]
        repeat apply WP.seq
        apply WP.block
        have hrl := readyP_length jobs s
        refine WP.loop (fun k e g2 => e.length = 50 ∧ nth e 0 = av ∧ nth e 1 = .ptr (some ⟨C, 0⟩) ∧ nth e 2 = .int .i64 steps ∧ nth e 7 = rv ∧ nth e 8 = .int .i64 (s.out.length : Nat) ∧ nth e 23 = av ∧ nth e 24 = .int .i64 jobs.length ∧ Keep [R] g' g2 ∧ ∃ i, i ≤ jobs.length ∧ k = jobs.length - i ∧ nth e 25 = .int .i64 (i : Nat) ∧ Own g2 rv R (bools ((readyP jobs s).take i ++ old.drop i))) ?_ jobs.length _ _ ?_
        · rintro k e g2 ⟨hl, h0, h1, h2, h7, h8, h23, h24, hk2, i, hi, rfl, h25, hown2⟩
          have hav2 : Sl g2 av (acts Ws) := hav'.keep' hk2 (fun hne j hj hm => by
            have := havR hne j hj
            simp only [List.mem_singleton] at hm
            omega)
          have hgL2 := hk2.get _ _ hgL (by simp only [List.mem_singleton]; exact fun h => hRC.2.1 h.symm)
          have hwk2 := hwk.keep hk2 (fun W hW hm => by
            simp only [List.mem_singleton] at hm
            exact hRC.2.2 (hm ▸ hW))
          have hacc2 := hacc.keep2 hk2 (fun j hj hm => by
            simp only [List.mem_singleton] at hm
            exact hdR (hm ▸ hj))
          repeat apply WP.seq
          apply WP.region; simp [hl, h24, h25]
          repeat apply WP.seq
          apply WP.cond (by simp [hl]; rfl)
          · intro hlt2
            have hlt2 : i < jobs.length := by simpa using hlt2
            apply WP.skip; simp
            repeat apply WP.seq
            apply WP.block
            repeat apply WP.seq
            have hji : jobs[i]? = some jobs[i] := List.getElem?_eq_getElem hlt2
            generalize jobs[i] = j at hji
            obtain ⟨W, hWi⟩ : ∃ W, Ws[i]? = some W := ⟨Ws[i]'(by omega), by simp⟩
            obtain ⟨l1, hl1, hl1', _⟩ := hav2.at (P := Try.prog) u54 s56 a56 (acts_get hWi) (k := .i64)
            have hrdy := ready_ok o46 (hwk2 i W j hWi hji) hgL2 hacc2.sl
            rw [← readyAt_eq (s := s) hji] at hrdy
            have hmb := mixB_set (old := old) (by rw [hrl, hold]) (readyP_get (s := s) hlt2)
            have hml : ((readyP jobs s).take i ++ old.drop i).length = jobs.length := by simp [hrl, hold]; omega
            have hka := hown2.addr (P := Try.prog) u31 s4 (i := i) (by rw [bools_length, hml]; exact hlt2) (k := .i64)
            obtain ⟨hst3, hown3⟩ := hown2.store (P := Try.prog) s4 (i := i) (by rw [bools_length, hml]; exact hlt2) (x := .bool (readyAt jobs s i)) rfl rfl
            rw [bools_set, hmb] at hst3 hown3
            have hR2 := hk2.wf _ _ hown2.choose_spec.2
            have hk3 := hk2.set (i := R) (.cells (bools ((readyP jobs s).take (i + 1) ++ old.drop (i + 1))) .own) hR2 (.inl (by simp))
            apply WP.region; simp [hl, h23, h25, hl1, hl1']
            apply WP.region; simp [hl, h7, op_invoke, invR_iface meth69.1, hca46, hrdy, hka, storeR_ptr hst3]
            apply WP.region; simp [hl, h25, int_wrap (show i < 9223372036854775807 by omega)]
            exact ⟨jobs.length - (i + 1), by omega, h0, h1, h2, h7, h8, h23, h24, hk3, i + 1, by omega, rfl, by simp, hown3⟩
          · intro hge
            have hge : ¬ i < jobs.length := by simpa using hge
            apply WP.exit
            simp
            have hrt : (readyP jobs s).take i ++ old.drop i = readyP jobs s := by
              rw [List.take_of_length_le (by omega), List.drop_eq_nil_of_le (by omega), List.append_nil]
            rw [hrt] at hown2
            have hk2l := hk2.le
            have hCX2 := hCX.keep hk2 (by simp) (by simp only [List.mem_singleton]; exact fun h => hRC.1 h.symm)
            obtain ⟨g3, hcall3, hCX3, hk3⟩ := next_okXs O hk2.wf (fun A hA => by
              rcases List.mem_cons.1 hA with h1 | h1
              · omega
              · rcases List.mem_append.1 h1 with h1 | h1
                · have := hdlt A (hmem A h1); omega
                · rcases List.mem_cons.1 h1 with h1 | h1
                  · omega
                  · have := hWn A h1; omega) hCX2 hown2.sl (by rw [hown2.id]; simp; exact hRC.1) (by omega) (fun a ha => by have := haok a ha; omega)
            have hchl := fun (_ : Unit) h => next_chosen_lt (jobs := jobs) (b := b) (s := s) h
            have hstop := fun h => playN_stop (jobs := jobs) (b := b) (s := s) h
            have hpos : 0 < steps.toNat - s.out.length := by omega
            have hgo : ¬ (nextS jobs b s).chosen < 0 → playN jobs b (steps.toNat - s.out.length) s = playN jobs b (steps.toNat - s.out.length - 1) (moved s (nextS jobs b s)) := fun h => playN_go h hpos
            have hokN : ∀ a ∈ (nextP s.picks b s.ages s.last (readyP jobs s)).ages, 0 ≤ a ∧ a ≤ (s.out.length : Int) + 1 := by
              rw [nextP_ages]
              exact newAges_ok (by omega) (at0_le (by omega) (agesFor_le (by omega) haok (readyP jobs s).length))
            have hNS : nextS jobs b s = nextP s.picks b s.ages s.last (readyP jobs s) := rfl
            rw [← hNS] at hcall3 hCX3 hokN
            generalize nextS jobs b s = N at hcall3 hCX3 hokN hchl hstop hgo
            have hgL3 := hk3.get _ _ hgL2 (by simp only [List.mem_singleton]; exact fun h => hCL h.symm)
            have hwk3 := hwk2.keep hk3 (fun W hW hm => by
              simp only [List.mem_singleton] at hm
              exact hCW (hm ▸ hW))
            have hacc3 := hacc2.keep2 hk3 (fun j hj hm => by
              have := hdge j hj
              simp only [List.mem_singleton] at hm
              omega)
            have hown3 := hown2.keep hk3 (by simp only [List.mem_singleton]; exact hRC.1)
            have hav3 : Sl g3 av (acts Ws) := hav2.keep' hk3 (fun hne j hj hm => havx (by intro hh; apply hne; rw [hh]; rfl) j hj (by simp at hm; simp [hm]))
            have hk3l := hk3.le
            have hkE : Keep (C :: L :: R :: ((idOf dv).toList ++ Ws)) h g3 := (hkg.more (fun j hj => .inl (by simp only [List.mem_cons, List.mem_append] at hj ⊢; rcases hj with h | h | h <;> simp [h]))).trans ((hk2.more (by simp)).trans (hk3.more (by simp)))
            have hEm : ∀ j, j ∈ C :: L :: R :: ((idOf dv).toList ++ Ws) → j ∈ C :: L :: Ws ∨ h.next ≤ j := by
              intro j hj
              simp only [List.mem_cons, List.mem_append] at hj ⊢
              rcases hj with h | h | h | h | h
              · simp [h]
              · simp [h]
              · right; omega
              · right; exact hdge j (hmem j h)
              · simp [h]
            repeat apply WP.seq
            apply WP.region; simp [hl, h1, h7, hca14, hcall3, extractA]
            repeat apply WP.seq
            apply WP.region; simp [hl]
            repeat apply WP.seq
            apply WP.cond (t := !decide (0 ≤ N.chosen)) (by simp [hl])
            · intro hc
              have hc : N.chosen < 0 := by simpa using hc
              have hF' := hstop hc (steps.toNat - s.out.length)
              rw [hF'] at hF
              subst hF
              repeat apply WP.seq
              apply WP.region; simp [hl, h8]
              apply WP.ret
              simp [hl, resultsA, resultA, single]
              exact ⟨dv, hgL3, hacc3, hkE.more hEm⟩
            · intro hc
              have hc : ¬ N.chosen < 0 := by simpa using hc
              obtain ⟨c, hNc, hcj, hrc⟩ := hchl () hc
              have hF' := hgo hc
              rw [hF'] at hF
              have hjc : jobs[c]? = some jobs[c] := List.getElem?_eq_getElem hcj
              generalize jobs[c] = j at hjc
              obtain ⟨W, hWi⟩ : ∃ W, Ws[c]? = some W := ⟨Ws[c]'(by omega), by simp⟩
              have hWm := List.mem_of_getElem? hWi
              have hWh := hWn W hWm
              have hcle := at0_nonneg hcok (by omega) c
              obtain ⟨l1, hl1, hl1', _⟩ := hav3.at (P := Try.prog) u54 s56 a56 (acts_get hWi) (k := .i64)
              obtain ⟨dv4, g4, hstep, hW4, hL4, hacc4, hk4, hid4⟩ := step_ok o47 hk3.wf (hvx W hWm).1 (hwk3 c W j hWi hjc) hgL3 hacc3 (by omega) hWh hLn (by omega) (by omega)
              have hmx : max N.chosen 0 = (c : Int) := by omega
              have hk4l := hk4.le
              have hX : ∀ A, A ∈ L :: W :: (idOf dv).toList → A = L ∨ A = W ∨ idOf dv = some A := by
                intro A hA
                rcases List.mem_cons.1 hA with h1 | h1
                · exact .inl h1
                · rcases List.mem_cons.1 h1 with h1 | h1
                  · exact .inr (.inl h1)
                  · exact .inr (.inr (hmem A h1))
              have hown4 := hown3.keep hk4 (fun hm => by
                rcases hX R hm with h1 | h1 | h1
                · exact hRC.2.1 h1
                · exact hRC.2.2 (h1 ▸ hWm)
                · exact hdR h1)
              have hwk4 : WkAt g4 L Ws jobs (s.cnt.set c (at0 s.cnt c + 1)) := by
                intro i' W' j' hWi' hji'
                by_cases hic : i' = c
                · subst hic
                  rw [hWi] at hWi'; rw [hjc] at hji'
                  cases hWi'; cases hji'
                  have : at0 (s.cnt.set i' (at0 s.cnt i' + 1)) i' = at0 s.cnt i' + 1 := by simp [at0, List.getD_eq_getElem?_getD, hcl, hcj]
                  rw [this]
                  exact hW4
                · have hWne : W' ≠ W := fun hh => hic (hnd i' c W (hh ▸ hWi') hWi)
                  have : at0 (s.cnt.set c (at0 s.cnt c + 1)) i' = at0 s.cnt i' := by
                    simp only [at0, List.getD_eq_getElem?_getD]
                    rw [List.getElem?_set_ne (fun hh => hic hh.symm)]
                  rw [this]
                  have hWm' := List.mem_of_getElem? hWi'
                  exact hk4.get _ _ (hwk3 i' W' j' hWi' hji') (fun hm => by
                    rcases hX W' hm with h1 | h1 | h1
                    · exact (hvx W' hWm').1 h1
                    · exact hWne h1
                    · have := hdge W' h1; have := hWn W' hWm'; omega)
              have hCX4 : ChXs (R :: ((idOf dv4).toList ++ (L :: Ws))) g4 C N.picks b N.ages N.last := by
                refine ((hCX3.fresh hk3.wf (ex' := (idOf dv4).toList) (fun A hA => hid4 A (by simpa using hA))).keep hk4 ?_ ?_).less ?_
                · intro A hA
                  simp only [List.mem_append, List.mem_cons]
                  rcases hX A hA with h1 | h1 | h1
                  · simp [h1]
                  · simp [h1, hWm]
                  · simp [h1]
                · intro hm
                  rcases hX C hm with h1 | h1 | h1
                  · exact hCL h1
                  · exact hCW (h1 ▸ hWm)
                  · have := hdge C h1; omega
                · intro A hA
                  simp only [List.mem_append, List.mem_cons] at hA ⊢
                  rcases hA with h1 | h1 | h1 | h1
                  · simp [h1]
                  · simp [h1]
                  · simp [h1]
                  · simp [h1]
              have hkf : Keep (C :: L :: Ws) h g4 := (hkE.trans (hk4.more (fun A hA => .inl (by
                simp only [List.mem_append, List.mem_cons]
                rcases hX A hA with h1 | h1 | h1
                · simp [h1]
                · simp [h1, hWm]
                · simp [h1])))).more hEm
              apply WP.skip; simp
              apply WP.region; simp [hl, h0, hmx, hl1, hl1', op_invoke, invR_iface meth69.2, hca47, hstep]
              apply WP.region; simp [hl, h8, int_wrap (show s.out.length < 9223372036854775807 by omega)]
              have hm : moved s N = ⟨N.picks, N.ages, N.last, s.cnt.set c (at0 s.cnt c + 1), s.out ++ [N.chosen]⟩ := by simp only [moved, hNc, Int.toNat_natCast]
              rw [hm] at hF
              have hsub : steps.toNat - s.out.length - 1 = steps.toNat - (s.out ++ [N.chosen]).length := by rw [List.length_append, List.length_singleton]; omega
              rw [hsub] at hF
              rw [← hNc] at hacc4
              refine ⟨steps.toNat - (s.out ++ [N.chosen]).length, by rw [← hsub]; omega, h0, h1, h2, h7, hkf, by omega, ⟨N.picks, N.ages, N.last, s.cnt.set c (at0 s.cnt c + 1), s.out ++ [N.chosen]⟩, rfl, by simp, by simp; omega, hF, ?_, ?_, by simpa using hcl, dv4, readyP jobs s, hrl, hown4, hacc4, ?_, hL4, hwk4, hCX4⟩
              · intro a ha
                have := hokN a ha
                simp only [List.length_append, List.length_singleton]
                omega
              · intro a ha
                have := set_le hcok (i := c) (x := at0 s.cnt c + 1) (by omega) a ha
                simp only [List.length_append, List.length_singleton]
                omega
              · intro hh
                have := hid4 R hh
                omega
        · refine ⟨by simp [hl], by simp [hl, h0], by simp [hl, h1], by simp [hl, h2], by simp [hl, h7], by simp [hl, h8], by simp [hl], by simp [hl], Keep.refl hwf', 0, by omega, by omega, by simp [hl], by simpa using hown⟩
    · refine ⟨by simp [hl], by simp [hl, h0], by simp [hl, h1], by simp [hl, h2], by simp [hl], hk1.more (by simp), hR1, startP jobs picks, .slice none 0 (.exact 0), List.replicate jobs.length false, by simp [startP], by simp [hl, startP], by simp [startP], by simpa [startP] using hF, by simp [startP], by simp [startP], by simp [startP], by simp, hown1, by simpa [startP, ints] using Acc.nil, by simp [idOf], hgL1, hWk1, by simpa [idOf, startP] using hCX1⟩
  obtain ⟨_, h', h1, ⟨r, rfl⟩, h2⟩ := main
  exact ⟨r, h', h1, h2⟩
end
end Go.Am

set_option linter.unusedSimpArgs false
namespace Go.Am
open Go.RowKit Go.Proofs

section
variable {ov : CallF}

set_option maxHeartbeats 4000000 in
theorem splay_ok (O : OvOk ov) (o19 : ∀ a h, ov 19 a h = none) (o21 : ∀ a h, ov 21 a h = none) (o22 : ∀ a h, ov 22 a h = none) (o23 : ∀ a h, ov 23 a h = none) (o24 : ∀ a h, ov 24 a h = none) (o46 : ∀ a h, ov 46 a h = none) (o47 : ∀ a h, ov 47 a h = none) {h : Heap} (hw : Wf h) {jv pv : AV} {jobs : List (Int × Int)} (hj : Slr h 2 jv (rowsJ jobs)) (hjn : jobs.length ≤ 1000000)
    {picks : List Int} (hp : Sl h pv (ints picks)) (hpn : picks.length ≤ 1000000000) (b steps : Int) (hst : steps ≤ 1000000) (hst' : -9223372036854775808 ≤ steps) (hon : (playOut jobs picks b steps).length ≤ 1000000000) :
    ∃ v' h', callT ov Try.prog 19 [jv, pv, .int .i64 b, .int .i64 steps] h = some (.ret v' h') ∧ Sl h' v' (ints (playOut jobs picks b steps)) ∧ (playOut jobs picks b steps ≠ [] → ∃ i, Own h' v' i (ints (playOut jobs picks b steps)) ∧ h.next ≤ i) ∧ Keep [] h h' := by
  have main : ∃ u h', callT ov Try.prog 19 [jv, pv, .int .i64 b, .int .i64 steps] h = some (.ret u h') ∧ Sl h' u (ints (playOut jobs picks b steps)) ∧ (playOut jobs picks b steps ≠ [] → ∃ i, Own h' u i (ints (playOut jobs picks b steps)) ∧ h.next ≤ i) ∧ Keep [] h h' := by
    refine callT_wp (fn := Try.f19) (o19 _ _) (by kernel_rfl) rfl ?_
    have hl : (frameA Try.f19 [jv, pv, .int .i64 b, .int .i64 steps]).length = 35 := frameA_length (Nat.le_of_ble_eq_true rfl)
    have h0 : nth (frameA Try.f19 [jv, pv, .int .i64 b, .int .i64 steps]) 0 = jv := frameA_nth (Nat.le_of_ble_eq_true rfl)
    have h1 : nth (frameA Try.f19 [jv, pv, .int .i64 b, .int .i64 steps]) 1 = pv := frameA_nth (Nat.le_of_ble_eq_true rfl)
    have h2 : nth (frameA Try.f19 [jv, pv, .int .i64 b, .int .i64 steps]) 2 = .int .i64 b := frameA_nth (Nat.le_of_ble_eq_true rfl)
    have h3 : nth (frameA Try.f19 [jv, pv, .int .i64 b, .int .i64 steps]) 3 = .int .i64 steps := frameA_nth (Nat.le_of_ble_eq_true rfl)
    generalize frameA Try.f19 [jv, pv, .int .i64 b, .int .i64 steps] = e at hl h0 h1 h2 h3
    have hca11 : ∀ args h, callA (callT ov Try.prog) Try.prog h 11 args = callT ov Try.prog 11 args h := fun args h => callA_of (fn := Try.f11) (by kernel_rfl) rfl
    have hca21 : ∀ args h, callA (callT ov Try.prog) Try.prog h 21 args = callT ov Try.prog 21 args h := fun args h => callA_of (fn := Try.f21) (by kernel_rfl) rfl
    have hca22 : ∀ args h, callA (callT ov Try.prog) Try.prog h 22 args = callT ov Try.prog 22 args h := fun args h => callA_of (fn := Try.f22) (by kernel_rfl) rfl
    have hca23 : ∀ args h, callA (callT ov Try.prog) Try.prog h 23 args = callT ov Try.prog 23 args h := fun args h => callA_of (fn := Try.f23) (by kernel_rfl) rfl
    have hca24 : ∀ args h, callA (callT ov Try.prog) Try.prog h 24 args = callT ov Try.prog 24 args h := fun args h => callA_of (fn := Try.f24) (by kernel_rfl) rfl
    have hlenj : ∀ h, lenA Try.prog h 41 jv = some (.int .i64 (jobs.length : Nat)) := fun h' => by simpa [rowsJ_length] using hj.len (P := Try.prog) h' u41
    obtain ⟨L, g1, hnl, hgL1, hk1, hLh, hL1⟩ := newLog_ok o21 hw
    repeat apply WP.seq
    apply WP.region; simp [hl]
    repeat apply WP.seq
    apply WP.region; simp [hl, hca21, hnl]
    repeat apply WP.seq
    apply WP.region; simp [hl]
    repeat apply WP.seq
    apply WP.region; simp [hl, h0, hlenj]
    repeat apply WP.seq
    apply WP.block
    refine WP.loop (fun k e g' => e.length = 35 ∧ nth e 1 = pv ∧ nth e 2 = .int .i64 b ∧ nth e 3 = .int .i64 steps ∧ nth e 9 = .ptr (some ⟨L, 0⟩) ∧ nth e 14 = jv ∧ nth e 15 = .int .i64 jobs.length ∧ Keep [] h g' ∧ ∃ (i : Nat) (av : AV) (Ws : List Nat), i ≤ jobs.length ∧ k = jobs.length - i ∧ nth e 16 = .int .i64 (i : Nat) ∧ nth e 10 = av ∧ Ws.length = i ∧
      Acc h.next g' av (acts Ws) ∧ g'.get L = some (.cells [.slice none 0 (.exact 0), .int .i64 (i : Nat)] .own) ∧ (∀ (k W : Nat) (j : Int × Int), Ws[k]? = some W → jobs[k]? = some j → g'.get W = some (.cells (wcells L j k 0) .own)) ∧ (∀ W ∈ Ws, L < W ∧ W < g'.next) ∧ (∀ i j W : Nat, Ws[i]? = some W → Ws[j]? = some W → i = j) ∧ (∀ j, idOf av = some j → j ≠ L ∧ j ∉ Ws)) ?_ jobs.length _ _ ?_
    · rintro k e g' ⟨hl, h1, h2, h3, h9, h14, h15, hkh, i, av, Ws, hi, rfl, h16, h10, hWl, hacc, hgL, hwk, hWn, hnd, hax⟩
      repeat apply WP.seq
      apply WP.region; simp [hl, h15, h16]
      repeat apply WP.seq
      apply WP.cond (by simp [hl]; rfl)
      · intro hlt1
        have hlt1 : i < jobs.length := by simpa using hlt1
        apply WP.skip; simp
        repeat apply WP.seq
        apply WP.block
        repeat apply WP.seq
        have hji : jobs[i]? = some jobs[i] := List.getElem?_eq_getElem hlt1
        generalize jobs[i] = j at hji
        obtain ⟨l1, hl1, hl1', _⟩ := (hj.keep' hkh (by simp)).at (P := Try.prog) u41 s49 a49 (rowsJ_get hji) (k := .i64)
        obtain ⟨B, ga, g3, hal, hst3, hk3, hg3, hB, hB', _⟩ := fresh49 hkh.wf j.1 j.2
        have hkl := hkh.le
        have hk3l := hk3.le
        have hgL3 := hk3.get _ _ hgL (by simp)
        have hLg : L < g'.next := hkh.wf _ _ hgL
        have hld3 := load_whole (P := Try.prog) a49 s49 hg3 rfl
        obtain ⟨W, g4, hadd, hgL4, hgW4, hk4, hW3, hW4⟩ := add_ok o23 hk3.wf hgL3 (by omega) j.1 j.2
        have hk4l := hk4.le
        have hbs := build54_1 (h := g4) (t := 69) (l := some ⟨W, 0⟩)
        have hk5 := (Keep.refl (ex := []) hk4.wf).alloc (.cells [.iface 69 (.ptr (some ⟨W, 0⟩))] .own)
        have hg5 := Heap.get_alloc g4 (.cells [.iface 69 (.ptr (some ⟨W, 0⟩))] .own)
        generalize g4.alloc (.cells [.iface 69 (.ptr (some ⟨W, 0⟩))] .own) = g5 at hbs hk5 hg5
        have hk5l := hk5.le
        have hacc5 := ((hacc.keep2 hk3 (by simp)).keep2 hk4 (fun j hj hm => by
          simp only [List.mem_singleton] at hm
          exact (hax j hj).1 hm)).keep2 hk5 (by simp)
        have hmem : ∀ j, j ∈ (idOf av).toList → idOf av = some j := fun j hj => by simpa using hj
        have hdge := fun j (hj : idOf av = some j) => hacc.id hj
        have halt := fun j (hj : idOf av = some j) => hacc.lt hkh.wf hj
        obtain ⟨av', g6, hap, hacc6, hk6, hid6⟩ := hacc5.pushX (P := Try.prog) (ex := (idOf av).toList) hk5.wf (by simp) (by omega) u54 s56 (room56 (by simp [acts]; omega)) (x := .iface 69 (.ptr (some ⟨W, 0⟩))) (y := .slice (some ⟨g4.next, 0⟩) 1 (.exact 1)) ⟨⟨rfl, by simp [capOk]⟩, .inr ⟨_, .own, hg5, by simp, rfl⟩⟩ rfl
        have hk6l := hk6.le
        have hac : acts Ws ++ [.iface 69 (.ptr (some ⟨W, 0⟩))] = acts (Ws ++ [W]) := by simp [acts]
        rw [hac] at hacc6
        have hgL6 := hk6.get _ _ (hk5.get _ _ hgL4 (by simp)) (fun hm => (hax L (hmem L hm)).1 rfl)
        have hgW6 := hk6.get _ _ (hk5.get _ _ hgW4 (by simp)) (fun hm => by have := halt W (hmem W hm); omega)
        have hkh6 : Keep [] h g6 := ((((hkh.trans hk3).more (ex' := L :: (idOf av).toList) (by simp)).trans (hk4.more (by simp))).trans ((hk5.more (by simp)).trans (hk6.more (fun j hj => .inl (List.mem_cons_of_mem _ hj))))).more (fun j hj => by
          rcases List.mem_cons.1 hj with h1 | h1
          · right; omega
          · right; exact hdge j (hmem j h1))
        have hwk6 : ∀ (k V : Nat) (j : Int × Int), (Ws ++ [W])[k]? = some V → jobs[k]? = some j → g6.get V = some (.cells (wcells L j k 0) .own) := by
          intro k V j' hV hj'
          by_cases hk : k < Ws.length
          · rw [List.getElem?_append_left hk] at hV
            have hVm := List.mem_of_getElem? hV
            have := hWn V hVm
            refine hk6.get _ _ (hk5.get _ _ (hk4.get _ _ (hk3.get _ _ (hwk k V j' hV hj') (by simp)) (by simp; omega)) (by simp)) (fun hm => (hax V (hmem V hm)).2 hVm)
          · have hk' : k = Ws.length := by
              have := (List.getElem?_eq_some_iff.1 hV).1
              simp at this; omega
            subst hk'
            simp at hV
            subst hV
            rw [hWl, hji] at hj'
            cases hj'
            rw [hWl]
            exact hgW6
        apply WP.region; simp [hl, h14, h16, hl1, hl1', hal, storeR_ptr hst3]
        apply WP.region; simp [hl, h9, h10, hld3, hca23, hadd, hbs, hap]
        apply WP.region; simp [hl, h16, int_wrap (show i < 9223372036854775807 by omega)]
        refine ⟨jobs.length - (i + 1), by omega, h1, h2, h3, h9, h14, h15, hkh6, i + 1, by omega, rfl, by simp, Ws ++ [W], by simp [hWl], hacc6, hgL6, fun k V a b => hwk6 k V (a, b), ?_, ?_, ?_⟩
        · intro V hV
          rcases List.mem_append.1 hV with h | h
          · have := hWn V h; omega
          · simp only [List.mem_singleton] at h; omega
        · intro x y V hx hy
          have hlast : ∀ k, (Ws ++ [W])[k]? = some V → (k < Ws.length ∧ Ws[k]? = some V ∧ V < g'.next) ∨ (k = Ws.length ∧ V = W) := by
            intro k hk
            by_cases hlt : k < Ws.length
            · rw [List.getElem?_append_left hlt] at hk
              exact .inl ⟨hlt, hk, (hWn V (List.mem_of_getElem? hk)).2⟩
            · have hk' : k = Ws.length := by
                have := (List.getElem?_eq_some_iff.1 hk).1
                simp at this; omega
              subst hk'
              simp at hk
              exact .inr ⟨rfl, hk.symm⟩
          rcases hlast x hx with ⟨_, q1, q2⟩ | ⟨q1, q2⟩
          · rcases hlast y hy with ⟨_, r1, _⟩ | ⟨r1, r2⟩
            · exact hnd x y V q1 r1
            · omega
          · rcases hlast y hy with ⟨_, r1, r2⟩ | ⟨r1, r2⟩
            · omega
            · omega
        · intro q hq
          have := hid6 q hq
          refine ⟨by omega, fun hm => ?_⟩
          rcases List.mem_append.1 hm with h | h
          · have := hWn q h; omega
          · simp only [List.mem_singleton] at h; omega
      · intro hge
        have hge : ¬ i < jobs.length := by simpa using hge
        apply WP.exit
        simp
        repeat apply WP.seq
        have hii : i = jobs.length := by omega
        have hkl := hkh.le
        have hLg : L < g'.next := hkh.wf _ _ hgL
        have halt := fun j (hj : idOf av = some j) => hacc.lt hkh.wf hj
        obtain ⟨C, g2, cpv, hnew, hgC, hcpv, hcid, hCn, hk2⟩ := new_ok O.o25 O.o11 hkh.wf (hp.keep hkh (by simp)) hpn b
        have hk2l := hk2.le
        have hgL2 := hk2.get _ _ hgL (by simp)
        have hLW : L ∉ Ws := fun hm => by have := hWn L hm; omega
        have hCW : C ∉ Ws := fun hm => by have := hWn C hm; omega
        have hCX : ChXs (L :: Ws) g2 C picks (max b 1) [] (-1) := by
          refine ⟨_, _, ⟨hgC, hcpv, ⟨rfl, rfl⟩, fun hi => (hcid _ hi).2 rfl, by simp [idOf]⟩, fun _ i hi hm => ?_, by simp [idOf]⟩
          have h1 := (hcid _ hi).1
          rcases List.mem_cons.1 hm with h2 | h2
          · omega
          · have := hWn i h2; omega
        have hrep : ∀ i : Nat, at0 (List.replicate jobs.length 0) i = 0 := by
          intro i
          by_cases hi : i < jobs.length
          · simp [at0, List.getD_eq_getElem?_getD, hi]
          · simp [at0, List.getD_eq_getElem?_getD, hi]
        have hwk2 : WkAt g2 L Ws jobs (List.replicate jobs.length 0) := by
          intro i W j hi hj
          rw [hrep]
          exact hk2.get _ _ (hwk i W j hi hj) (by simp)
        obtain ⟨r, g3, hrun, dv, hgL3, hacc3, hk3⟩ := run_ok O o24 o46 o47 hk2.wf (by omega) hnd hjn (hacc.sl.keep hk2 (by simp)) hLW hCW (by omega) (fun _ j hj hm => by
          have h1 := halt j hj
          rcases List.mem_cons.1 hm with h2 | h2
          · omega
          · rcases List.mem_cons.1 h2 with h2 | h2
            · exact (hax j hj).1 h2
            · exact (hax j hj).2 h2) hgL2 hwk2 hCX (fun W hW => by have := hWn W hW; omega) steps hst hst'
        have hF : (playN jobs (max b 1) steps.toNat (startP jobs picks)).out = playOut jobs picks b steps := rfl
        rw [hF] at hacc3
        have hk3l := hk3.le
        have hkh3 : Keep [] h g3 := (((hkh.trans hk2).more (ex' := C :: L :: Ws) (by simp)).trans hk3).more (fun j hj => by
          right
          rcases List.mem_cons.1 hj with h2 | h2
          · omega
          · rcases List.mem_cons.1 h2 with h2 | h2
            · omega
            · have := hWn j h2; omega)
        obtain ⟨v', g4, hdone, hsl4, ⟨dl, dc, rfl⟩, hown4, hk4⟩ := logDone_ok o22 O.o25 hk3.wf hgL3 hacc3.sl hon
        apply WP.region; simp [hl, h1, h2, h3, h10, hca11, hnew, hca24, hrun]
        repeat apply WP.seq
        apply WP.region; simp [hl, h9, hca22, hdone]
        apply WP.ret
        simp [hl, resultsA, resultA, single]
        refine ⟨hsl4, fun hne => ?_, hkh3.trans hk4⟩
        obtain ⟨i, q1, q2⟩ := hown4 hne
        exact ⟨i, q1, by omega⟩
    · refine ⟨by simp [hl], by simp [hl, h1], by simp [hl, h2], by simp [hl, h3], by simp [hl], by simp [hl, h0], by simp [hl], hk1, 0, .slice none 0 (.exact 0), [], by omega, by omega, by simp [hl], by simp [hl], rfl, Acc.nil, hgL1, by simp, by simp, by simp, by simp [idOf]⟩
  obtain ⟨u, h', h1, h2⟩ := main
  exact ⟨u, h', h1, h2⟩
end
end Go.Am

set_option linter.unusedSimpArgs false
namespace Go.Am
open Go.RowKit Go.Proofs

theorem playN_len {jobs : List (Int × Int)} {b : Int} : ∀ (n : Nat) (s : PS), (playN jobs b n s).out.length ≤ s.out.length + n
  | 0, s => by simp [playN]
  | n + 1, s => by
    simp only [playN]
    split
    · omega
    · have := playN_len (jobs := jobs) (b := b) n (moved s (nextS jobs b s))
      simp only [moved, List.length_append, List.length_singleton] at this
      simp only [moved]
      omega
theorem playOut_len (jobs : List (Int × Int)) (picks : List Int) (b steps : Int) : (playOut jobs picks b steps).length ≤ steps.toNat := by
  have := playN_len (jobs := jobs) (b := max b 1) steps.toNat (startP jobs picks)
  simpa [playOut, startP] using this
theorem fa43 {l : Loc} : fieldAddrA Try.prog 43 (.ptr (some l)) 0 = some (.ptr (some ⟨l.id, l.off + 0⟩)) ∧ fieldAddrA Try.prog 43 (.ptr (some l)) 1 = some (.ptr (some ⟨l.id, l.off + 1⟩)) ∧
    fieldAddrA Try.prog 43 (.ptr (some l)) 2 = some (.ptr (some ⟨l.id, l.off + 2⟩)) ∧ fieldAddrA Try.prog 43 (.ptr (some l)) 3 = some (.ptr (some ⟨l.id, l.off + 3⟩)) := by
  refine ⟨?_, ?_, ?_, ?_⟩ <;> kernel_rfl

structure PlayOv (ov : CallF) : Prop where
  o12 : ∀ a h, ov 12 a h = none
  o13 : ∀ a h, ov 13 a h = none
  o17 : ∀ a h, ov 17 a h = none
  o18 : ∀ a h, ov 18 a h = none
  o19 : ∀ a h, ov 19 a h = none
  o20 : ∀ a h, ov 20 a h = none
  o21 : ∀ a h, ov 21 a h = none
  o22 : ∀ a h, ov 22 a h = none
  o23 : ∀ a h, ov 23 a h = none
  o24 : ∀ a h, ov 24 a h = none
  o26 : ∀ a h, ov 26 a h = none
  o46 : ∀ a h, ov 46 a h = none
  o47 : ∀ a h, ov 47 a h = none

section
variable {ov : CallF}

set_option maxHeartbeats 4000000 in
theorem plays_ok (O : OvOk ov) (Q : PlayOv ov) (o7 : ∀ a h, ov 7 a h = none) {h : Heap} (hw : Wf h) {jv pv : AV} {js : List (Int × Int)} (hj : Slr h 2 jv (rowsJ js)) (hjn : js.length ≤ 2000000)
    {picks : List Int} (hp : Sl h pv (ints picks)) (hpn : picks.length ≤ 2000000) (b steps : Int) (hst' : -9223372036854775808 ≤ steps) :
    ∃ h', callT ov Try.prog 7 [.agg [jv, pv, .int .i64 b, .int .i64 steps]] h = some (.ret (.bool true) h') := by
  have main : ∃ u h', callT ov Try.prog 7 [.agg [jv, pv, .int .i64 b, .int .i64 steps]] h = some (.ret u h') ∧ u = .bool true := by
    refine callT_wp (fn := Try.f7) (Q := fun u _ => u = .bool true) (o7 _ _) (by kernel_rfl) rfl ?_
    have hl : (frameA Try.f7 [.agg [jv, pv, .int .i64 b, .int .i64 steps]]).length = 59 := frameA_length (Nat.le_of_ble_eq_true rfl)
    have h0 : nth (frameA Try.f7 [.agg [jv, pv, .int .i64 b, .int .i64 steps]]) 0 = .agg [jv, pv, .int .i64 b, .int .i64 steps] := frameA_nth (Nat.le_of_ble_eq_true rfl)
    generalize frameA Try.f7 [.agg [jv, pv, .int .i64 b, .int .i64 steps]] = e at hl h0
    have hca10 : ∀ h, callA (callT ov Try.prog) Try.prog h 10 [] = some (.ret (.bool true) h) := fun h => (callA_of (fn := Try.f10) (by kernel_rfl) rfl).trans (callT_ov _ _ (O.o10 h))
    have hca17 : ∀ args h, callA (callT ov Try.prog) Try.prog h 17 args = callT ov Try.prog 17 args h := fun args h => callA_of (fn := Try.f17) (by kernel_rfl) rfl
    have hca18 : ∀ args h, callA (callT ov Try.prog) Try.prog h 18 args = callT ov Try.prog 18 args h := fun args h => callA_of (fn := Try.f18) (by kernel_rfl) rfl
    have hca19 : ∀ args h, callA (callT ov Try.prog) Try.prog h 19 args = callT ov Try.prog 19 args h := fun args h => callA_of (fn := Try.f19) (by kernel_rfl) rfl
    have hca20 : ∀ args h, callA (callT ov Try.prog) Try.prog h 20 args = callT ov Try.prog 20 args h := fun args h => callA_of (fn := Try.f20) (by kernel_rfl) rfl
    have hbx := box_agg (h := h) (vs := [jv, pv, .int .i64 b, .int .i64 steps]) rfl
    have hk1 := (Keep.refl (ex := []) hw).alloc (.cells [jv, pv, .int .i64 b, .int .i64 steps] .own)
    have hg1 := Heap.get_alloc h (.cells [jv, pv, .int .i64 b, .int .i64 steps] .own)
    generalize h.alloc (.cells [jv, pv, .int .i64 b, .int .i64 steps] .own) = g1 at hbx hk1 hg1
    generalize h.next = B at hbx hg1
    have hl0 : loadA Try.prog g1 41 ⟨B, 0⟩ = some jv := load_cell a41 hg1 rfl
    have hl1 : loadA Try.prog g1 22 ⟨B, 1⟩ = some pv := load_cell a22 hg1 rfl
    have hl2 : loadA Try.prog g1 3 ⟨B, 2⟩ = some (.int .i64 b) := load_cell a3 hg1 rfl
    have hl3 : loadA Try.prog g1 3 ⟨B, 3⟩ = some (.int .i64 steps) := load_cell a3 hg1 rfl
    obtain ⟨cv, g2, hcut, hcj, hk2⟩ := cut_ok Q.o17 hk1.wf (hj.keep' hk1 (by simp)) hjn
    have hg2 := hk2.get _ _ hg1 (by simp)
    have hm1 : loadA Try.prog g2 22 ⟨B, 1⟩ = some pv := load_cell a22 hg2 rfl
    have hm2 : loadA Try.prog g2 3 ⟨B, 2⟩ = some (.int .i64 b) := load_cell a3 hg2 rfl
    have hm3 : loadA Try.prog g2 3 ⟨B, 3⟩ = some (.int .i64 steps) := load_cell a3 hg2 rfl
    have hp2 := (hp.keep hk1 (by simp)).keep hk2 (by simp)
    have hjl : (js.take 20).length ≤ 20 := by simp; omega
    repeat apply WP.seq
    apply WP.region; simp [hl, h0, hbx]
    repeat apply WP.seq
    apply WP.region; simp [hl, hca10]
    repeat apply WP.seq
    apply WP.cond (t := false) (by simp [hl]) (by simp)
    intro _
    apply WP.skip; simp
    repeat apply WP.seq
    refine WP.mono (K := fun out e g' => out = .normal ∧ g2 = g' ∧ e.length = 59 ∧ nth e 3 = cv ∧ nth e 4 = pv ∧ nth e 5 = .int .i64 b ∧ nth e 6 = .int .i64 steps) ?_ ?_
    · refine WP.drawDyn (by kernel_rfl) (dynOk_tw (pl := [(1, 2), (4, 2), (4, 13), (6, 2), (6, 13), (8, 2), (8, 13)]) (by kernel_rfl) ?_) ?_
      · simp [hl, fa43, hl0, hl1, hl2, hl3, hca17, hcut, hm1, hm2, hm3, loadSame]
      · simp [hl, fa43, hl0, hl1, hl2, hl3, hca17, hcut, hm1, hm2, hm3]
    clear hl h0 hl0 hl1 hl2 hl3 hm1 hm2 hm3 hg1 hg2 hbx
    rintro _ e _ ⟨rfl, rfl, hl, h3, h4, h5, h6⟩
    simp
    repeat apply WP.seq
    apply WP.region; simp [hl, h6]
    repeat apply WP.seq
    refine WP.mono (K := fun out e g' => out = .normal ∧ g2 = g' ∧ e.length = 59 ∧ nth e 3 = cv ∧ nth e 4 = pv ∧ nth e 5 = .int .i64 b ∧ nth e 6 = .int .i64 (min steps 400)) ?_ ?_
    · apply WP.cond (by simp [hl]; rfl)
      · intro hc
        have hc : 400 < steps := by simpa using hc
        have hm : min steps 400 = 400 := by omega
        apply WP.region; simp [hl, h3, h4, h5, hm]
      · intro hc
        have hc : ¬ 400 < steps := by simpa using hc
        have hm : min steps 400 = steps := by omega
        apply WP.skip; simp [hl, h3, h4, h5, h6, hm]
    clear hl h3 h4 h5 h6
    rintro _ e _ ⟨rfl, rfl, hl, h3, h4, h5, h6⟩
    have hst : min steps 400 ≤ 400 ∧ -9223372036854775808 ≤ min steps 400 := by omega
    generalize min steps 400 = st at h6 hst
    simp
    repeat apply WP.seq
    -- the document's answer
    obtain ⟨wv, g3, hwant, hws, _, hk3⟩ := refPlay_ok Q.o12 Q.o13 Q.o18 Q.o26 hk2.wf hcj (by omega) hp2 b st (by omega)
    have hol := playOut_len (js.take 20) picks b st
    have hcc : (js.take 20).take 20 = js.take 20 := by rw [List.take_take, Nat.min_self]
    -- a play
    have play : ∀ {g : Heap}, Wf g → Slr g 2 cv (rowsJ (js.take 20)) → Sl g pv (ints picks) → ∃ c1 g4 g5 g6 v1 v2, callT ov Try.prog 17 [cv] g = some (.ret c1 g4) ∧ appendA Try.prog (g4.alloc (.cells [] .own)) 22 22 (.slice (some ⟨g4.next, 0⟩) 0 (.exact 0)) pv = some (v1, g5) ∧
        callT ov Try.prog 19 [c1, v1, .int .i64 b, .int .i64 st] g5 = some (.ret v2 g6) ∧ Sl g6 v2 (ints (playOut (js.take 20) picks b st)) ∧ (playOut (js.take 20) picks b st ≠ [] → ∃ i, Own g6 v2 i (ints (playOut (js.take 20) picks b st)) ∧ g.next ≤ i) ∧ Keep [] g g6 := by
      intro g hwg hcg hpg
      obtain ⟨c1, g4, hc1, hcj4, hk4⟩ := cut_ok Q.o17 hwg hcg (by omega)
      rw [hcc] at hcj4
      obtain ⟨v1, g5, B1, hap, hown1, _, hk5⟩ := (hpg.keep hk4 (by simp)).clone (P := Try.prog) hk4.wf u22 s3 (fun _ => room3 (by simp; omega)) ints_ok
      obtain ⟨v2, g6, hpl, hs6, hown6, hk6⟩ := splay_ok O Q.o19 Q.o21 Q.o22 Q.o23 Q.o24 Q.o46 Q.o47 hk5.wf (hcj4.keep' hk5 (by simp)) (by omega) hown1.sl (by omega) b st (by omega) (by omega) (by omega)
      refine ⟨c1, g4, g5, g6, v1, v2, hc1, hap, hpl, hs6, fun hne => ?_, (hk4.trans hk5).trans hk6⟩
      obtain ⟨i, q1, q2⟩ := hown6 hne
      have := hk4.le
      have := hk5.le
      exact ⟨i, q1, by omega⟩
    generalize playOut (js.take 20) picks b st = F at *
    have hp3 := hp2.keep hk3 (by simp)
    have hcj3 : Slr g3 2 cv (rowsJ (js.take 20)) := hcj.keep' hk3 (by simp)
    obtain ⟨c1, g4, g5, g6, v1, gv, hc1, hap, hpl, hgs, hgown, hk6⟩ := play hk3.wf hcj3 hp3
    have hws6 := hws.keep hk6 (by simp)
    have hsame := same_ok Q.o20 hgs hws6 (by omega) rfl
    have hleng : ∀ g, lenA Try.prog g 22 gv = some (.int .i64 (F.length : Nat)) := by
      intro g; obtain ⟨l, c, rfl⟩ := hgs.slice; simpa using lenA_slice (P := Try.prog) u22
    obtain ⟨I, hI, hIn⟩ : ∃ I, (F ≠ [] → Own g6 gv I (ints F)) ∧ g3.next ≤ I := by
      by_cases hF : F = []
      · exact ⟨g3.next, fun h => absurd hF h, Nat.le_refl _⟩
      · obtain ⟨i, q1, q2⟩ := hgown hF
        exact ⟨i, fun _ => q1, q2⟩
    apply WP.region; simp [hl, h3, h4, h5, h6, hca18, hwant]
    repeat apply WP.seq
    apply WP.region; simp [hl, h3, h4, h5, h6, hca17, hc1, build22, hap, hca19, hpl]
    repeat apply WP.seq
    apply WP.region; simp [hl, hca20, hsame]
    repeat apply WP.seq
    apply WP.cond (t := false) (by simp [hl]) (by simp)
    intro _
    apply WP.skip; simp
    repeat apply WP.seq
    apply WP.region; simp [hl, hleng]
    repeat apply WP.seq
    apply WP.block
    refine WP.loop (fun k e g' => e.length = 59 ∧ nth e 3 = cv ∧ nth e 4 = pv ∧ nth e 5 = .int .i64 b ∧ nth e 6 = .int .i64 st ∧ nth e 7 = wv ∧ nth e 8 = gv ∧ nth e 41 = .int .i64 F.length ∧ Keep [I] g6 g' ∧ ∃ i, i ≤ F.length ∧ k = F.length - i ∧ nth e 42 = .int .i64 (i : Nat) ∧ ∃ xs : List Int, xs.length = F.length ∧ (F ≠ [] → Own g' gv I (ints xs))) ?_ F.length _ _ ?_
    · rintro k e g' ⟨hl, h3, h4, h5, h6, h7, h8, h41, hk7, i, hi, rfl, h42, xs, hxl, hown⟩
      repeat apply WP.seq
      apply WP.region; simp [hl, h41, h42]
      repeat apply WP.seq
      apply WP.cond (by simp [hl]; rfl)
      · intro hlt1
        have hlt1 : i < F.length := by simpa using hlt1
        have hne : F ≠ [] := by intro hh; rw [hh] at hlt1; simp at hlt1
        have hown := hown hne
        apply WP.skip; simp
        repeat apply WP.seq
        apply WP.block
        repeat apply WP.seq
        have haddr := hown.addr (P := Try.prog) u22 s3 (i := i) (by simp; omega) (k := .i64)
        obtain ⟨hst8, hown'⟩ := hown.store (P := Try.prog) s3 (i := i) (by simp; omega) (x := .int .i64 (-1)) rfl rfl
        rw [ints_set] at hst8 hown'
        have hI5 : I < g'.next := hk7.wf _ _ hown.choose_spec.2
        have hk' := hk7.set (.cells (ints (xs.set i (-1))) .own) hI5 (.inl (by simp))
        apply WP.region; simp [hl, h42]
        apply WP.region; simp [hl, h8, haddr, storeR_ptr hst8]
        apply WP.region; simp [hl, h42, int_wrap (show i < 9223372036854775807 by omega)]
        exact ⟨F.length - (i + 1), by omega, h3, h4, h5, h6, h7, h8, h41, hk', i + 1, by omega, rfl, by simp, _, by simpa using hxl, fun _ => hown'⟩
      · intro hge
        apply WP.exit
        simp
        have hIx : ∀ {v : AV} {xs : List AV}, Sl g3 v xs → Sl g' v xs := fun hs => (hs.keep hk6 (by simp)).keep' hk7 (fun hne j hj hm => by
          have := hs.lt hk3.wf hne hj
          simp only [List.mem_singleton] at hm
          omega)
        have hcj7 : Slr g' 2 cv (rowsJ (js.take 20)) := Slr.keep' hk7 (hcj3.keep' hk6 (by simp)) (fun hne j hj hm => by
          have := hcj3.lt hk3.wf hne hj
          simp only [List.mem_singleton] at hm
          omega)
        obtain ⟨c2, g8, g9, ga, v2, gv2, hc2, hap2, hpl2, hgs2, _, hka⟩ := play hk7.wf hcj7 (hIx hp3)
        have hsame2 := same_ok Q.o20 hgs2 ((hIx hws).keep hka (by simp)) (by omega) rfl
        repeat apply WP.seq
        apply WP.region; simp [hl, h3, h4, h5, h6, h7, hca17, hc2, build22, hap2, hca19, hpl2, hca20, hsame2]
        apply WP.ret
        simp [hl, resultsA, resultA, single]
    · refine ⟨by simp [hl], by simp [hl, h3], by simp [hl, h4], by simp [hl, h5], by simp [hl, h6], by simp [hl], by simp [hl], by simp [hl], Keep.refl hk6.wf, 0, by omega, by omega, by simp [hl], F, rfl, hI⟩
  obtain ⟨_, h', h1, rfl⟩ := main
  exact ⟨h', h1⟩
end
end Go.Am

set_option linter.unusedSimpArgs false
namespace Go.Am

def sumI : List Int → Int
  | [] => 0
  | x :: xs => x + sumI xs
theorem sumI_append : ∀ (a b : List Int), sumI (a ++ b) = sumI a + sumI b
  | [], b => by simp [sumI]
  | x :: a, b => by simp only [List.cons_append, sumI, sumI_append a b]; omega
theorem sumI_set : ∀ (xs : List Int) (i : Nat) (x : Int), i < xs.length → sumI (xs.set i x) = sumI xs - at0 xs i + x
  | [], i, x, h => by simp at h
  | y :: xs, 0, x, h => by simp [sumI, at0]; omega
  | y :: xs, i + 1, x, h => by
    have := sumI_set xs i x (by simpa using h)
    have h2 : at0 (y :: xs) (i + 1) = at0 xs i := by simp [at0]
    simp only [List.set_cons_succ, sumI, this, h2]; omega
theorem sumI_le : ∀ (xs ys : List Int), xs.length = ys.length → (∀ i, i < xs.length → at0 xs i ≤ at0 ys i) → sumI xs ≤ sumI ys
  | [], [], _, _ => by simp [sumI]
  | [], _ :: _, h, _ => by simp at h
  | _ :: _, [], h, _ => by simp at h
  | x :: xs, y :: ys, hl, h => by
    have h0 := h 0 (by simp)
    have h1 := sumI_le xs ys (by simpa using hl) (fun i hi => by have := h (i + 1) (by simpa using hi); simpa [at0] using this)
    simp only [at0, List.getD_cons_zero] at h0
    simp only [sumI]; omega
theorem sumI_bound : ∀ (xs : List Int) (M : Int), (∀ x ∈ xs, 0 ≤ x ∧ x ≤ M) → 0 ≤ sumI xs ∧ sumI xs ≤ M * xs.length
  | [], M, _ => by simp [sumI]
  | x :: xs, M, h => by
    have h1 := h x List.mem_cons_self
    have h2 := sumI_bound xs M (fun y hy => h y (List.mem_cons_of_mem _ hy))
    have h3 : M * ((xs.length + 1 : Nat) : Int) = M * xs.length + M := by rw [Int.natCast_add, Int.mul_add]; simp
    simp only [sumI, List.length_cons, h3]
    omega
theorem at0_set_eq {xs : List Int} {i : Nat} {x : Int} (h : i < xs.length) : at0 (xs.set i x) i = x := by simp [at0, List.getD_eq_getElem?_getD, h]
theorem at0_set_ne {xs : List Int} {i j : Nat} {x : Int} (h : i ≠ j) : at0 (xs.set i x) j = at0 xs j := by
  simp only [at0, List.getD_eq_getElem?_getD]; rw [List.getElem?_set_ne h]

def jobs0 (ws : List Int) : List (Int × Int) := ws.map fun w => (0, w)
theorem jobs0_length (ws : List Int) : (jobs0 ws).length = ws.length := by simp [jobs0]
theorem jobs0_get {ws : List Int} {i : Nat} {w : Int} (h : ws[i]? = some w) : (jobs0 ws)[i]? = some (0, w) := by simp [jobs0, h]
def dec (ws : List Int) (x : Int) : List Int := ws.set x.toNat (at0 ws x.toNat - 1)
def leftK (ws out : List Int) : List Int := out.foldl dec ws
theorem leftK_snoc (ws out : List Int) (x : Int) : leftK ws (out ++ [x]) = dec (leftK ws out) x := by simp [leftK]
theorem leftK_length (ws : List Int) : ∀ out, (leftK ws out).length = ws.length := by
  intro out
  induction out generalizing ws with
  | nil => rfl
  | cons x out ih => simp only [leftK, List.foldl_cons] at ih ⊢; rw [ih]; simp [dec]

structure AllDone (ws : List Int) (s : PS) : Prop where
  len : s.cnt.length = ws.length
  cnt : ∀ i, 0 ≤ at0 s.cnt i ∧ at0 s.cnt i ≤ max (at0 ws i) 0
  sum : (s.out.length : Int) = sumI s.cnt
  left : ∀ i, at0 (leftK ws s.out) i = at0 ws i - at0 s.cnt i
  steps : ∀ (k : Nat) (x : Int), s.out[k]? = some x → ∃ a : Nat, x = a ∧ a < ws.length ∧ 1 ≤ at0 (leftK ws (s.out.take k)) a

theorem AllDone.start (ws picks : List Int) : AllDone ws (startP (jobs0 ws) picks) := by
  have h : ∀ n i, at0 (List.replicate n 0) i = 0 := by
    intro n i
    by_cases hi : i < n
    · simp [at0, List.getD_eq_getElem?_getD, hi]
    · simp [at0, List.getD_eq_getElem?_getD, hi]
  have hs : ∀ n, sumI (List.replicate n 0) = 0 := by
    intro n
    induction n with
    | zero => rfl
    | succ n ih => simp only [List.replicate_succ, sumI, ih]; rfl
  refine ⟨by simp [startP, jobs0], fun i => ?_, ?_, fun i => ?_, fun k x hx => by simp [startP] at hx⟩
  · simp only [startP, h]; omega
  · simp [startP, hs]
  · simp only [startP, h]; simp [leftK]
theorem readyAt0 {ws : List Int} {s : PS} {i : Nat} (hi : i < ws.length) : readyAt (jobs0 ws) s i = decide (at0 s.cnt i < at0 ws i) := by
  have hw : ws[i]? = some (at0 ws i) := at0_get hi
  rw [readyAt_eq (jobs0_get hw)]
  simp
theorem AllDone.move {ws : List Int} {b : Int} {s : PS} (hD : AllDone ws s) (hn : ¬ (nextS (jobs0 ws) b s).chosen < 0) : AllDone ws (moved s (nextS (jobs0 ws) b s)) := by
  obtain ⟨c, hc, hlt, hr⟩ := next_chosen_lt hn
  rw [jobs0_length] at hlt
  rw [readyAt0 hlt] at hr
  have hr : at0 s.cnt c < at0 ws c := by simpa using hr
  generalize nextS (jobs0 ws) b s = N at hc
  have hm : moved s N = ⟨N.picks, N.ages, N.last, s.cnt.set c (at0 s.cnt c + 1), s.out ++ [(c : Int)]⟩ := by simp only [moved, hc, Int.toNat_natCast]
  rw [hm]
  have hlc : c < s.cnt.length := by rw [hD.len]; exact hlt
  have hll : c < (leftK ws s.out).length := by rw [leftK_length]; exact hlt
  refine ⟨by simpa using hD.len, fun i => ?_, ?_, fun i => ?_, fun k x hx => ?_⟩
  · by_cases hi : c = i
    · subst hi
      have := hD.cnt c
      simp only [at0_set_eq hlc]; omega
    · simp only [at0_set_ne hi]; exact hD.cnt i
  · have := hD.sum
    simp only [List.length_append, List.length_singleton, sumI_set _ _ _ hlc]; omega
  · simp only [leftK_snoc, dec, Int.toNat_natCast]
    by_cases hi : c = i
    · subst hi
      have := hD.left c
      rw [at0_set_eq hll, at0_set_eq hlc]; omega
    · rw [at0_set_ne hi, at0_set_ne hi]; exact hD.left i
  · simp only at hx ⊢
    by_cases hk : k < s.out.length
    · rw [List.getElem?_append_left hk] at hx
      rw [List.take_append_of_le_length (by omega)]
      exact hD.steps k x hx
    · have hk' : k = s.out.length := by
        have := (List.getElem?_eq_some_iff.1 hx).1
        simp at this; omega
      subst hk'
      simp at hx
      refine ⟨c, hx.symm, hlt, ?_⟩
      rw [List.take_left]
      have := hD.left c
      omega
theorem playN_done {ws : List Int} {b : Int} : ∀ (n : Nat) (s : PS), AllDone ws s → AllDone ws (playN (jobs0 ws) b n s) ∧ ((nextS (jobs0 ws) b (playN (jobs0 ws) b n s)).chosen < 0 ∨ (playN (jobs0 ws) b n s).out.length = s.out.length + n)
  | 0, s, hD => ⟨hD, .inr rfl⟩
  | n + 1, s, hD => by
    simp only [playN]
    by_cases hc : (nextS (jobs0 ws) b s).chosen < 0
    · rw [if_pos hc]; exact ⟨hD, .inl hc⟩
    · rw [if_neg hc]
      obtain ⟨h1, h2⟩ := playN_done (b := b) n _ (hD.move hc)
      refine ⟨h1, h2.imp id fun h => ?_⟩
      rw [h]
      simp only [moved, List.length_append, List.length_singleton]
      omega
theorem none_ready {jobs : List (Int × Int)} {b : Int} {s : PS} (h : (nextS jobs b s).chosen < 0) {i : Nat} (hi : i < jobs.length) : readyAt jobs s i = false := by
  cases hr : readyAt jobs s i with
  | false => rfl
  | true =>
    have h1 := whoFrom_has (readyP jobs s) 0 i (by rw [readyP_get hi, hr])
    rcases next_spec s.picks b s.ages s.last (readyP jobs s) with ⟨he, _⟩ | ⟨c, hc, _⟩
    · rw [he] at h1; cases h1
    · have h : (nextP s.picks b s.ages s.last (readyP jobs s)).chosen < 0 := h
      omega
def sumPos (ws : List Int) : Int := sumI (ws.map (max · 0))
theorem at0_maxs (ws : List Int) (i : Nat) : at0 (ws.map (max · 0)) i = max (at0 ws i) 0 := by
  simp only [at0, List.getD_eq_getElem?_getD, List.getElem?_map]
  cases ws[i]? <;> simp
theorem play_done {ws picks : List Int} {b : Int} {n : Nat} (hn : sumPos ws < n) :
    ((playOut (jobs0 ws) picks b n).length : Int) = sumPos ws ∧ ∀ (k : Nat) (x : Int), (playOut (jobs0 ws) picks b n)[k]? = some x → ∃ a : Nat, x = a ∧ a < ws.length ∧ 1 ≤ at0 (leftK ws ((playOut (jobs0 ws) picks b n).take k)) a := by
  obtain ⟨hD, he⟩ := playN_done (b := max b 1) n _ (AllDone.start ws picks)
  have hF : (playN (jobs0 ws) (max b 1) n (startP (jobs0 ws) picks)).out = playOut (jobs0 ws) picks b n := by simp [playOut]
  generalize playN (jobs0 ws) (max b 1) n (startP (jobs0 ws) picks) = s at hD he hF
  rw [← hF]
  refine ⟨?_, hD.steps⟩
  have hle : sumI s.cnt ≤ sumPos ws := sumI_le _ _ (by simp [hD.len]) (fun i hi => by rw [at0_maxs]; exact (hD.cnt i).2)
  rcases he with he | he
  · have hge : sumPos ws ≤ sumI s.cnt := sumI_le _ _ (by simp [hD.len]) (fun i hi => by
      rw [at0_maxs]
      have hi : i < ws.length := by simpa using hi
      have h1 := none_ready he (i := i) (by rw [jobs0_length]; exact hi)
      rw [readyAt0 hi] at h1
      have h1 : ¬ at0 s.cnt i < at0 ws i := by simpa using h1
      have := hD.cnt i
      omega)
    have := hD.sum
    omega
  · have := hD.sum
    simp only [startP, List.length_nil] at he
    omega

/-- The work that counts: the first twenty, twenty at most. -/
def wsOf (l : List Int) : List Int := (l.take 20).map (min · 20)
theorem wsOf_snoc {l : List Int} {w : Int} : wsOf (l ++ [w]) = if l.length < 20 then wsOf l ++ [min w 20] else wsOf l := by
  unfold wsOf
  split
  · rename_i h
    rw [List.take_of_length_le (by simp; omega), List.take_of_length_le (by omega)]; simp
  · rename_i h
    rw [List.take_append_of_le_length (by omega)]
theorem wsOf_length (l : List Int) : (wsOf l).length ≤ 20 := by simp [wsOf]; omega
theorem sumPos_snoc (l : List Int) (w : Int) : sumPos (l ++ [w]) = sumPos l + max w 0 := by simp [sumPos, sumI_append, sumI]
theorem sumPos_le (l : List Int) : 0 ≤ sumPos (wsOf l) ∧ sumPos (wsOf l) ≤ 400 := by
  have h := sumI_bound ((wsOf l).map (max · 0)) 20 (by
    intro x hx
    simp only [wsOf, List.mem_map] at hx
    obtain ⟨y, ⟨z, _, rfl⟩, rfl⟩ := hx
    omega)
  have h2 := wsOf_length l
  simp only [List.length_map] at h
  unfold sumPos
  omega
end Go.Am

set_option linter.unusedSimpArgs false
namespace Go.Am
open Go.RowKit Go.Proofs

section
variable {ov : CallF}
/-- A worker's step: the log grows. -/
theorem stepX_ok (o47 : ∀ a h, ov 47 a h = none) {h : Heap} (hw : Wf h) {W L : Nat} (hWL : W ≠ L) {x y i c : Int} {dv n : AV} {xs : List Int} (hg : h.get W = some (.cells [.ptr (some ⟨L, 0⟩), .int .i64 x, .int .i64 y, .int .i64 i, .int .i64 c] .own)) (hL : h.get L = some (.cells [dv, n] .own)) (ha : Acc 0 h dv (ints xs))
    (hdx : ∀ j, idOf dv = some j → j ≠ W ∧ j ≠ L) (hn : xs.length ≤ 10000000) (hc : 0 ≤ c ∧ c ≤ 1000000000) :
    ∃ dv' h', callT ov Try.prog 47 [.ptr (some ⟨W, 0⟩)] h = some (.ret (.tuple []) h') ∧ h'.get W = some (.cells [.ptr (some ⟨L, 0⟩), .int .i64 x, .int .i64 y, .int .i64 i, .int .i64 (c + 1)] .own) ∧ h'.get L = some (.cells [dv', n] .own) ∧ Acc 0 h' dv' (ints (xs ++ [i])) ∧
      Keep (L :: W :: (idOf dv).toList) h h' ∧ (∀ j, idOf dv' = some j → h.next ≤ j) := by
  have hWn := hw _ _ hg
  have hLn := hw _ _ hL
  have hst1 : storeA Try.prog h 3 ⟨W, 4⟩ (.int .i64 (c + 1)) = some (h.set W (.cells [.ptr (some ⟨L, 0⟩), .int .i64 x, .int .i64 y, .int .i64 i, .int .i64 (c + 1)] .own)) := store_cell s3 rfl rfl hg (by simp) (by simp)
  have hl4 : loadA Try.prog h 3 ⟨W, 4⟩ = some (.int .i64 c) := load_cell a3 hg rfl
  have hk1 := (Keep.refl (ex := [W]) hw).set (.cells [.ptr (some ⟨L, 0⟩), .int .i64 x, .int .i64 y, .int .i64 i, .int .i64 (c + 1)] .own) hWn (.inl (List.mem_singleton.2 rfl))
  have hg1 := Heap.get_set h W (.cells [.ptr (some ⟨L, 0⟩), .int .i64 x, .int .i64 y, .int .i64 i, .int .i64 (c + 1)] .own)
  generalize h.set W (.cells [.ptr (some ⟨L, 0⟩), .int .i64 x, .int .i64 y, .int .i64 i, .int .i64 (c + 1)] .own) = g1 at hst1 hk1 hg1
  have hL1 := hk1.get _ _ hL (by simp; omega)
  have ha1 := ha.keep2 hk1 (fun j hj hm => (hdx j hj).1 (by simpa using hm))
  have hk1l := hk1.le
  -- the appended one
  have hbs := build22_i (h := g1) (k := .i64) (n := i)
  have hk2 := (Keep.refl (ex := []) hk1.wf).alloc (.cells [.int .i64 i] .own)
  have hg2 := Heap.get_alloc g1 (.cells [.int .i64 i] .own)
  generalize g1.alloc (.cells [.int .i64 i] .own) = g2 at hbs hk2 hg2
  have hW2 := hk2.get _ _ hg1 (by simp)
  have hL2 := hk2.get _ _ hL1 (by simp)
  have ha2 := ha1.keep2 hk2 (by simp)
  have hk2l := hk2.le
  have hsl : Sl g2 (.slice (some ⟨g1.next, 0⟩) 1 (.exact 1)) [.int .i64 i] := ⟨⟨rfl, by simp [capOk]⟩, .inr ⟨_, .own, hg2, by simp, rfl⟩⟩
  have hdn : ∀ j, j ∈ (idOf dv).toList → j ≠ W ∧ j ≠ L := fun j hj => hdx j (by simpa using hj)
  obtain ⟨dv', g3, hap, ha3, hk3, hid3⟩ := ha2.pushX (P := Try.prog) (ex := (idOf dv).toList) hk2.wf (by simp) (by omega) u22 s3 (room3 (by simp; omega)) hsl rfl
  have hW3 := hk3.get _ _ hW2 (fun hm => by have := hdn _ hm; simp at this)
  have hL3 := hk3.get _ _ hL2 (fun hm => by have := hdn _ hm; simp at this)
  have hk3l := hk3.le
  have ha3s := ha3.sl
  have hdok := sl_cellOk ha3s
  obtain ⟨dl, dc, hdvs⟩ := ha3s.slice
  have hst4 : storeA Try.prog g3 22 ⟨L, 0⟩ dv' = some (g3.set L (.cells [dv', n] .own)) := store_cell s22 (by rw [hdvs]; rfl) hdok hL3 (by simp) (by simp)
  have hk4 := (Keep.refl (ex := [L]) hk3.wf).set (.cells [dv', n] .own) (hk3.wf _ _ hL3) (.inl (List.mem_singleton.2 rfl))
  have hg4 := Heap.get_set g3 L (.cells [dv', n] .own)
  generalize g3.set L (.cells [dv', n] .own) = g4 at hst4 hk4 hg4
  have hW4 := hk4.get _ _ hW3 (by simp; omega)
  have ha4 := ha3.keep2 hk4 (fun j hj hm => by have := hid3 j hj; simp only [List.mem_singleton] at hm; omega)
  have hk := (hk1.more (ex' := L :: W :: (idOf dv).toList) (by simp)).trans ((hk2.more (by simp)).trans ((hk3.more (fun j hj => .inl (List.mem_cons_of_mem _ (List.mem_cons_of_mem _ hj)))).trans (hk4.more (by simp))))
  have hints : ints xs ++ [.int .i64 i] = ints (xs ++ [i]) := by simp [ints]
  rw [hints] at ha4
  refine ⟨dv', g4, ?_, hW4, hg4, ha4, hk, fun j hj => by have := hid3 j hj; omega⟩
  have main : ∃ r g, callT ov Try.prog 47 [.ptr (some ⟨W, 0⟩)] h = some (.ret r g) ∧ r = .tuple [] ∧ g = g4 := by
    refine callT_wp (fn := Try.f47) (o47 _ _) (by kernel_rfl) rfl ?_
    have hl : (frameA Try.f47 [.ptr (some ⟨W, 0⟩)]).length = 28 := frameA_length (Nat.le_of_ble_eq_true rfl)
    have h0 : nth (frameA Try.f47 [.ptr (some ⟨W, 0⟩)]) 0 = .ptr (some ⟨W, 0⟩) := frameA_nth (Nat.le_of_ble_eq_true rfl)
    generalize frameA Try.f47 [.ptr (some ⟨W, 0⟩)] = e at hl h0
    have hlW1 : loadA Try.prog g1 51 ⟨W, 0⟩ = some (.ptr (some ⟨L, 0⟩)) := load_cell a51 hg1 rfl
    have hlW2 : loadA Try.prog g2 51 ⟨W, 0⟩ = some (.ptr (some ⟨L, 0⟩)) := load_cell a51 hW2 rfl
    have hlW3 : loadA Try.prog g3 51 ⟨W, 0⟩ = some (.ptr (some ⟨L, 0⟩)) := load_cell a51 hW3 rfl
    have hlL1 : loadA Try.prog g1 22 ⟨L, 0⟩ = some dv := load_cell a22 hL1 rfl
    have hlL2 : loadA Try.prog g2 22 ⟨L, 0⟩ = some dv := load_cell a22 hL2 rfl
    have hli1 : loadA Try.prog g1 3 ⟨W, 3⟩ = some (.int .i64 i) := load_cell a3 hg1 rfl
    have hli2 : loadA Try.prog g2 3 ⟨W, 3⟩ = some (.int .i64 i) := load_cell a3 hW2 rfl
    repeat apply WP.seq
    apply WP.region; simp [hl, h0, fa71, hl4, wrap_small (show -9223372036854775808 ≤ c + 1 by omega) (by omega), storeR_ptr hst1]
    refine WP.drawDyn (by kernel_rfl) (dynOk_tw (pl := [(3, 15), (3, 16), (3, 19), (7, 15), (7, 16), (10, 15), (10, 16), (14, 15)]) (by kernel_rfl) ?_) ?_
    · simp [hl, h0, fa71, fa68, hlW1, hlW2, hlW3, hlL1, hlL2, hli1, hli2, hbs, hap, storeR_ptr hst4, loadSame]
    · simp [hl, h0, fa71, fa68, hlW1, hlW2, hlW3, hlL1, hlL2, hli1, hli2, hbs, hap, storeR_ptr hst4, resultsA, single]
  obtain ⟨_, _, h1, rfl, rfl⟩ := main
  exact h1
/-- What a run comes to. -/
def Ran' (_ov : CallF) (h : Heap) (_av : AV) (Ws : List Nat) (jobs : List (Int × Int)) (L C : Nat) (s0 : PS) (dv0 m : AV) (b : Int) (B0 : Nat) (steps : Int) (h' : Heap) (sF : PS) (dv' : AV) (d : Nat) : Prop :=
  d ≤ steps.toNat ∧ sF.out.length = s0.out.length + d ∧ (∀ k, (playN jobs b k sF).out = (playN jobs b (steps.toNat + k) s0).out) ∧ (d < steps.toNat → ∀ k, (playN jobs b k sF).out = sF.out) ∧ h'.get L = some (.cells [dv', m] .own) ∧ Acc 0 h' dv' (ints sF.out) ∧ WkAt h' L Ws jobs sF.cnt ∧ ChXs ((idOf dv').toList ++ (L :: Ws)) h' C sF.picks b sF.ages sF.last ∧
    (∀ a ∈ sF.ages, 0 ≤ a ∧ a ≤ ((B0 + d + 1 : Nat) : Int)) ∧ (∀ a ∈ sF.cnt, 0 ≤ a ∧ a ≤ (sF.out.length : Int)) ∧ sF.cnt.length = jobs.length ∧ (∀ j, idOf dv' = some j → idOf dv0 = some j ∨ h.next ≤ j) ∧ Keep (C :: L :: ((idOf dv0).toList ++ Ws)) h h'
theorem none_stays {jobs : List (Int × Int)} {b : Int} {s : PS} (h : (nextS jobs b s).chosen < 0) (picks ages : List Int) (last : Int) (k : Nat) : (playN jobs b k ⟨picks, ages, last, s.cnt, s.out⟩).out = s.out := by
  have hn : (nextS jobs b ⟨picks, ages, last, s.cnt, s.out⟩).chosen < 0 := by
    by_cases hc : (nextS jobs b ⟨picks, ages, last, s.cnt, s.out⟩).chosen < 0
    · exact hc
    · obtain ⟨c, _, h2, h3⟩ := next_chosen_lt hc
      have := none_ready h h2
      have h4 : readyAt jobs ⟨picks, ages, last, s.cnt, s.out⟩ c = readyAt jobs s c := rfl
      rw [h4, this] at h3
      cases h3
  rw [playN_stop hn]

set_option maxHeartbeats 4000000 in
theorem runG_ok (O : OvOk ov) (o24 : ∀ a h, ov 24 a h = none) (o46 : ∀ a h, ov 46 a h = none) (o47 : ∀ a h, ov 47 a h = none) {h : Heap} (hw : Wf h) {av : AV} {Ws : List Nat} {jobs : List (Int × Int)} (hlen : Ws.length = jobs.length) (hnd : ∀ i j W : Nat, Ws[i]? = some W → Ws[j]? = some W → i = j) (hjn : jobs.length ≤ 1000000)
    {L C : Nat} (hav : Sl h av (acts Ws)) (hLW : L ∉ Ws) (hCW : C ∉ Ws) (hCL : C ≠ L) {s0 : PS} {dv0 : AV} (havx : Ws ≠ [] → ∀ j, idOf av = some j → j ∉ C :: L :: ((idOf dv0).toList ++ Ws)) {m : AV} (hL : h.get L = some (.cells [dv0, m] .own)) (hdx : ∀ j, idOf dv0 = some j → j ≠ C ∧ j ≠ L ∧ j ∉ Ws) (hda : Acc 0 h dv0 (ints s0.out)) {b : Int} (hWk : WkAt h L Ws jobs s0.cnt)
    (hC : ChXs ((idOf dv0).toList ++ (L :: Ws)) h C s0.picks b s0.ages s0.last) (hWn : ∀ W ∈ Ws, W < h.next) {B0 : Nat} (hB0 : B0 ≤ 2000000) (hol0 : s0.out.length ≤ 2000000) (haok0 : ∀ a ∈ s0.ages, 0 ≤ a ∧ a ≤ (B0 : Int)) (hcok0 : ∀ a ∈ s0.cnt, 0 ≤ a ∧ a ≤ (s0.out.length : Int)) (hcl0 : s0.cnt.length = jobs.length) (steps : Int) (hst : steps ≤ 1000000) (hst' : -9223372036854775808 ≤ steps) :
    ∃ (h' : Heap) (sF : PS) (dv' : AV) (d : Nat), callT ov Try.prog 24 [av, .ptr (some ⟨C, 0⟩), .int .i64 steps] h = some (.ret (.int .i64 (d : Nat)) h') ∧ Ran' ov h av Ws jobs L C s0 dv0 m b B0 steps h' sF dv' d := by
  have main : ∃ u h', callT ov Try.prog 24 [av, .ptr (some ⟨C, 0⟩), .int .i64 steps] h = some (.ret u h') ∧ ∃ (sF : PS) (dv' : AV) (d : Nat), u = .int .i64 (d : Nat) ∧ Ran' ov h av Ws jobs L C s0 dv0 m b B0 steps h' sF dv' d := by
    refine callT_wp (fn := Try.f24) (o24 _ _) (by kernel_rfl) rfl ?_
    have hl : (frameA Try.f24 [av, .ptr (some ⟨C, 0⟩), .int .i64 steps]).length = 50 := frameA_length (Nat.le_of_ble_eq_true rfl)
    have h0 : nth (frameA Try.f24 [av, .ptr (some ⟨C, 0⟩), .int .i64 steps]) 0 = av := frameA_nth (Nat.le_of_ble_eq_true rfl)
    have h1 : nth (frameA Try.f24 [av, .ptr (some ⟨C, 0⟩), .int .i64 steps]) 1 = .ptr (some ⟨C, 0⟩) := frameA_nth (Nat.le_of_ble_eq_true rfl)
    have h2 : nth (frameA Try.f24 [av, .ptr (some ⟨C, 0⟩), .int .i64 steps]) 2 = .int .i64 steps := frameA_nth (Nat.le_of_ble_eq_true rfl)
    generalize frameA Try.f24 [av, .ptr (some ⟨C, 0⟩), .int .i64 steps] = e at hl h0 h1 h2
    have hca14 : ∀ args h, callA (callT ov Try.prog) Try.prog h 14 args = callT ov Try.prog 14 args h := fun args h => callA_of (fn := Try.f14) (by kernel_rfl) rfl
    have hca46 : ∀ args h, callA (callT ov Try.prog) Try.prog h 46 args = callT ov Try.prog 46 args h := fun args h => callA_of (fn := Try.f46) (by kernel_rfl) rfl
    have hca47 : ∀ args h, callA (callT ov Try.prog) Try.prog h 47 args = callT ov Try.prog 47 args h := fun args h => callA_of (fn := Try.f47) (by kernel_rfl) rfl
    have hacl : (acts Ws).length = jobs.length := by simp [acts, hlen]
    have hlena : ∀ h, lenA Try.prog h 54 av = some (.int .i64 (jobs.length : Nat)) := by
      intro h; obtain ⟨l, c, rfl⟩ := hav.slice; rw [hacl]; exact lenA_slice (P := Try.prog) u54
    have hLn := hw _ _ hL
    have hCn := hC.ch.lt hw
    repeat apply WP.seq
    apply WP.region; simp [hl]
    repeat apply WP.seq
    have hmk : makeSliceA Try.prog h 31 (.int .i64 (jobs.length : Nat)) (.int .i64 (jobs.length : Nat)) = _ := make31 (by omega)
    have hk1 := (Keep.refl (ex := []) hw).alloc (.cells (List.replicate jobs.length (.bool false)) .own)
    have hg1 := Heap.get_alloc h (.cells (List.replicate jobs.length (.bool false)) .own)
    have hCX1 := (hC.cons hw (Nat.le_refl h.next)).keep0 hk1
    generalize h.alloc (.cells (List.replicate jobs.length (.bool false)) .own) = g1 at hmk hk1 hg1 hCX1
    have hown1 : Own g1 (.slice (some ⟨h.next, 0⟩) jobs.length (.exact jobs.length)) h.next (bools (List.replicate jobs.length false)) := ⟨.exact jobs.length, ⟨by simp, by simp [capOk]⟩, by rw [hg1]; simp [bools]⟩
    generalize AV.slice (some ⟨h.next, 0⟩) jobs.length (.exact jobs.length) = rv at hmk hown1
    have hRh : h.next ≤ h.next := Nat.le_refl _
    have hR1 := hk1.wf _ _ hg1
    have hlenr : ∀ g, lenA Try.prog g 31 rv = some (.int .i64 (jobs.length : Nat)) := by
      intro g; obtain ⟨l, c, rfl⟩ := hown1.sl.slice; simpa using lenA_slice (P := Try.prog) u31
    have hne : (⟨h.next, 0⟩ : Loc).id = h.next := rfl
    obtain ⟨R, hRd⟩ : ∃ R, R = h.next := ⟨_, rfl⟩
    rw [← hRd] at hown1 hR1 hCX1
    have hRh' : h.next ≤ R := by omega
    apply WP.region; simp [hl, h0, hlena, hmk]
    repeat apply WP.seq
    apply WP.region; simp [hl]
    have hgL1 := hk1.get _ _ hL (by simp)
    have hWk1 := hWk.keep hk1 (by simp)
    have hda1 := hda.keep2 hk1 (by simp)
    have hd0n := fun j (hj : idOf dv0 = some j) => hda.lt hw hj
    have hE0 : ∀ j, j ∈ (idOf dv0).toList → idOf dv0 = some j := fun j hj => by simpa using hj
    have hRC : R ≠ C ∧ R ≠ L ∧ R ∉ Ws := ⟨by omega, by omega, fun hm => by have := hWn R hm; omega⟩
    have hvx : ∀ W ∈ Ws, W ≠ L ∧ W ≠ C := fun W hW => ⟨fun h => hLW (h ▸ hW), fun h => hCW (h ▸ hW)⟩
    apply WP.block
    refine WP.loop (fun k e g' => e.length = 50 ∧ nth e 0 = av ∧ nth e 1 = .ptr (some ⟨C, 0⟩) ∧ nth e 2 = .int .i64 steps ∧ nth e 7 = rv ∧ Keep (C :: L :: ((idOf dv0).toList ++ Ws)) h g' ∧ R < g'.next ∧ ∃ (s : PS) (dv : AV) (old : List Bool) (d : Nat), k = steps.toNat - d ∧ nth e 8 = .int .i64 (d : Nat) ∧ d ≤ steps.toNat ∧ s.out.length = s0.out.length + d ∧ (∀ k, (playN jobs b (steps.toNat - d + k) s).out = (playN jobs b (steps.toNat + k) s0).out) ∧
      (∀ a ∈ s.ages, 0 ≤ a ∧ a ≤ ((B0 + d : Nat) : Int)) ∧ (∀ a ∈ s.cnt, 0 ≤ a ∧ a ≤ (s.out.length : Int)) ∧ s.cnt.length = jobs.length ∧ old.length = jobs.length ∧ Own g' rv R (bools old) ∧ Acc 0 g' dv (ints s.out) ∧ idOf dv ≠ some R ∧ (∀ j, idOf dv = some j → idOf dv0 = some j ∨ h.next ≤ j) ∧
      g'.get L = some (.cells [dv, m] .own) ∧ WkAt g' L Ws jobs s.cnt ∧ ChXs (R :: ((idOf dv).toList ++ (L :: Ws))) g' C s.picks b s.ages s.last) ?_ steps.toNat _ _ ?_
    · rintro k e g' ⟨hl, h0, h1, h2, h7, hkg, hRg, s, dv, old, d, rfl, h8, hol, hod, hF, haok, hcok, hcl, hold, hown, hacc, hdR, hdg, hgL, hwk, hCX⟩
      have hlh := hkg.le
      have hwf' := hkg.wf
      have hdlt := fun j (hj : idOf dv = some j) => hacc.lt hwf' hj
      have hdge : ∀ j, idOf dv = some j → j ≠ C ∧ j ≠ L ∧ j ∉ Ws := fun j hj => by
        rcases hdg j hj with h1 | h1
        · exact hdx j h1
        · exact ⟨by omega, by omega, fun hm => by have := hWn j hm; omega⟩
      have hmem : ∀ j, j ∈ (idOf dv).toList → idOf dv = some j := fun j hj => by simpa using hj
      have hav' : Sl g' av (acts Ws) := hav.keep' hkg (fun hne j hj => havx (by intro hh; apply hne; rw [hh]; rfl) j hj)
      have havR : acts Ws ≠ [] → ∀ j, idOf av = some j → j < h.next := fun hne j hj => hav.lt hw hne hj
      repeat apply WP.seq
      apply WP.block
      repeat apply WP.seq
      apply WP.region; simp [hl, h2, h8]
      repeat apply WP.seq
      apply WP.cond (by simp [hl]; rfl)
      · intro hge
        have hge : steps ≤ (d : Int) := by simpa using hge
        have hz : steps.toNat - d = 0 := by omega
        rw [hz] at hF
        simp only [Nat.zero_add] at hF
        repeat apply WP.seq
        apply WP.region; simp [hl, h8]
        apply WP.ret
        simp [hl, resultsA, resultA, single]
        exact ⟨s, dv, d, rfl, hol, hod, hF, fun hlt => by omega, hgL, hacc, hwk, hCX.less (fun i hi => List.mem_cons_of_mem _ hi), fun a ha => by have := haok a ha; omega, hcok, hcl, hdg, hkg⟩
      · intro hlt1
        have hlt1 : (d : Int) < steps := by simpa using hlt1
        apply WP.skip; simp
        repeat apply WP.seq
        apply WP.region; simp [hl, h0, hlena]
        repeat apply WP.seq
        apply WP.block
        have hrl := readyP_length jobs s
        refine WP.loop (fun k e g2 => e.length = 50 ∧ nth e 0 = av ∧ nth e 1 = .ptr (some ⟨C, 0⟩) ∧ nth e 2 = .int .i64 steps ∧ nth e 7 = rv ∧ nth e 8 = .int .i64 (d : Nat) ∧ nth e 23 = av ∧ nth e 24 = .int .i64 jobs.length ∧ Keep [R] g' g2 ∧ ∃ i, i ≤ jobs.length ∧ k = jobs.length - i ∧ nth e 25 = .int .i64 (i : Nat) ∧ Own g2 rv R (bools ((readyP jobs s).take i ++ old.drop i))) ?_ jobs.length _ _ ?_
        · rintro k e g2 ⟨hl, h0, h1, h2, h7, h8, h23, h24, hk2, i, hi, rfl, h25, hown2⟩
          have hav2 : Sl g2 av (acts Ws) := hav'.keep' hk2 (fun hne j hj hm => by
            have := havR hne j hj
            simp only [List.mem_singleton] at hm
            omega)
          have hgL2 := hk2.get _ _ hgL (by simp only [List.mem_singleton]; exact fun h => hRC.2.1 h.symm)
          have hwk2 := hwk.keep hk2 (fun W hW hm => by
            simp only [List.mem_singleton] at hm
            exact hRC.2.2 (hm ▸ hW))
          have hacc2 := hacc.keep2 hk2 (fun j hj hm => by
            simp only [List.mem_singleton] at hm
            exact hdR (hm ▸ hj))
          repeat apply WP.seq
          apply WP.region; simp [hl, h24, h25]
          repeat apply WP.seq
          apply WP.cond (by simp [hl]; rfl)
          · intro hlt2
            have hlt2 : i < jobs.length := by simpa using hlt2
            apply WP.skip; simp
            repeat apply WP.seq
            apply WP.block
            repeat apply WP.seq
            have hji : jobs[i]? = some jobs[i] := List.getElem?_eq_getElem hlt2
            generalize jobs[i] = j at hji
            obtain ⟨W, hWi⟩ : ∃ W, Ws[i]? = some W := ⟨Ws[i]'(by omega), by simp⟩
            obtain ⟨l1, hl1, hl1', _⟩ := hav2.at (P := Try.prog) u54 s56 a56 (acts_get hWi) (k := .i64)
            have hrdy := ready_ok o46 (hwk2 i W j hWi hji) hgL2 hacc2.sl
            rw [← readyAt_eq (s := s) hji] at hrdy
            have hmb := mixB_set (old := old) (by rw [hrl, hold]) (readyP_get (s := s) hlt2)
            have hml : ((readyP jobs s).take i ++ old.drop i).length = jobs.length := by simp [hrl, hold]; omega
            have hka := hown2.addr (P := Try.prog) u31 s4 (i := i) (by rw [bools_length, hml]; exact hlt2) (k := .i64)
            obtain ⟨hst3, hown3⟩ := hown2.store (P := Try.prog) s4 (i := i) (by rw [bools_length, hml]; exact hlt2) (x := .bool (readyAt jobs s i)) rfl rfl
            rw [bools_set, hmb] at hst3 hown3
            have hR2 := hk2.wf _ _ hown2.choose_spec.2
            have hk3 := hk2.set (i := R) (.cells (bools ((readyP jobs s).take (i + 1) ++ old.drop (i + 1))) .own) hR2 (.inl (by simp))
            apply WP.region; simp [hl, h23, h25, hl1, hl1']
            apply WP.region; simp [hl, h7, op_invoke, invR_iface meth69.1, hca46, hrdy, hka, storeR_ptr hst3]
            apply WP.region; simp [hl, h25, int_wrap (show i < 9223372036854775807 by omega)]
            exact ⟨jobs.length - (i + 1), by omega, h0, h1, h2, h7, h8, h23, h24, hk3, i + 1, by omega, rfl, by simp, hown3⟩
          · intro hge
            have hge : ¬ i < jobs.length := by simpa using hge
            apply WP.exit
            simp
            have hrt : (readyP jobs s).take i ++ old.drop i = readyP jobs s := by
              rw [List.take_of_length_le (by omega), List.drop_eq_nil_of_le (by omega), List.append_nil]
            rw [hrt] at hown2
            have hk2l := hk2.le
            have hCX2 := hCX.keep hk2 (by simp) (by simp only [List.mem_singleton]; exact fun h => hRC.1 h.symm)
            obtain ⟨g3, hcall3, hCX3, hk3⟩ := next_okXs O hk2.wf (fun A hA => by
              rcases List.mem_cons.1 hA with h1 | h1
              · omega
              · rcases List.mem_append.1 h1 with h1 | h1
                · have := hdlt A (hmem A h1); omega
                · rcases List.mem_cons.1 h1 with h1 | h1
                  · omega
                  · have := hWn A h1; omega) hCX2 hown2.sl (by rw [hown2.id]; simp; exact hRC.1) (by omega) (fun a ha => by have := haok a ha; omega)
            have hchl := fun (_ : Unit) h => next_chosen_lt (jobs := jobs) (b := b) (s := s) h
            have hstop := fun h => playN_stop (jobs := jobs) (b := b) (s := s) h
            have hpos : ∀ k, 0 < steps.toNat - d + k := fun k => by omega
            have hgo : ∀ k, ¬ (nextS jobs b s).chosen < 0 → playN jobs b (steps.toNat - d + k) s = playN jobs b (steps.toNat - d + k - 1) (moved s (nextS jobs b s)) := fun k h => playN_go h (hpos k)
            have hstay : (nextS jobs b s).chosen < 0 → ∀ k, (playN jobs b k ⟨(nextS jobs b s).picks, (nextS jobs b s).ages, (nextS jobs b s).last, s.cnt, s.out⟩).out = s.out := fun h k => none_stays h _ _ _ k
            have hokN : ∀ a ∈ (nextP s.picks b s.ages s.last (readyP jobs s)).ages, 0 ≤ a ∧ a ≤ ((B0 + d : Nat) : Int) + 1 := by
              rw [nextP_ages]
              exact newAges_ok (by omega) (at0_le (by omega) (agesFor_le (by omega) haok (readyP jobs s).length))
            have hNS : nextS jobs b s = nextP s.picks b s.ages s.last (readyP jobs s) := rfl
            rw [← hNS] at hcall3 hCX3 hokN
            generalize nextS jobs b s = N at hcall3 hCX3 hokN hchl hstop hgo hstay
            have hgL3 := hk3.get _ _ hgL2 (by simp only [List.mem_singleton]; exact fun h => hCL h.symm)
            have hwk3 := hwk2.keep hk3 (fun W hW hm => by
              simp only [List.mem_singleton] at hm
              exact hCW (hm ▸ hW))
            have hacc3 := hacc2.keep2 hk3 (fun j hj hm => by
              have := hdge j hj
              simp only [List.mem_singleton] at hm
              exact this.1 hm)
            have hown3 := hown2.keep hk3 (by simp only [List.mem_singleton]; exact hRC.1)
            have hav3 : Sl g3 av (acts Ws) := hav2.keep' hk3 (fun hne j hj hm => havx (by intro hh; apply hne; rw [hh]; rfl) j hj (by simp at hm; simp [hm]))
            have hk3l := hk3.le
            have hkE : Keep (C :: L :: R :: ((idOf dv).toList ++ ((idOf dv0).toList ++ Ws))) h g3 := (hkg.more (fun j hj => .inl (by simp only [List.mem_cons, List.mem_append] at hj ⊢; rcases hj with h | h | h | h <;> simp [h]))).trans ((hk2.more (by simp)).trans (hk3.more (by simp)))
            have hEm : ∀ j, j ∈ C :: L :: R :: ((idOf dv).toList ++ ((idOf dv0).toList ++ Ws)) → j ∈ C :: L :: ((idOf dv0).toList ++ Ws) ∨ h.next ≤ j := by
              intro j hj
              simp only [List.mem_cons, List.mem_append] at hj ⊢
              rcases hj with h | h | h | h | h | h
              · simp [h]
              · simp [h]
              · right; omega
              · rcases hdg j (hmem j h) with h1 | h1
                · simp [h1]
                · exact .inr h1
              · simp [h]
              · simp [h]
            repeat apply WP.seq
            apply WP.region; simp [hl, h1, h7, hca14, hcall3, extractA]
            repeat apply WP.seq
            apply WP.region; simp [hl]
            repeat apply WP.seq
            apply WP.cond (t := !decide (0 ≤ N.chosen)) (by simp [hl])
            · intro hc
              have hc : N.chosen < 0 := by simpa using hc
              have hF' := fun k => hstop hc (steps.toNat - d + k)
              repeat apply WP.seq
              apply WP.region; simp [hl, h8]
              apply WP.ret
              simp [hl, resultsA, resultA, single]
              refine ⟨⟨N.picks, N.ages, N.last, s.cnt, s.out⟩, dv, d, rfl, hol, hod, fun k => ?_, fun _ k => hstay hc k, hgL3, hacc3, hwk3, hCX3.less (fun i hi => List.mem_cons_of_mem _ hi), fun a ha => by have := hokN a ha; omega, hcok, hcl, hdg, hkE.more hEm⟩
              rw [← hF k, hF' k]
              exact hstay hc k
            · intro hc
              have hc : ¬ N.chosen < 0 := by simpa using hc
              obtain ⟨c, hNc, hcj, hrc⟩ := hchl () hc
              have hF' := fun k => hgo k hc
              have hjc : jobs[c]? = some jobs[c] := List.getElem?_eq_getElem hcj
              generalize jobs[c] = j at hjc
              obtain ⟨W, hWi⟩ : ∃ W, Ws[c]? = some W := ⟨Ws[c]'(by omega), by simp⟩
              have hWm := List.mem_of_getElem? hWi
              have hWh := hWn W hWm
              have hcle := at0_nonneg hcok (by omega) c
              obtain ⟨l1, hl1, hl1', _⟩ := hav3.at (P := Try.prog) u54 s56 a56 (acts_get hWi) (k := .i64)
              obtain ⟨dv4, g4, hstep, hW4, hL4, hacc4, hk4, hid4⟩ := stepX_ok o47 hk3.wf (hvx W hWm).1 (hwk3 c W j hWi hjc) hgL3 hacc3 (fun j hj => ⟨fun hh => (hdge j hj).2.2 (hh ▸ hWm), (hdge j hj).2.1⟩) (by omega) (by omega)
              have hmx : max N.chosen 0 = (c : Int) := by omega
              have hk4l := hk4.le
              have hX : ∀ A, A ∈ L :: W :: (idOf dv).toList → A = L ∨ A = W ∨ idOf dv = some A := by
                intro A hA
                rcases List.mem_cons.1 hA with h1 | h1
                · exact .inl h1
                · rcases List.mem_cons.1 h1 with h1 | h1
                  · exact .inr (.inl h1)
                  · exact .inr (.inr (hmem A h1))
              have hown4 := hown3.keep hk4 (fun hm => by
                rcases hX R hm with h1 | h1 | h1
                · exact hRC.2.1 h1
                · exact hRC.2.2 (h1 ▸ hWm)
                · exact hdR h1)
              have hwk4 : WkAt g4 L Ws jobs (s.cnt.set c (at0 s.cnt c + 1)) := by
                intro i' W' j' hWi' hji'
                by_cases hic : i' = c
                · subst hic
                  rw [hWi] at hWi'; rw [hjc] at hji'
                  cases hWi'; cases hji'
                  have : at0 (s.cnt.set i' (at0 s.cnt i' + 1)) i' = at0 s.cnt i' + 1 := by simp [at0, List.getD_eq_getElem?_getD, hcl, hcj]
                  rw [this]
                  exact hW4
                · have hWne : W' ≠ W := fun hh => hic (hnd i' c W (hh ▸ hWi') hWi)
                  have : at0 (s.cnt.set c (at0 s.cnt c + 1)) i' = at0 s.cnt i' := by
                    simp only [at0, List.getD_eq_getElem?_getD]
                    rw [List.getElem?_set_ne (fun hh => hic hh.symm)]
                  rw [this]
                  have hWm' := List.mem_of_getElem? hWi'
                  exact hk4.get _ _ (hwk3 i' W' j' hWi' hji') (fun hm => by
                    rcases hX W' hm with h1 | h1 | h1
                    · exact (hvx W' hWm').1 h1
                    · exact hWne h1
                    · exact (hdge W' h1).2.2 hWm')
              have hCX4 : ChXs (R :: ((idOf dv4).toList ++ (L :: Ws))) g4 C N.picks b N.ages N.last := by
                refine ((hCX3.fresh hk3.wf (ex' := (idOf dv4).toList) (fun A hA => hid4 A (by simpa using hA))).keep hk4 ?_ ?_).less ?_
                · intro A hA
                  simp only [List.mem_append, List.mem_cons]
                  rcases hX A hA with h1 | h1 | h1
                  · simp [h1]
                  · simp [h1, hWm]
                  · simp [h1]
                · intro hm
                  rcases hX C hm with h1 | h1 | h1
                  · exact hCL h1
                  · exact hCW (h1 ▸ hWm)
                  · exact (hdge C h1).1 rfl
                · intro A hA
                  simp only [List.mem_append, List.mem_cons] at hA ⊢
                  rcases hA with h1 | h1 | h1 | h1
                  · simp [h1]
                  · simp [h1]
                  · simp [h1]
                  · simp [h1]
              have hkf : Keep (C :: L :: ((idOf dv0).toList ++ Ws)) h g4 := (hkE.trans (hk4.more (fun A hA => .inl (by
                simp only [List.mem_append, List.mem_cons]
                rcases hX A hA with h1 | h1 | h1
                · simp [h1]
                · simp [h1, hWm]
                · simp [h1])))).more hEm
              apply WP.skip; simp
              apply WP.region; simp [hl, h0, hmx, hl1, hl1', op_invoke, invR_iface meth69.2, hca47, hstep]
              apply WP.region; simp [hl, h8, int_wrap (show d < 9223372036854775807 by omega)]
              have hm : moved s N = ⟨N.picks, N.ages, N.last, s.cnt.set c (at0 s.cnt c + 1), s.out ++ [N.chosen]⟩ := by simp only [moved, hNc, Int.toNat_natCast]
              have hF2 : ∀ k, (playN jobs b (steps.toNat - (d + 1) + k) (moved s N)).out = (playN jobs b (steps.toNat + k) s0).out := fun k => by
                rw [← hF k, hF' k]
                have : steps.toNat - (d + 1) + k = steps.toNat - d + k - 1 := by omega
                rw [this]
              rw [hm] at hF2
              rw [← hNc] at hacc4
              refine ⟨steps.toNat - (d + 1), by omega, h0, h1, h2, h7, hkf, by omega, ⟨N.picks, N.ages, N.last, s.cnt.set c (at0 s.cnt c + 1), s.out ++ [N.chosen]⟩, dv4, readyP jobs s, d + 1, rfl, by simp, by omega, by simp; omega, hF2, ?_, ?_, by simpa using hcl, hrl, hown4, hacc4, ?_, ?_, hL4, hwk4, hCX4⟩
              · intro a ha
                have := hokN a ha
                omega
              · intro a ha
                have := set_le hcok (i := c) (x := at0 s.cnt c + 1) (by omega) a ha
                simp only [List.length_append, List.length_singleton]
                omega
              · intro hh
                have := hid4 R hh
                omega
              · intro j hj
                have := hid4 j hj
                right; omega
        · refine ⟨by simp [hl], by simp [hl, h0], by simp [hl, h1], by simp [hl, h2], by simp [hl, h7], by simp [hl, h8], by simp [hl], by simp [hl], Keep.refl hwf', 0, by omega, by omega, by simp [hl], by simpa using hown⟩
    · refine ⟨by simp [hl], by simp [hl, h0], by simp [hl, h1], by simp [hl, h2], by simp [hl], hk1.more (by simp), hR1, s0, dv0, List.replicate jobs.length false, 0, by omega, by simp [hl], by omega, by omega, fun k => by rw [Nat.sub_zero], fun a ha => by have := haok0 a ha; omega, hcok0, hcl0, by simp, hown1, hda1, fun hh => by have := hd0n R hh; omega, fun j hj => .inl hj, hgL1, hWk1, hCX1⟩
  obtain ⟨_, h', h1, sF, dv', d, rfl, h2⟩ := main
  exact ⟨h', sF, dv', d, h1, h2⟩
end
end Go.Am

set_option linter.unusedSimpArgs false
namespace Go.Am
open Go.RowKit Go.Proofs

theorem flatten_set1 {s : Nat} : ∀ {rows : List (List AV)} {k : Nat} {r : List AV} {j : Nat} {x : AV}, (∀ y ∈ rows, y.length = s) → rows[k]? = some r → j < s → rows.flatten.set (k * s + j) x = (rows.set k (r.set j x)).flatten
  | [], k, r, j, x, _, hr, _ => by simp at hr
  | y :: rows, 0, r, j, x, hy, hr, hj => by
    have h1 := hy y List.mem_cons_self
    simp only [List.getElem?_cons_zero, Option.some.injEq] at hr
    subst hr
    simp only [Nat.zero_mul, Nat.zero_add, List.flatten_cons, List.set_cons_zero]
    rw [List.set_append_left _ _ (by omega)]
  | y :: rows, k + 1, r, j, x, hy, hr, hj => by
    have h1 := hy y List.mem_cons_self
    have ih := flatten_set1 (x := x) (fun z hz => hy z (List.mem_cons_of_mem _ hz)) (show rows[k]? = some r by simpa using hr) hj
    simp only [List.flatten_cons, List.set_cons_succ]
    have e1 : (k + 1) * s + j = y.length + (k * s + j) := by rw [Nat.add_mul, Nat.one_mul, h1]; omega
    rw [e1, List.set_append_right _ _ (by omega), Nat.add_sub_cancel_left, ih]
/-- A field of an element of a slice. -/
theorem Slr.atf {P : Program} {h : Heap} {s : Nat} {v : AV} {rows : List (List AV)} (hs : Slr h s v rows) {t el : TypeId} (hu : P.underlying t = some (.slice el)) (h1 : sizeA P el = some s) (ha : aggA P el = some true) {i : Nat} {r : List AV} (hx : rows[i]? = some r) {k : IntKind} :
    ∃ l, indexAddrA P t v (.int k (i : Int)) = some (.ptr (some l)) ∧ loadA P h el l = some (.agg r) ∧ idOf v = some l.id ∧ ∀ (t' : TypeId) (j : Nat) (x : AV), aggA P t' = some false → r[j]? = some x → loadA P h t' ⟨l.id, l.off + j⟩ = some x := by
  obtain ⟨l, hl1, hl2, hl3⟩ := hs.at (P := P) hu h1 ha hx (k := k)
  refine ⟨l, hl1, hl2, hl3, fun t' j x ht hj => ?_⟩
  have hlt := (List.getElem?_eq_some_iff.1 hx).1
  have hat := flatten_at hs.1 hx
  have hs2 := hs.2
  match v, hs2 with
  | .slice none n c, hs2 => obtain ⟨rfl, rfl⟩ := hs2; simp at hx
  | .slice (some l0) n c, hs2 =>
    obtain ⟨rfl, h0 | ⟨cs, k', hg, hle, hd⟩⟩ := hs2
    · omega
    · have hjs : j < s := by have := (List.getElem?_eq_some_iff.1 hj).1; rw [hs.1 r (List.mem_of_getElem? hx)] at this; exact this
      have hb : (i + 1) * s ≤ rows.length * s := Nat.mul_le_mul_right _ hlt
      rw [Nat.add_mul, Nat.one_mul] at hb
      have hi := index_at (P := P) hu h1 hlt (k := k) (c := c) (l := l0)
      rw [hi] at hl1
      cases hl1
      refine load_cell ht hg ?_
      rw [← hat] at hj
      rw [List.getElem?_take_of_lt hjs, List.getElem?_drop, ← hd, List.getElem?_take_of_lt (by omega), List.getElem?_drop] at hj
      rw [← hj]
      show cs[l0.off + i * s + j]? = cs[l0.off + (i * s + j)]?
      rw [Nat.add_assoc]
theorem Accr.storef {P : Program} {n0 : Nat} {h : Heap} {s : Nat} {v : AV} {rows : List (List AV)} (ha : Accr n0 h s v rows) {t el : TypeId} (hu : P.underlying t = some (.slice el)) (h1 : sizeA P el = some s) {k : Nat} {r : List AV} (hr : rows[k]? = some r) {t' : TypeId} (ht : sizeA P t' = some 1) {j : Nat} (hj : j < s) {x : AV} (hc : cellsA x = some [x]) (hok : cellOk x = true) {kd : IntKind} :
    ∃ l, indexAddrA P t v (.int kd (k : Int)) = some (.ptr (some l)) ∧ idOf v = some l.id ∧ storeA P h t' ⟨l.id, l.off + j⟩ x = some (h.set l.id (.cells (rows.set k (r.set j x)).flatten .own)) ∧ Accr n0 (h.set l.id (.cells (rows.set k (r.set j x)).flatten .own)) s v (rows.set k (r.set j x)) := by
  have hfl := flatten_length ha.1
  have hfs := flatten_set1 (x := x) ha.1 hr hj
  have hk := (List.getElem?_eq_some_iff.1 hr).1
  have hrl := ha.1 r (List.mem_of_getElem? hr)
  have hall : ∀ y ∈ rows.set k (r.set j x), y.length = s := by
    intro y hy
    rcases List.mem_or_eq_of_mem_set hy with hy | hy
    · exact ha.1 y hy
    · rw [hy, List.length_set, hrl]
  have hb : (k + 1) * s ≤ rows.length * s := Nat.mul_le_mul_right _ hk
  rw [Nat.add_mul, Nat.one_mul] at hb
  rcases ha.2 with ⟨rfl, _⟩ | ⟨i, hi, hne, rfl, hg⟩
  · simp at hk
  · refine ⟨⟨i, 0 + k * s⟩, index_at hu h1 hk, rfl, ?_, ⟨hall, .inr ⟨i, hi, by simpa using hne, by simp, Heap.get_set _ _ _⟩⟩⟩
    rw [← hfs]
    have e : 0 + k * s + j = k * s + j := by omega
    have := store_cell (P := P) (t := t') ht hc hok hg (o := k * s + j) (by simp) (by omega)
    simp only [e]
    exact this

/-- A copy: append to an empty list. -/
theorem Sl.cloneE {P : Program} {h : Heap} {v : AV} {xs : List AV} (hs : Sl h v xs) (hw : Wf h) {t el : TypeId} (hu : P.underlying t = some (.slice el)) (h1 : sizeA P el = some 1) (hroom : xs ≠ [] → roomA P el xs.length = true) (hok : cellsOk xs = true) {i : Nat} {cs : List AV} (hg : h.get i = some (.cells cs .own)) :
    ∃ v' h', appendA P h t t (.slice (some ⟨i, 0⟩) 0 (.exact 0)) v = some (v', h') ∧ Sl h' v' xs ∧ Keep [] h h' := by
  have hk := Keep.refl (ex := []) hw
  have hsrc := hs.src (P := P) hu hok
  cases hn : xs.length with
  | zero =>
    have hxs : xs = [] := List.length_eq_zero_iff.1 hn
    subst hxs
    refine ⟨.slice (some ⟨i, 0⟩) 0 (.exact 0), h, ?_, ⟨⟨rfl, by simp [capOk]⟩, .inl rfl⟩, hk⟩
    simp only [appendA, hu, h1, hsrc, List.length_nil]
  | succ n =>
    have hne : xs ≠ [] := by intro h; simp [h] at hn
    rw [hn] at hsrc hroom
    refine ⟨.slice (some ⟨h.next, 0⟩) (0 + (n + 1)) (.tip 1), h.alloc (.cells xs .own), ?_, ?_, hk.alloc (.cells xs .own)⟩
    · have hb : Nat.ble (0 + (n + 1)) 0 = false := by simp [Nat.ble]
      have hr : roomA P el (0 + (n + 1)) = true := by rw [Nat.zero_add]; exact hroom hne
      simp only [appendA, hu, h1, hsrc, hr, cond_true, hb, cond_false]
      have hread : readA h ⟨i, 0⟩ (0 * 1) = some [] := by
        simp [readA, hg, Nat.ble]
      simp only [hread, List.nil_append]
    · have hg2 := Heap.get_alloc h (.cells xs .own)
      have ha : Acc 0 (h.alloc (.cells xs .own)) (.slice (some ⟨h.next, 0⟩) (0 + (n + 1)) (.tip 1)) xs := .inr ⟨h.next, Nat.zero_le _, hne, by rw [hn, Nat.zero_add], hg2⟩
      exact ha.sl

theorem playN_add {jobs : List (Int × Int)} {b : Int} : ∀ (n k : Nat) (s : PS), playN jobs b (n + k) s = playN jobs b k (playN jobs b n s)
  | 0, k, s => by simp [playN]
  | n + 1, k, s => by
    rw [show n + 1 + k = (n + k) + 1 by omega]
    simp only [playN]
    by_cases hc : (nextS jobs b s).chosen < 0
    · rw [if_pos hc, if_pos hc, playN_stop hc]
    · rw [if_neg hc, if_neg hc]
      exact playN_add n k _
def norm15 (j : Int × Int) : Int × Int := (0, if 15 < j.2 then 15 else j.2)
def wsL (js : List (Int × Int)) : List Int := (js.take 20).map fun j => if 15 < j.2 then 15 else j.2
theorem wsL_jobs (js : List (Int × Int)) : (js.take 20).map norm15 = jobs0 (wsL js) := by
  simp only [jobs0, wsL, List.map_map]
  rfl
theorem wsL_le (js : List (Int × Int)) : 0 ≤ sumPos (wsL js) ∧ sumPos (wsL js) ≤ 300 := by
  have h := sumI_bound ((wsL js).map (max · 0)) 15 (by
    intro x hx
    simp only [wsL, List.mem_map] at hx
    obtain ⟨y, ⟨z, _, rfl⟩, rfl⟩ := hx
    split <;> omega)
  have h2 : (wsL js).length ≤ 20 := by simp [wsL]; omega
  simp only [List.length_map] at h
  unfold sumPos
  omega
/-- A play of so many steps is not cut short. -/
theorem logs_all (js : List (Int × Int)) (picks : List Int) (b : Int) (k : Nat) : (playN (jobs0 (wsL js)) (max b 1) (800 + k) (startP (jobs0 (wsL js)) picks)).out = playOut (jobs0 (wsL js)) picks b 800 := by
  have hle := wsL_le js
  obtain ⟨hD, he⟩ := playN_done (b := max b 1) 800 _ (AllDone.start (wsL js) picks)
  have hF : (playN (jobs0 (wsL js)) (max b 1) 800 (startP (jobs0 (wsL js)) picks)).out = playOut (jobs0 (wsL js)) picks b 800 := by simp [playOut]
  have hl := (play_done (ws := wsL js) (picks := picks) (b := b) (n := 800) (by omega)).1
  rw [playN_add]
  have hl2 : ((playOut (jobs0 (wsL js)) picks b 800).length : Int) = sumPos (wsL js) := hl
  rw [← hF] at hl2 ⊢
  generalize playN (jobs0 (wsL js)) (max b 1) 800 (startP (jobs0 (wsL js)) picks) = s at hD he hl2
  rcases he with he | he
  · rw [playN_stop he]
  · simp only [startP, List.length_nil] at he
    omega
section
variable {ov : CallF}
theorem cutX_ok (o17 : ∀ a h, ov 17 a h = none) {h : Heap} (hw : Wf h) {v : AV} {jobs : List (Int × Int)} (hs : Slr h 2 v (rowsJ jobs)) (hn : jobs.length ≤ 2000000) :
    ∃ v' h', callT ov Try.prog 17 [v] h = some (.ret v' h') ∧ Accr h.next h' 2 v' (rowsJ (jobs.take 20)) ∧ Keep [] h h' := by
  refine callT_wp (fn := Try.f17) (o17 _ _) (by kernel_rfl) rfl ?_
  have hl : (frameA Try.f17 [v]).length = 26 := frameA_length (Nat.le_of_ble_eq_true rfl)
  have h0 : nth (frameA Try.f17 [v]) 0 = v := frameA_nth (Nat.le_of_ble_eq_true rfl)
  generalize frameA Try.f17 [v] = e at hl h0
  have hlen : ∀ h, lenA Try.prog h 41 v = some (.int .i64 (jobs.length : Nat)) := fun h' => by simpa [rowsJ_length] using hs.len (P := Try.prog) h' u41
  repeat apply WP.seq
  apply WP.region; simp [hl]
  repeat apply WP.seq
  have hk0 := (Keep.refl (ex := []) hw).alloc (.cells [] .own)
  have hacc0 : Accr h.next (h.alloc (.cells [] .own)) 2 (.slice (some ⟨h.next, 0⟩) 0 (.exact 0)) (rowsJ (([] : List (Int × Int)))) := ⟨by simp [rowsJ], .inl ⟨rfl, _, rfl, fun _ hx => by cases hx; exact ⟨Nat.le_refl _, rfl, _, Heap.get_alloc _ _⟩⟩⟩
  apply WP.region; simp [hl, build41]
  generalize h.alloc (.cells [] .own) = g at hk0 hacc0
  repeat apply WP.seq
  apply WP.region; simp [hl, h0, hlen]
  repeat apply WP.seq
  apply WP.block
  refine WP.loop (fun k e g' => e.length = 26 ∧ nth e 7 = v ∧ nth e 8 = .int .i64 jobs.length ∧ Keep [] h g' ∧ ∃ i, i ≤ jobs.length ∧ k = jobs.length - i ∧ nth e 9 = .int .i64 (i : Nat) ∧ Accr h.next g' 2 (nth e 3) (rowsJ ((jobs.take i).take 20))) ?_ jobs.length _ _ ?_
  · rintro k e g' ⟨hl, h7, h8, hk, i, hi, rfl, h9, hacc⟩
    repeat apply WP.seq
    apply WP.region; simp [hl, h8, h9]
    repeat apply WP.seq
    apply WP.cond (by simp [hl]; rfl)
    · intro hlt1
      have hlt1 : i < jobs.length := by simpa using hlt1
      apply WP.skip; simp
      repeat apply WP.seq
      apply WP.block
      repeat apply WP.seq
      have hji : jobs[i]? = some jobs[i] := List.getElem?_eq_getElem hlt1
      generalize jobs[i] = j at hji
      have hsg : Slr g' 2 v (rowsJ jobs) := hs.keep' hk (by simp)
      obtain ⟨l1, hl1, hl1', _⟩ := hsg.at (P := Try.prog) u41 s49 a49 (rowsJ_get hji) (k := .i64)
      obtain ⟨B, g1, g2, hal, hst, hk2, hg2, hB, hB', _⟩ := fresh49 hk.wf j.1 j.2
      have hacc2 := hacc.keep hk2 (by simp)
      have hkh2 := hk.trans hk2
      have hle := hk.le
      have ht : jobs.take (i + 1) = jobs.take i ++ [j] := by rw [List.take_add_one, hji]; rfl
      have hld0 : loadA Try.prog g2 3 ⟨B, 0⟩ = some (.int .i64 j.1) := load_cell a3 hg2 rfl
      have hld1 : loadA Try.prog g2 3 ⟨B, 1⟩ = some (.int .i64 j.2) := load_cell a3 hg2 rfl
      apply WP.region; simp [hl, h7, h9, hl1, hl1', hal, storeR_ptr hst]
      repeat apply WP.seq
      apply WP.region; simp [hl, h9]
      repeat apply WP.seq
      apply WP.cond (by simp [hl]; rfl)
      · intro hc
        have hc : i < 20 := by
          have : (i : Int) < 20 := by simpa using hc
          omega
        have hk3 := hkh2.alloc (.cells [.int .i64 j.1, .int .i64 j.2] .own)
        have hacc3 := hacc2.keep ((Keep.refl (ex := []) hk2.wf).alloc (.cells [.int .i64 j.1, .int .i64 j.2] .own)) (by simp)
        have hg3 := Heap.get_alloc g2 (.cells [.int .i64 j.1, .int .i64 j.2] .own)
        have hbs := build41_1 (h := g2) (k := .i64) (k' := .i64) (x := j.1) (y := j.2)
        generalize g2.alloc (.cells [.int .i64 j.1, .int .i64 j.2] .own) = g3 at hk3 hacc3 hg3 hbs
        have hlen3 := rowsJ_length ((jobs.take i).take 20)
        obtain ⟨v', g4, hap, hacc4, hk4, _⟩ := hacc3.push (P := Try.prog) hk3 (Nat.le_refl _) (by have := hk3.le; omega) u41 s49 (by omega) (slr_one hg3 rfl (c := .exact 1)) (by simp [cellsOk, cellOk]) (fun _ => room49 (by simp [rowsJ_length]; omega))
        have hfin : rowsJ ((jobs.take i).take 20) ++ [[.int .i64 j.1, .int .i64 j.2]] = rowsJ ((jobs.take (i + 1)).take 20) := by
          have h1 : (jobs.take i).take 20 = jobs.take i := List.take_of_length_le (by simp; omega)
          have h2 : (jobs.take (i + 1)).take 20 = jobs.take (i + 1) := List.take_of_length_le (by simp; omega)
          rw [h1, h2, ht, rowsJ_append]; rfl
        rw [hfin] at hacc4
        apply WP.region; simp [hl, fa49, hld0, hld1, build49, hbs, hap]
        apply WP.region; simp [hl, h9, int_wrap (show i < 9223372036854775807 by omega)]
        exact ⟨jobs.length - (i + 1), by omega, h7, h8, hk4, i + 1, by omega, rfl, by simp, hacc4⟩
      · intro hc
        have hc : ¬ i < 20 := by
          have : ¬ (i : Int) < 20 := by simpa using hc
          omega
        have hfin : (jobs.take i).take 20 = (jobs.take (i + 1)).take 20 := by
          rw [List.take_take, List.take_take]; congr 1; omega
        rw [hfin] at hacc2
        apply WP.skip; simp
        apply WP.region; simp [hl, h9, int_wrap (show i < 9223372036854775807 by omega)]
        exact ⟨jobs.length - (i + 1), by omega, h7, h8, hkh2, i + 1, by omega, rfl, by simp, hacc2⟩
    · intro hge
      have hge : ¬ i < jobs.length := by simpa using hge
      apply WP.exit
      simp
      repeat apply WP.seq
      apply WP.region; simp [hl]
      apply WP.ret
      have hi' : jobs.take i = jobs := List.take_of_length_le (by omega)
      rw [hi'] at hacc
      obtain ⟨l, c, hv⟩ := hacc.slr.slice
      rw [hv] at hacc
      simp [hl, hv, resultsA, resultA, single]
      exact ⟨hacc, hk⟩
  · refine ⟨by simp [hl], by simp [hl], by simp [hl], hk0, 0, by omega, by omega, by simp [hl], by simpa [hl] using hacc0⟩

end
end Go.Am
