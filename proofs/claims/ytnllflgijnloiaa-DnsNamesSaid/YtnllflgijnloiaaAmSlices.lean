/- The abstract machine's addresses and slices. -/
import Derived.Test.YtnllflgijnloiaaAmMem
namespace Go.Am
open Go.RowKit

def fieldAddrA (P : Program) (s : TypeId) (x : AV) (f : Nat) : Option AV :=
  match P.underlying s, x with
  | some (.struct fields), .ptr (some l) =>
    match fields[f]? with
    | some fl => (match sizeA P fl.type with | some (_ + 1) => some (.ptr (some ⟨l.id, l.off + fl.offset⟩)) | _ => none)
    | none => none
  | _, _ => none

theorem fieldAddrA_run {P : Program} {φ : List Emb} {w : World} {s : TypeId} {x r : AV} {f : Nat} (h : fieldAddrA P s x f = some r) {x' : Value} (hx : V φ x x') :
    ∃ r', (Instr.fieldAt s x' f).run P w = .ok r' w ∧ V φ r r' := by
  unfold fieldAddrA at h
  split at h
  · rename_i fields l hu
    split at h
    · rename_i fl hf
      split at h
      · rename_i n hn
        cases h
        simp only [V] at hx
        obtain ⟨e, he, rfl⟩ := hx
        have hne : n.succ ≠ 0 := by omega
        refine ⟨.pointer (some ⟨e.blk, e.off + l.off + fl.offset, none⟩), ?_, ?_⟩
        · simp only [Instr.fieldAt, Sem.run_bind, run_underlying hu, Result.andThen_ok, hf, Instr.sureAddr, Sem.run_pure, fieldPlace, run_sizeA hn]
          rw [if_neg hne]
          simp [Addr.add_lit]
        · simp only [V]; exact ⟨e, he, by simp [Nat.add_assoc]⟩
      · cases h
    · cases h
  · cases h

/-- Where element i of what is indexed lies. -/
def indexAddrA (P : Program) (t : TypeId) (x i : AV) : Option AV :=
  match i with
  | .int _ n =>
    match P.underlying t, x with
    | some (.array len e), .ptr (some l) =>
      if 0 ≤ n ∧ n < (len : Int) then (match sizeA P e with | some s => some (.ptr (some ⟨l.id, l.off + n.toNat * s⟩)) | none => none) else none
    | some (.slice e), .slice (some l) len _ =>
      if 0 ≤ n ∧ n < (len : Int) then (match sizeA P e with | some s => some (.ptr (some ⟨l.id, l.off + n.toNat * s⟩)) | none => none) else none
    | _, _ => none
  | _ => none

theorem indexAddrA_run {P : Program} {φ : List Emb} {w : World} {t : TypeId} {x i r : AV} (h : indexAddrA P t x i = some r) {x' i' : Value} (hx : V φ x x') (hi : V φ i i') :
    ∃ r', (Instr.indexAt t x' i').run P w = .ok r' w ∧ V φ r r' := by
  unfold indexAddrA at h
  split at h
  · rename_i k n
    simp only [V] at hi
    subst hi
    split at h
    · rename_i len e l hu
      split at h
      · rename_i hb
        split at h
        · rename_i s hs
          cases h
          simp only [V] at hx
          obtain ⟨em, he, rfl⟩ := hx
          refine ⟨.pointer (some ⟨em.blk, em.off + l.off + n.toNat * s, none⟩), ?_, ?_⟩
          · simp [Instr.indexAt, asIntOf, run_underlying hu, Instr.sureAddr, hb.1, hb.2, run_sizeA hs, Addr.add_lit]
          · simp only [V]; exact ⟨em, he, by simp [Nat.add_assoc]⟩
        · cases h
      · cases h
    · rename_i e l len c hu
      split at h
      · rename_i hb
        split at h
        · rename_i s hs
          cases h
          simp only [V] at hx
          obtain ⟨em, cap, a, he, rfl, hc, hcap, ha⟩ := hx
          have hlen : len ≠ 0 := by omega
          have ha' : a = ⟨em.blk, em.off + l.off, none⟩ := ha.resolve_right fun hh => hlen hh.1
          subst ha'
          refine ⟨.pointer (some ⟨em.blk, em.off + l.off + n.toNat * s, none⟩), ?_, ?_⟩
          · simp [Instr.indexAt, asIntOf, run_underlying hu, hb.1, hb.2, run_sizeA hs, Addr.add_lit]
          · simp only [V]; exact ⟨em, he, by simp [Nat.add_assoc]⟩
        · cases h
      · cases h
    · cases h
  · cases h

theorem V_slice {φ : List Emb} {l : Loc} {n : Nat} {c : Cap} {v : Value} {e : Emb} {cap : Nat} {a : Addr} (he : φ[l.id]? = some e) (hv : v = .slice (some a) n cap) (h1 : n ≤ cap) (h2 : CapOk e l.off cap c)
    (h3 : a = ⟨e.blk, e.off + l.off, none⟩ ∨ (n = 0 ∧ c = .dim)) : V φ (.slice (some l) n c) v := by
  simp only [V]
  exact ⟨e, cap, a, he, hv, h1, h2, h3⟩

/-! ### Slicing -/

/-- A bound: the number, or what stands for it; at most y. -/
def boundA (x : Option AV) (d y : Nat) : Option Nat :=
  match x with
  | none => some d
  | some (.int _ n) => if 0 ≤ n ∧ n ≤ (y : Int) then some n.toNat else none
  | _ => none

def locAdd (l : Loc) (n : Nat) : Loc := ⟨l.id, l.off + n⟩

/-- How far a slice may be cut surely. -/
def Cap.sure (c : Cap) (len : Nat) : Nat := match c with | .exact n => n | _ => len

def sliceOf (P : Program) (e : TypeId) (l : Option Loc) (len : Nat) (c : Cap) (lo hi mx : Option AV) : Option AV :=
  match sizeA P e with
  | none => none
  | some s =>
    match l with
    | none =>
      match mx with
      | some _ => none
      | none =>
        match boundA hi 0 0 with
        | none => none
        | some _ =>
          match boundA lo 0 0 with
          | none => none
          | some _ => some (.slice none 0 (.exact 0))
    | some l =>
      match mx with
      | some _ =>
        match boundA mx 0 (c.sure len), hi with
        | some m, some _ =>
          match boundA hi 0 m with
          | none => none
          | some h =>
            match boundA lo 0 h with
            | none => none
            | some lo =>
              match c, len with
              | .dim, 0 => some (.slice (some l) 0 .dim)
              | _, _ => some (.slice (some (bif Nat.beq m lo then l else locAdd l (lo * s))) (h - lo) (.exact (m - lo)))
        | _, _ => none
      | none =>
        match boundA hi len (c.sure len) with
        | none => none
        | some h =>
          match boundA lo 0 h with
          | none => none
          | some lo =>
            match c with
            | .exact n => some (.slice (some (bif Nat.beq n lo then l else locAdd l (lo * s))) (h - lo) (.exact (n - lo)))
            | .tip e' => bif Nat.beq e' s then (bif Nat.blt lo len then some (.slice (some (locAdd l (lo * s))) (h - lo) (.tip s)) else bif Nat.beq lo 0 then some (.slice (some l) 0 (.tip s)) else some (.slice (some l) 0 .dim)) else none
            | .dim => bif Nat.blt lo len then some (.slice (some (locAdd l (lo * s))) (h - lo) .dim) else some (.slice (some l) 0 .dim)

theorem boundA_run {P : Program} {φ : List Emb} {w : World} {x : AV} {y d n : Nat} (h : boundA (some x) d y = some n) {x' : Value} (hx : V φ x x') (code : BoundsCode) (y' : Nat) (hy : y ≤ y') :
    (Instr.sliceBound x' y' code).run P w = .ok n w := by
  unfold boundA at h
  split at h
  · rename_i hh; cases hh
  · rename_i k m hh
    cases hh
    split at h
    · rename_i hb
      cases h
      simp only [V] at hx
      subst hx
      have : m ≤ (y' : Int) := by omega
      simp [Instr.sliceBound, asIntOf, hb.1, this]
    · cases h
  · cases h
theorem boundA_le {x : Option AV} {y d n : Nat} (h : boundA x d y = some n) (hd : d ≤ y) : n ≤ y := by
  unfold boundA at h
  split at h
  · cases h; exact hd
  · split at h
    · cases h; omega
    · cases h
  · cases h

/-- An operand that may not be there. -/
def VO (φ : List Emb) : Option AV → Option Value → Prop
  | none, v => v = none
  | some a, v => ∃ x, v = some x ∧ V φ a x

theorem bounds_run {P : Program} {φ : List Emb} {w : World} {lo hi mx : Option AV} {lo' hi' mx' : Option Value} (h1 : VO φ lo lo') (h2 : VO φ hi hi') (h3 : VO φ mx mx') (isS : Bool) {len cap l h m bh bm d : Nat}
    (hm : boundA mx cap bm = some m) (hbm : bm ≤ cap) (hh : boundA hi d bh = some h) (hd : hi = none → d = len) (hbh : bh ≤ m) (hl : boundA lo 0 h = some l) (hmx : mx.isSome = true → hi.isSome = true) :
    (Instr.sliceBounds isS len cap lo' hi' mx').run P w = .ok (l, h, m) w := by
  have e3 : (mx' = none ∧ mx = none ∧ m = cap) ∨ ∃ x, mx' = some x ∧ mx.isSome = true ∧ ∀ code, (Instr.sliceBound x cap code).run P w = .ok m w := by
    cases mx with
    | none => simp only [VO] at h3; subst h3; simp [boundA] at hm; exact .inl ⟨rfl, rfl, hm.symm⟩
    | some a => simp only [VO] at h3; obtain ⟨x, rfl, hx⟩ := h3; exact .inr ⟨x, rfl, rfl, fun code => boundA_run hm hx code cap hbm⟩
  have e2 : (hi' = none ∧ hi = none ∧ h = len) ∨ ∃ x, hi' = some x ∧ hi.isSome = true ∧ ∀ code, (Instr.sliceBound x m code).run P w = .ok h w := by
    cases hi with
    | none => simp only [VO] at h2; subst h2; simp [boundA] at hh; exact .inl ⟨rfl, rfl, by rw [← hh]; exact hd rfl⟩
    | some a => simp only [VO] at h2; obtain ⟨x, rfl, hx⟩ := h2; exact .inr ⟨x, rfl, rfl, fun code => boundA_run hh hx code m hbh⟩
  have e1 : (lo' = none ∧ l = 0) ∨ ∃ x, lo' = some x ∧ ∀ code, (Instr.sliceBound x h code).run P w = .ok l w := by
    cases lo with
    | none => simp only [VO] at h1; subst h1; simp [boundA] at hl; exact .inl ⟨rfl, hl.symm⟩
    | some a => simp only [VO] at h1; obtain ⟨x, rfl, hx⟩ := h1; exact .inr ⟨x, rfl, fun code => boundA_run hl hx code h (Nat.le_refl _)⟩
  unfold Instr.sliceBounds
  rcases e3 with ⟨rfl, rfl, rfl⟩ | ⟨x3, rfl, hs3, r3⟩ <;> rcases e2 with ⟨rfl, rfl, rfl⟩ | ⟨x2, rfl, hs2, r2⟩ <;> rcases e1 with ⟨rfl, rfl⟩ | ⟨x1, rfl, r1⟩
  all_goals first
    | (simp only [Sem.run_bind, Sem.run_pure, Result.andThen_ok, *]; done)
    | (have := hmx hs3; simp at this; done)

theorem blt_iff (a b : Nat) : Nat.blt a b = true ↔ a < b := by
  unfold Nat.blt; rw [ble_iff]; omega

theorem sliceOf_run {P : Program} {φ : List Emb} {w : World} {t e : TypeId} (hu : P.underlying t = some (.slice e)) {l : Option Loc} {len : Nat} {c : Cap} {lo hi mx : Option AV} {r : AV} (h : sliceOf P e l len c lo hi mx = some r)
    {x' : Value} (hx : V φ (.slice l len c) x') {lo' hi' mx' : Option Value} (h1 : VO φ lo lo') (h2 : VO φ hi hi') (h3 : VO φ mx mx') :
    ∃ r', (Instr.sliceAt t x' lo' hi' mx').run P w = .ok r' w ∧ V φ r r' := by
  have start : ∀ (a : Option Addr) (len cap L H M s : Nat), sizeA P e = some s → (Instr.sliceBounds true len cap lo' hi' mx').run P w = .ok (L, H, M) w →
      (Instr.sliceAt t (.slice a len cap) lo' hi' mx').run P w = .ok (.slice (if M = L then a else a.map (·.add (L * s))) (H - L) (M - L)) w := by
    intro a len cap L H M s hs hb
    simp [Instr.sliceAt, Instr.slice, run_underlying hu, hb, run_sizeA hs]
  unfold sliceOf at h
  split at h
  · cases h
  rename_i s hs
  cases l with
  | none =>
    simp only [V] at hx
    obtain ⟨rfl, rfl, hcc⟩ := hx
    dsimp only at h
    split at h
    · cases h
    · split at h
      · cases h
      · rename_i n1 b2
        split at h
        · cases h
        · rename_i n2 b3
          cases h
          have z1 := boundA_le b2 (Nat.le_refl 0)
          have z2 := boundA_le b3 (Nat.le_refl 0)
          obtain rfl := Nat.le_zero.1 z1
          obtain rfl := Nat.le_zero.1 z2
          refine ⟨_, start none 0 0 0 0 0 s hs (bounds_run h1 h2 h3 true (m := 0) (bm := 0) (by simp [boundA]) (Nat.le_refl _) b2 (fun _ => rfl) (Nat.le_refl _) b3 (by simp)), ?_⟩
          simp [V]
  | some l =>
    simp only [V] at hx
    obtain ⟨em, cap, a, he, rfl, hlc, hcap, ha⟩ := hx
    have hsure : c.sure len ≤ cap := by
      cases c with
      | exact n => simp only [CapOk] at hcap; simp only [Cap.sure]; omega
      | tip n => simp only [Cap.sure]; omega
      | dim => simp only [Cap.sure]; omega
    have hsure2 : len ≤ c.sure len := by
      cases c with
      | exact n => simp only [CapOk] at hcap; simp only [Cap.sure]; omega
      | tip n => exact Nat.le_refl _
      | dim => exact Nat.le_refl _
    dsimp only at h
    split at h
    · rename_i mxv
      split at h
      · rename_i m hiv hm
        split at h
        · cases h
        · rename_i hh hh'
          split at h
          · cases h
          · rename_i ll hl
            have hm2 : boundA (some mxv) cap (c.sure len) = some m := by
              rw [← hm]; cases mxv <;> rfl
            have hb := bounds_run (P := P) (w := w) h1 h2 h3 true hm2 hsure hh' (by simp) (Nat.le_refl _) hl (by simp) (len := len)
            have hmc := boundA_le hm (Nat.zero_le _)
            have hhm := boundA_le hh' (Nat.zero_le _)
            have hlh := boundA_le hl (Nat.zero_le _)
            refine ⟨_, start (some a) len cap ll hh m s hs hb, ?_⟩
            split at h
            · cases h
              simp only [Cap.sure] at hmc
              have : m = 0 := by omega
              have : hh = 0 := by omega
              have : ll = 0 := by omega
              subst m hh ll
              exact V_slice (cap := 0) (a := a) he (by simp) (Nat.zero_le _) trivial (.inr ⟨rfl, rfl⟩)
            · rename_i hno
              cases h
              have ha' : a = ⟨em.blk, em.off + l.off, none⟩ := ha.resolve_right fun hx => hno hx.2 hx.1
              subst ha'
              by_cases hml : m = ll
              · subst hml
                simp only [Trie.beq1, decide_true, cond_true, if_true]
                exact V_slice he rfl (by omega) rfl (.inl rfl)
              · simp only [Trie.beq1, hml, decide_false, cond_false, if_false, Option.map_some, Addr.add_lit]
                exact V_slice he rfl (by omega) rfl (.inl (by simp [locAdd, Nat.add_assoc]))
      · cases h
    · split at h
      · cases h
      · rename_i hh hh'
        split at h
        · cases h
        · rename_i ll hl
          have hlh := boundA_le hl (Nat.zero_le _)
          have hhs := boundA_le hh' hsure2
          have hb := bounds_run (P := P) (w := w) h1 h2 h3 true (m := cap) (bm := 0) (mx := none) rfl (Nat.zero_le _) hh' (fun _ => rfl) hsure hl (by simp) (len := len)
          refine ⟨_, start (some a) len cap ll hh cap s hs hb, ?_⟩
          cases c with
          | exact n =>
            dsimp only at h
            cases h
            have ha' : a = ⟨em.blk, em.off + l.off, none⟩ := ha.resolve_right fun hx => by cases hx.2
            simp only [CapOk] at hcap
            simp only [Cap.sure] at hhs
            subst ha' hcap
            by_cases hml : cap = ll
            · subst hml
              simp only [Trie.beq1, decide_true, cond_true, if_true]
              exact V_slice he rfl (by omega) rfl (.inl rfl)
            · simp only [Trie.beq1, hml, decide_false, cond_false, if_false, Option.map_some, Addr.add_lit]
              exact V_slice he rfl (by omega) rfl (.inl (by simp [locAdd, Nat.add_assoc]))
          | tip e' =>
            simp only [Cap.sure] at hhs
            have ha' : a = ⟨em.blk, em.off + l.off, none⟩ := ha.resolve_right fun hx => by cases hx.2
            subst ha'
            simp only [CapOk] at hcap
            dsimp only at h
            cases hes : Nat.beq e' s with
            | false => simp [hes] at h
            | true =>
              have := Nat.eq_of_beq_eq_true hes
              subst this
              simp only [hes, cond_true] at h
              cases hlt : Nat.blt ll len with
              | true =>
                have hlt' := (blt_iff _ _).1 hlt
                simp only [hlt, cond_true, Option.some.injEq] at h
                subst h
                rw [if_neg (by omega)]
                simp only [Option.map_some, Addr.add_lit]
                refine V_slice he rfl (by omega) ⟨hcap.1, ?_⟩ (.inl (by simp [locAdd, Nat.add_assoc]))
                simp only [locAdd]
                rw [Nat.sub_mul]
                have := Nat.mul_le_mul_right e' (show ll ≤ cap by omega)
                omega
              | false =>
                have hlt' : ¬ ll < len := fun hh => by rw [(blt_iff _ _).2 hh] at hlt; cases hlt
                simp only [hlt, cond_false] at h
                cases h0 : Nat.beq ll 0 with
                | true =>
                  have := Nat.eq_of_beq_eq_true h0
                  subst this
                  simp only [h0, cond_true, Option.some.injEq] at h
                  subst h
                  have : hh = 0 := by omega
                  subst this
                  exact V_slice he (by simp [Addr.add_lit]) (by omega) hcap (.inl rfl)
                | false =>
                  simp only [h0, cond_false, Option.some.injEq] at h
                  subst h
                  have : hh - ll = 0 := by omega
                  rw [this]
                  by_cases hcl : cap = ll
                  · rw [if_pos hcl]; exact V_slice he rfl (by omega) trivial (.inr ⟨rfl, rfl⟩)
                  · rw [if_neg hcl]; exact V_slice he rfl (by omega) trivial (.inr ⟨rfl, rfl⟩)
          | dim =>
            simp only [Cap.sure] at hhs
            dsimp only at h
            cases hlt : Nat.blt ll len with
            | true =>
              have hlt' := (blt_iff _ _).1 hlt
              simp only [hlt, cond_true, Option.some.injEq] at h
              subst h
              rw [if_neg (by omega)]
              have ha' : a = ⟨em.blk, em.off + l.off, none⟩ := ha.resolve_right fun hx => by have := hx.1; omega
              subst ha'
              simp only [Option.map_some, Addr.add_lit]
              exact V_slice he rfl (by omega) trivial (.inl (by simp [locAdd, Nat.add_assoc]))
            | false =>
              have hlt' : ¬ ll < len := fun hh => by rw [(blt_iff _ _).2 hh] at hlt; cases hlt
              simp only [hlt, cond_false, Option.some.injEq] at h
              subst h
              have : hh - ll = 0 := by omega
              rw [this]
              by_cases hcl : cap = ll
              · rw [if_pos hcl]; exact V_slice he rfl (by omega) trivial (.inr ⟨rfl, rfl⟩)
              · rw [if_neg hcl]; exact V_slice he rfl (by omega) trivial (.inr ⟨rfl, rfl⟩)
end Go.Am
