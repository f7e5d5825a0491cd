/- Runs that are cut: what a call comes to in a memory that is written out. -/
import Derived.Test.YteoekjfgihnhaaaGreatDoorHmGRB24
import Derived.Test.YteoekjfgihnhaaaGreatDoorHmGRB11
set_option linter.all false
noncomputable section
namespace Go.Am
open Go.RowKit

/-! ### Are two things the same? -/

def eqCapF (a b : Cap) : Bool := match a, b with | .exact x, .exact y => Nat.beq x y | .tip x, .tip y => Nat.beq x y | .dim, .dim => true | _, _ => false
def eqON (a b : Option Nat) : Bool := Option.rec (Option.rec true (fun _ => false) b) (fun x => Option.rec false (fun y => Nat.beq x y) b) a
def eqLoc (a b : Loc) : Bool := Bool.rec false (Nat.beq a.off b.off) (Nat.beq a.id b.id)
def eqOL (a b : Option Loc) : Bool := Option.rec (Option.rec true (fun _ => false) b) (fun x => Option.rec false (fun y => eqLoc x y) b) a
def eqFnF (a b : Fn) : Bool := match a, b with | .func f, .func g => Nat.beq f g | _, _ => false
def eqVF (a : AV) : AV → Bool := AV.rec (motive_1 := fun _ => AV → Bool) (motive_2 := fun _ => List AV → Bool)
  (fun b => match b with | .unk => true | _ => false)
  (fun x b => match b with | .bool y => eqB x y | _ => false)
  (fun k n b => match b with | .int k' n' => Bool.rec false (eqI n n') (sameK k k') | _ => false)
  (fun s b => match b with | .str t => eqL s t | _ => false)
  (fun l b => match b with | .ptr m => eqOL l m | _ => false)
  (fun l n c b => match b with | .slice l' n' c' => Bool.rec false (Bool.rec false (eqCapF c c') (Nat.beq n n')) (eqOL l l') | _ => false)
  (fun m b => match b with | .map m' => eqON m m' | _ => false)
  (fun m b => match b with | .chan m' => eqON m m' | _ => false)
  (fun f _ _ ihx ihy b => match b with | .func g x' y' => Bool.rec false (Bool.rec false (ihy y') (ihx x')) (eqFnF f g) | _ => false)
  (fun b => match b with | .nilFunc => true | _ => false)
  (fun t _ ih b => match b with | .iface u v => Bool.rec false (ih v) (Nat.beq t u) | _ => false)
  (fun b => match b with | .nilIface => true | _ => false)
  (fun _ ih b => match b with | .agg l => ih l | _ => false)
  (fun _ ih b => match b with | .tuple l => ih l | _ => false)
  (fun k b => match b with | .yield m => Nat.beq k m | _ => false)
  (fun b => List.rec true (fun _ _ _ => false) b)
  (fun _ _ iha ihl b => List.rec false (fun y t _ => Bool.rec false (ihl t) (iha y)) b) a
def eqVsF (a b : List AV) : Bool := List.rec (motive := fun _ => List AV → Bool) (fun b => List.rec true (fun _ _ _ => false) b) (fun x _ ih b => List.rec false (fun y t _ => Bool.rec false (ih t) (eqVF x y)) b) a b

theorem recB {a b : Bool} : (Bool.rec false a b : Bool) = true ↔ b = true ∧ a = true := by cases b <;> simp
theorem eqON_eq {a b : Option Nat} (h : eqON a b = true) : a = b := by
  cases a <;> cases b <;> first | rfl | (cases h; done) | skip
  rw [Nat.eq_of_beq_eq_true (show Nat.beq _ _ = true from h)]
theorem eqLoc_eq {a b : Loc} (h : eqLoc a b = true) : a = b := by
  obtain ⟨h1, h2⟩ := recB.1 h
  cases a; cases b
  simp only at h1 h2
  rw [Nat.eq_of_beq_eq_true h1, Nat.eq_of_beq_eq_true h2]
theorem eqOL_eq {a b : Option Loc} (h : eqOL a b = true) : a = b := by
  cases a <;> cases b <;> first | rfl | (cases h; done) | skip
  rw [eqLoc_eq (show eqLoc _ _ = true from h)]
theorem eqCapF_eq {a b : Cap} (h : eqCapF a b = true) : a = b := by
  cases a <;> cases b <;> simp only [eqCapF] at h <;> first | rfl | (cases h; done) | rw [Nat.eq_of_beq_eq_true h]
theorem eqFnF_eq {a b : Fn} (h : eqFnF a b = true) : a = b := by
  cases a <;> cases b <;> simp only [eqFnF] at h <;> first | (cases h; done) | rw [Nat.eq_of_beq_eq_true h]
theorem eqBB {a b : Bool} (h : eqB a b = true) : a = b := by cases a <;> cases b <;> first | rfl | cases h
theorem sameK_eqK {a b : IntKind} (h : sameK a b = true) : a = b := by cases a <;> cases b <;> first | rfl | cases h
theorem eqI_eqI {a b : Int} (h : eqI a b = true) : a = b := by
  cases a <;> cases b <;> first | (cases h; done) | skip
  · rw [Nat.eq_of_beq_eq_true (show Nat.beq _ _ = true from h)]
  · rw [Nat.eq_of_beq_eq_true (show Nat.beq _ _ = true from h)]
/-- The list's part of eqVF. -/
def eqWF (l : List AV) : List AV → Bool := AV.rec_1 (motive_1 := fun _ => AV → Bool) (motive_2 := fun _ => List AV → Bool)
  (fun b => match b with | .unk => true | _ => false)
  (fun x b => match b with | .bool y => eqB x y | _ => false)
  (fun k n b => match b with | .int k' n' => Bool.rec false (eqI n n') (sameK k k') | _ => false)
  (fun s b => match b with | .str t => eqL s t | _ => false)
  (fun l b => match b with | .ptr m => eqOL l m | _ => false)
  (fun l n c b => match b with | .slice l' n' c' => Bool.rec false (Bool.rec false (eqCapF c c') (Nat.beq n n')) (eqOL l l') | _ => false)
  (fun m b => match b with | .map m' => eqON m m' | _ => false)
  (fun m b => match b with | .chan m' => eqON m m' | _ => false)
  (fun f _ _ ihx ihy b => match b with | .func g x' y' => Bool.rec false (Bool.rec false (ihy y') (ihx x')) (eqFnF f g) | _ => false)
  (fun b => match b with | .nilFunc => true | _ => false)
  (fun t _ ih b => match b with | .iface u v => Bool.rec false (ih v) (Nat.beq t u) | _ => false)
  (fun b => match b with | .nilIface => true | _ => false)
  (fun _ ih b => match b with | .agg l => ih l | _ => false)
  (fun _ ih b => match b with | .tuple l => ih l | _ => false)
  (fun k b => match b with | .yield m => Nat.beq k m | _ => false)
  (fun b => List.rec true (fun _ _ _ => false) b)
  (fun _ _ iha ihl b => List.rec false (fun y t _ => Bool.rec false (ihl t) (iha y)) b) l
mutual
theorem eqVF_eq : ∀ (a b : AV), eqVF a b = true → a = b
  | .unk, b, h => by cases b <;> first | rfl | cases h
  | .bool x, b, h => by
    cases b <;> first | (cases h; done) | skip
    rw [eqBB (show eqB _ _ = true from h)]
  | .int k n, b, h => by
    cases b <;> first | (cases h; done) | skip
    obtain ⟨h1, h2⟩ := recB.1 (show (Bool.rec false (eqI _ _) (sameK _ _) : Bool) = true from h)
    rw [sameK_eqK h1, eqI_eqI h2]
  | .str s, b, h => by
    cases b <;> first | (cases h; done) | skip
    rw [(eqL_iff _ _).1 (show eqL _ _ = true from h)]
  | .ptr l, b, h => by
    cases b <;> first | (cases h; done) | skip
    rw [eqOL_eq (show eqOL _ _ = true from h)]
  | .slice l n c, b, h => by
    cases b <;> first | (cases h; done) | skip
    obtain ⟨h1, h2⟩ := recB.1 (show (Bool.rec false (Bool.rec false (eqCapF _ _) (Nat.beq _ _)) (eqOL _ _) : Bool) = true from h)
    obtain ⟨h2, h3⟩ := recB.1 h2
    rw [eqOL_eq h1, Nat.eq_of_beq_eq_true h2, eqCapF_eq h3]
  | .map m, b, h => by
    cases b <;> first | (cases h; done) | skip
    rw [eqON_eq (show eqON _ _ = true from h)]
  | .chan m, b, h => by
    cases b <;> first | (cases h; done) | skip
    rw [eqON_eq (show eqON _ _ = true from h)]
  | .func f x y, b, h => by
    cases b <;> first | (cases h; done) | skip
    obtain ⟨h1, h2⟩ := recB.1 (show (Bool.rec false (Bool.rec false (eqWF y _) (eqWF x _)) (eqFnF f _) : Bool) = true from h)
    obtain ⟨h2, h3⟩ := recB.1 h2
    rw [eqFnF_eq h1, eqWF_eq x _ h2, eqWF_eq y _ h3]
  | .nilFunc, b, h => by cases b <;> first | rfl | cases h
  | .iface t v, b, h => by
    cases b <;> first | (cases h; done) | skip
    obtain ⟨h1, h2⟩ := recB.1 (show (Bool.rec false (eqVF v _) (Nat.beq t _) : Bool) = true from h)
    rw [Nat.eq_of_beq_eq_true h1, eqVF_eq v _ h2]
  | .nilIface, b, h => by cases b <;> first | rfl | cases h
  | .agg l, b, h => by
    cases b <;> first | (cases h; done) | skip
    rw [eqWF_eq l _ h]
  | .tuple l, b, h => by
    cases b <;> first | (cases h; done) | skip
    rw [eqWF_eq l _ h]
  | .yield k, b, h => by
    cases b <;> first | (cases h; done) | skip
    rw [Nat.eq_of_beq_eq_true (show Nat.beq _ _ = true from h)]
theorem eqWF_eq : ∀ (a b : List AV), eqWF a b = true → a = b
  | [], b, h => by cases b <;> first | rfl | cases h
  | x :: a, b, h => by
    cases b with
    | nil => cases h
    | cons y b =>
      obtain ⟨h1, h2⟩ := recB.1 (show (Bool.rec false (eqWF a b) (eqVF x y) : Bool) = true from h)
      rw [eqVF_eq x y h1, eqWF_eq a b h2]
end
theorem eqVsF_eq : ∀ {a b : List AV}, eqVsF a b = true → a = b
  | [], [], _ => rfl
  | [], _ :: _, h => by cases h
  | _ :: _, [], h => by cases h
  | x :: a, y :: b, h => by
    obtain ⟨h1, h2⟩ := recB.1 (show (Bool.rec false (eqVsF a b) (eqVF x y) : Bool) = true from h)
    rw [eqVF_eq x y h1, eqVsF_eq h2]

def eqKindF (a b : Kind) : Bool := match a, b with | .own t, .own u => eqON t u | .var t, .var u => Nat.beq t u | .str, .str => true | .ro, .ro => true | _, _ => false
def eqENs (a b : List EN) : Bool := List.rec (motive := fun _ => List EN → Bool) (fun b => List.rec true (fun _ _ _ => false) b) (fun x _ ih b => List.rec false (fun y t _ => Bool.rec false (ih t) (Bool.rec false (Bool.rec false (Nat.beq x.2.2 y.2.2) (eqVF x.2.1 y.2.1)) (eqVF x.1 y.1))) b) a b
def eqKVs (a b : List (AV × AV)) : Bool := List.rec (motive := fun _ => List (AV × AV) → Bool) (fun b => List.rec true (fun _ _ _ => false) b) (fun x _ ih b => List.rec false (fun y t _ => Bool.rec false (ih t) (Bool.rec false (eqVF x.2 y.2) (eqVF x.1 y.1))) b) a b
def eqNs (a b : List Nat) : Bool := List.rec (motive := fun _ => List Nat → Bool) (fun b => List.rec true (fun _ _ _ => false) b) (fun x _ ih b => List.rec false (fun y t _ => Bool.rec false (ih t) (Nat.beq x y)) b) a b
theorem eqKindF_eq {a b : Kind} (h : eqKindF a b = true) : a = b := by
  cases a <;> cases b <;> simp only [eqKindF] at h <;> first | rfl | (cases h; done) | rw [eqON_eq h] | rw [Nat.eq_of_beq_eq_true h]
theorem eqENs_eq : ∀ {a b : List EN}, eqENs a b = true → a = b
  | [], [], _ => rfl
  | [], _ :: _, h => by cases h
  | _ :: _, [], h => by cases h
  | (k, v, n) :: a, (k', v', n') :: b, h => by
    obtain ⟨h1, h2⟩ := recB.1 (show (Bool.rec false (eqENs a b) (Bool.rec false (Bool.rec false (Nat.beq n n') (eqVF v v')) (eqVF k k')) : Bool) = true from h)
    obtain ⟨h3, h4⟩ := recB.1 h1
    obtain ⟨h4, h5⟩ := recB.1 h4
    rw [eqVF_eq _ _ h3, eqVF_eq _ _ h4, Nat.eq_of_beq_eq_true h5, eqENs_eq h2]
theorem eqKVs_eq : ∀ {a b : List (AV × AV)}, eqKVs a b = true → a = b
  | [], [], _ => rfl
  | [], _ :: _, h => by cases h
  | _ :: _, [], h => by cases h
  | (k, v) :: a, (k', v') :: b, h => by
    obtain ⟨h1, h2⟩ := recB.1 (show (Bool.rec false (eqKVs a b) (Bool.rec false (eqVF v v') (eqVF k k')) : Bool) = true from h)
    obtain ⟨h3, h4⟩ := recB.1 h1
    rw [eqVF_eq _ _ h3, eqVF_eq _ _ h4, eqKVs_eq h2]
theorem eqNs_eq : ∀ {a b : List Nat}, eqNs a b = true → a = b
  | [], [], _ => rfl
  | [], _ :: _, h => by cases h
  | _ :: _, [], h => by cases h
  | x :: a, y :: b, h => by
    obtain ⟨h1, h2⟩ := recB.1 (show (Bool.rec false (eqNs a b) (Nat.beq x y) : Bool) = true from h)
    rw [Nat.eq_of_beq_eq_true h1, eqNs_eq h2]
/-- No record of a range over a function. -/
def eqObj (a b : Obj) : Bool := match a, b with
  | .cells cs k, .cells ds k' => Bool.rec false (eqVsF cs ds) (eqKindF k k')
  | .map es c, .map es' c' => Bool.rec false (eqENs es es') (Nat.beq c c')
  | .bag es c, .bag es' c' => Bool.rec false (eqKVs es es') (Nat.beq c c')
  | .chan c b x, .chan c' b' x' => Bool.rec false (Bool.rec false (eqVsF b b') (eqB x x')) (Nat.beq c c')
  | .iter m s l k n, .iter m' s' l' k' n' => Bool.rec false (Bool.rec false (Bool.rec false (Bool.rec false (Nat.beq n n') (eqON k k')) (eqNs l l')) (Nat.beq s s')) (eqON m m')
  | .siter s p, .siter s' p' => Bool.rec false (eqL s s') (Nat.beq p p')
  | .defs, .defs => true
  | _, _ => false
theorem eqObj_eq {a b : Obj} (h : eqObj a b = true) : a = b := by
  unfold eqObj at h
  split at h
  · obtain ⟨h1, h2⟩ := recB.1 h; rw [eqKindF_eq h1, eqVsF_eq h2]
  · obtain ⟨h1, h2⟩ := recB.1 h; rw [Nat.eq_of_beq_eq_true h1, eqENs_eq h2]
  · obtain ⟨h1, h2⟩ := recB.1 h; rw [Nat.eq_of_beq_eq_true h1, eqKVs_eq h2]
  · obtain ⟨h1, h2⟩ := recB.1 h; obtain ⟨h2, h3⟩ := recB.1 h2; rw [Nat.eq_of_beq_eq_true h1, eqBB h2, eqVsF_eq h3]
  · obtain ⟨h1, h2⟩ := recB.1 h
    obtain ⟨h2, h3⟩ := recB.1 h2
    obtain ⟨h3, h4⟩ := recB.1 h3
    obtain ⟨h4, h5⟩ := recB.1 h4
    rw [eqON_eq h1, Nat.eq_of_beq_eq_true h2, eqNs_eq h3, eqON_eq h4, Nat.eq_of_beq_eq_true h5]
  · obtain ⟨h1, h2⟩ := recB.1 h; rw [Nat.eq_of_beq_eq_true h1, (eqL_iff _ _).1 h2]
  · rfl
  · cases h

/-! ### Whole memories -/

def eqOO (a b : Option Obj) : Bool := Option.rec (Option.rec true (fun _ => false) b) (fun x => Option.rec false (fun y => eqObj x y) b) a
/-- What the one has the other has. -/
def inOO (a b : Option Obj) : Bool := Option.rec true (fun x => Option.rec false (fun y => eqObj x y) b) a
theorem eqOO_eq {a b : Option Obj} (h : eqOO a b = true) : a = b := by
  cases a <;> cases b <;> first | rfl | (cases h; done) | skip
  rw [eqObj_eq (show eqObj _ _ = true from h)]
theorem inOO_eq {a b : Option Obj} (h : inOO a b = true) {o : Obj} (ha : a = some o) : b = some o := by
  subst ha
  cases b with
  | none => cases h
  | some y => rw [eqObj_eq (show eqObj _ _ = true from h)]
def and16 (f : D16 → Bool) : Bool := Bool.rec false (Bool.rec false (Bool.rec false (Bool.rec false (Bool.rec false (Bool.rec false (Bool.rec false (Bool.rec false (Bool.rec false (Bool.rec false (Bool.rec false (Bool.rec false (Bool.rec false (Bool.rec false (Bool.rec false (f .df) (f .de)) (f .dd)) (f .dc)) (f .db)) (f .da)) (f .d9)) (f .d8)) (f .d7)) (f .d6)) (f .d5)) (f .d4)) (f .d3)) (f .d2)) (f .d1)) (f .d0)
theorem and16_all {f : D16 → Bool} (h : and16 f = true) (d : D16) : f d = true := by
  unfold and16 at h
  simp only [recB] at h
  obtain ⟨h0, h1, h2, h3, h4, h5, h6, h7, h8, h9, ha, hb, hc, hd, he, hf⟩ := h
  cases d <;> assumption
def allL1 (q : Option Obj → Option Obj → Bool) (a b : L1) : Bool := and16 fun d => q (L1.get d a) (L1.get d b)
def allL2 (q : Option Obj → Option Obj → Bool) (m : Nat) (a b : L2) : Bool := and16 fun d => Bool.rec true (allL1 q (L2.get d a) (L2.get d b)) (Nat.blt (Nat.mul 16 d.val) m)
def allL3 (q : Option Obj → Option Obj → Bool) (m : Nat) (a b : L3) : Bool := and16 fun d => Bool.rec true (allL2 q (Nat.sub m (Nat.mul 256 d.val)) (L3.get d a) (L3.get d b)) (Nat.blt (Nat.mul 256 d.val) m)
def allL4 (q : Option Obj → Option Obj → Bool) (m : Nat) (a b : L4) : Bool := and16 fun d => Bool.rec true (allL3 q (Nat.sub m (Nat.mul 4096 d.val)) (L4.get d a) (L4.get d b)) (Nat.blt (Nat.mul 4096 d.val) m)
/-- Of the first n. -/
def allT (q : Option Obj → Option Obj → Bool) (n : Nat) (a b : T16) : Bool := Bool.rec false (allL4 q n a.t b.t) (Nat.ble n 65536)
theorem recT {a b : Bool} : (Bool.rec true a b : Bool) = true ↔ (b = true → a = true) := by cases b <;> simp
theorem allT_get {q : Option Obj → Option Obj → Bool} {n : Nat} {a b : T16} (h : allT q n a b = true) {i : Nat} (hi : i < n) : q (a.get i) (b.get i) = true := by
  obtain ⟨h0, h⟩ := recB.1 h
  have h0 := Nat.le_of_ble_eq_true h0
  have key : ∀ t : T16, t.get i = t.t.at i := fun t => by
    unfold T16.get
    rw [Nat.ble_eq_true_of_le (show i ≤ 65535 by omega)]
  rw [key, key]
  have v4 : (dig (Nat.div i 4096)).val = i / 4096 := dig_val (Nat.div_lt_of_lt_mul (by omega))
  have v3 : (dig (Nat.mod (Nat.div i 256) 16)).val = i / 256 % 16 := dig_val (Nat.mod_lt _ (by omega))
  have v2 : (dig (Nat.mod (Nat.div i 16) 16)).val = i / 16 % 16 := dig_val (Nat.mod_lt _ (by omega))
  have g4 := recT.1 (and16_all h (dig (Nat.div i 4096)))
  rw [v4] at g4
  have g4 := g4 ((blt_iff _ _).2 (by show 4096 * (i / 4096) < n; omega))
  have g3 := recT.1 (and16_all g4 (dig (Nat.mod (Nat.div i 256) 16)))
  rw [v3] at g3
  have g3 := g3 ((blt_iff _ _).2 (by show 256 * (i / 256 % 16) < n - 4096 * (i / 4096); omega))
  have g2 := recT.1 (and16_all g3 (dig (Nat.mod (Nat.div i 16) 16)))
  rw [v2] at g2
  have g2 := g2 ((blt_iff _ _).2 (by show 16 * (i / 16 % 16) < n - 4096 * (i / 4096) - 256 * (i / 256 % 16); omega))
  exact and16_all g2 (dig (Nat.mod i 16))

/-- What has turned is laid over. -/
def pt (t : T16) (l : List (Nat × Option Obj)) : T16 := List.rec (motive := fun _ => T16 → T16) (fun t => t) (fun p _ ih t => ih (t.put p.1 p.2)) l t
theorem pt_cons (t : T16) (p : Nat × Option Obj) (l : List (Nat × Option Obj)) : pt t (p :: l) = pt (t.put p.1 p.2) l := rfl
theorem pt_out : ∀ {l : List (Nat × Option Obj)} {t : T16} {i : Nat}, (∀ p ∈ l, p.1 ≠ i) → (pt t l).get i = t.get i
  | [], _, _, _ => rfl
  | p :: l, t, i, h => by
    rw [pt_cons, pt_out fun q hq => h q (List.mem_cons_of_mem _ hq)]
    exact T16.get_put_ne _ (h p List.mem_cons_self) _
/-- Where two are alike, what is laid over them is alike. -/
theorem pt_same : ∀ {l : List (Nat × Option Obj)} {t u : T16} {i : Nat}, (t.get i = u.get i ∨ ∃ p ∈ l, p.1 = i) → (pt t l).get i = (pt u l).get i
  | [], _, _, _, h => by
    rcases h with h | ⟨p, hp, _⟩
    · exact h
    · cases hp
  | p :: l, t, u, i, h => by
    rw [pt_cons, pt_cons]
    by_cases hp : p.1 = i
    · exact pt_same (.inl (by rw [← hp, T16.get_put, T16.get_put]))
    · refine pt_same ?_
      rcases h with h | ⟨q, hq, he⟩
      · exact .inl (by rw [T16.get_put_ne _ hp, T16.get_put_ne _ hp]; exact h)
      · rcases List.mem_cons.1 hq with rfl | hq
        · exact absurd he hp
        · exact .inr ⟨q, hq, he⟩

/-! ### A piece: a call in a memory that is written out -/

structure Piece where
  f : FuncId
  args : List AV
  n : Nat
  t : T16
  v : AV
  n' : Nat
  d : List (Nat × Option Obj)

def Piece.pre (p : Piece) : Heap := ⟨p.n, p.t, []⟩
/-- What was there is still there, and is no record of a range over a function; what is new is below the new end. -/
def fineD (n n' : Nat) (tr : T16) (d : List (Nat × Option Obj)) : Bool := List.rec true (fun p _ ih => Bool.rec false ih (Bool.rec (Nat.blt p.1 n') (match tr.get p.1, p.2 with | _, none => true | some (.loop ..), _ => false | _, some (.loop ..) => false | some _, some _ => true | none, some _ => false) (Nat.blt p.1 n))) d
def oldIds (n : Nat) (d : List (Nat × Option Obj)) : List Nat := List.rec [] (fun p _ ih => Bool.rec ih (p.1 :: ih) (Nat.blt p.1 n)) d
def Piece.post (p : Piece) (h : Heap) : Heap := ⟨p.n', pt h.tr p.d, appF (oldIds p.n p.d) h.log⟩
def Piece.call (p : Piece) : CallM := fun f args h =>
  Bool.rec none (Bool.rec none (Bool.rec none (Bool.rec none (Bool.rec none (some [(p.v, p.post h)]) (fineD p.n p.n' h.tr p.d)) (Nat.ble p.n p.n')) (allT eqOO p.n p.t h.tr)) (eqVsF args p.args)) (Bool.rec false (Nat.beq h.next p.n) (Nat.beq f p.f))
/-- Does the machine come to what is written? -/
def Piece.ok (call : CallM) (p : Piece) : Bool := match call p.f p.args p.pre with
  | some [(v, h')] => Bool.rec false (Bool.rec false (allT inOO p.n' (pt p.t p.d) h'.tr) (Nat.beq h'.next p.n')) (eqVF v p.v)
  | _ => false
def Bnd (n : Nat) (t : T16) : Prop := ∀ i, n ≤ i → t.get i = none

theorem fineD_mem {n n' : Nat} {tr : T16} : ∀ {d : List (Nat × Option Obj)}, fineD n n' tr d = true → ∀ p ∈ d, if p.1 < n then p.2 = none ∨ ∃ o o', tr.get p.1 = some o ∧ p.2 = some o' ∧ o.stat = o'.stat else p.1 < n'
  | [], _, p, hp => by cases hp
  | q :: d, h, p, hp => by
    obtain ⟨h1, h2⟩ := recB.1 (show (Bool.rec false (fineD n n' tr d) _ : Bool) = true from h)
    rcases List.mem_cons.1 hp with rfl | hp
    · cases hb : Nat.blt p.1 n with
      | true =>
        rw [hb] at h1
        rw [if_pos ((blt_iff _ _).1 hb)]
        simp only at h1
        split at h1
        · rename_i hq; exact .inl hq
        · cases h1
        · cases h1
        · rename_i o o' hn1 hn2 ho ho'
          refine .inr ⟨o, o', ho, ho', ?_⟩
          cases o <;> cases o' <;> first | rfl | (exact absurd rfl (hn1 _ _ _ _ _ _ _ _)) | (exact absurd rfl (hn2 _ _ _ _ _ _ _ _))
        · cases h1
      | false =>
        rw [hb] at h1
        rw [if_neg (fun hh => by rw [(blt_iff _ _).2 hh] at hb; cases hb)]
        exact (blt_iff _ _).1 h1
    · exact fineD_mem h2 p hp
theorem oldIds_mem {n : Nat} : ∀ {d : List (Nat × Option Obj)} {p : Nat × Option Obj}, p ∈ d → p.1 < n → p.1 ∈ oldIds n d
  | [], p, hp, _ => by cases hp
  | q :: d, p, hp, hn => by
    show p.1 ∈ (Bool.rec (oldIds n d) (q.1 :: oldIds n d) (Nat.blt q.1 n) : List Nat)
    rcases List.mem_cons.1 hp with rfl | hp
    · rw [(blt_iff _ _).2 hn]; exact List.mem_cons_self
    · have := oldIds_mem hp hn
      cases Nat.blt q.1 n with
      | true => exact List.mem_cons_of_mem _ this
      | false => exact this
theorem Piece.call_some {p : Piece} {f : FuncId} {args : List AV} {h : Heap} {L : List (AV × Heap)} (hL : p.call f args h = some L) :
    f = p.f ∧ h.next = p.n ∧ args = p.args ∧ allT eqOO p.n p.t h.tr = true ∧ p.n ≤ p.n' ∧ fineD p.n p.n' h.tr p.d = true ∧ L = [(p.v, p.post h)] := by
  unfold Piece.call at hL
  have key : ∀ {x : Option (List (AV × Heap))} {b : Bool}, (Bool.rec none x b : Option (List (AV × Heap))) = some L → b = true ∧ x = some L := by
    intro x b hh
    cases b with
    | false => cases hh
    | true => exact ⟨rfl, hh⟩
  obtain ⟨h1, hL⟩ := key hL
  obtain ⟨h2, hL⟩ := key hL
  obtain ⟨h3, hL⟩ := key hL
  obtain ⟨h4, hL⟩ := key hL
  obtain ⟨h5, hL⟩ := key hL
  obtain ⟨h6, h7⟩ := recB.1 h1
  exact ⟨Nat.eq_of_beq_eq_true h6, Nat.eq_of_beq_eq_true h7, eqVsF_eq h2, h3, Nat.le_of_ble_eq_true h4, h5, (Option.some.inj hL).symm⟩
theorem Piece.call_ok {P : Program} {call : CallM} (hc : CallMOk P call) {p : Piece} (hok : p.ok call = true) (hb : Bnd p.n p.t) : CallMOk P p.call where
  post := fun f args h L hL => by
    obtain ⟨rfl, hn, rfl, hT, hle, hfine, rfl⟩ := Piece.call_some hL
    have hsame : ∀ i, i < p.n → p.t.get i = h.get i := fun i hi => eqOO_eq (allT_get hT hi)
    unfold Piece.ok at hok
    split at hok
    · rename_i v h' hcall
      obtain ⟨h1, h2⟩ := recB.1 hok
      obtain ⟨h2, h3⟩ := recB.1 h2
      have hv : v = p.v := eqVF_eq _ _ h1
      have hn' := Nat.eq_of_beq_eq_true h2
      subst hv
      intro φ w0 w args' hR hva
      have hall : ∀ i, p.t.get i = h.get i := fun i => by
        by_cases hi : i < p.n
        · exact hsame i hi
        · rw [hb i (by omega)]
          exact (hR.wfh i (by omega)).symm
      have hRpre : R P φ p.pre w0 w := hR.same hn.symm hall
      have hp := hc.post _ _ _ _ hcall φ w0 w args' hRpre hva
      have up : ∀ e w', LPost P φ w0 [(p.v, h')] e w' → LPost P φ w0 [(p.v, p.post h)] e w' := by
        rintro e w' ⟨q, hq, φ', u, he, hu, hR', hV⟩
        rw [List.mem_singleton] at hq
        subst hq
        refine ⟨_, List.mem_singleton.2 rfl, φ', u, he, hu, ?_, hV⟩
        refine R.less hR' ⟨hn'.symm, fun i o ho => ?_⟩
        have ho : (pt h.tr p.d).get i = some o := ho
        have heq : (pt p.t p.d).get i = (pt h.tr p.d).get i := pt_same (.inl (hall i))
        rw [← heq] at ho
        by_cases hi : i < p.n'
        · exact inOO_eq (allT_get h3 hi) ho
        · exfalso
          rw [pt_out (fun q hq he => ?_), hb i (by omega)] at ho
          · cases ho
          · have := fineD_mem hfine q hq
            split at this <;> omega
      split at hp
      · rename_i hlt
        rw [if_pos hlt]
        exact hp.mono up
      · rename_i hlt
        rw [if_neg hlt]
        exact fun e he => (hp e he).mono up
    · cases hok
  grow := fun f args h L hL => by
    obtain ⟨rfl, hn, rfl, hT, hle, hfine, rfl⟩ := Piece.call_some hL
    intro q hq
    rw [List.mem_singleton] at hq
    subst hq
    have hmem := fineD_mem hfine
    refine ⟨by show h.next ≤ p.n'; omega, ⟨oldIds p.n p.d, appF_eq _ _, fun i hi hni => ?_⟩, fun hw i hi => ?_, fun i hi => ?_⟩
    · show (pt h.tr p.d).get i = h.get i
      exact pt_out fun q hq he => hni (by subst he; exact oldIds_mem hq (by omega))
    · have hi : p.n' ≤ i := hi
      show (pt h.tr p.d).get i = none
      rw [pt_out fun q hq he => ?_]
      · exact hw i (by omega)
      · have := hmem q hq
        split at this <;> omega
    · show Stay (h.get i) ((pt h.tr p.d).get i)
      suffices H : ∀ (l : List (Nat × Option Obj)) (t : T16), (∀ q ∈ l, q ∈ p.d) → Stay (h.get i) (t.get i) → Stay (h.get i) ((pt t l).get i) from H p.d h.tr (fun _ hq => hq) (Stay.refl _)
      intro l
      induction l with
      | nil => intro t _ hs; exact hs
      | cons q l ih =>
        intro t hl hs
        rw [pt_cons]
        refine ih _ (fun r hr => hl r (List.mem_cons_of_mem _ hr)) ?_
        by_cases he : q.1 = i
        · subst he
          rw [T16.get_put]
          have hlt : q.1 < p.n := by omega
          have := hmem q (hl q List.mem_cons_self)
          rw [if_pos hlt] at this
          rcases this with h1 | ⟨o, o', h1, h2, h3⟩
          · rw [h1]; intro o ho; cases ho
          · rw [h2]; intro x hx; cases hx; exact ⟨o, h1, h3⟩
        · rw [T16.get_put_ne _ he]; exact hs

/-- One or the other. -/
def orM (a b : CallM) : CallM := fun f args h => Option.rec (b f args h) some (a f args h)
theorem orM_ok {P : Program} {a b : CallM} (ha : CallMOk P a) (hb : CallMOk P b) : CallMOk P (orM a b) := by
  have key : ∀ f args h L, orM a b f args h = some L → a f args h = some L ∨ b f args h = some L := by
    intro f args h L hL
    unfold orM at hL
    cases hx : a f args h with
    | none => rw [hx] at hL; exact .inr hL
    | some x => rw [hx] at hL; exact .inl hL
  refine ⟨fun f args h L hL => ?_, fun f args h L hL => ?_⟩
  · rcases key f args h L hL with h1 | h1
    · exact ha.post _ _ _ _ h1
    · exact hb.post _ _ _ _ h1
  · rcases key f args h L hL with h1 | h1
    · exact ha.grow _ _ _ _ h1
    · exact hb.grow _ _ _ _ h1
def piecesM (ps : List Piece) : CallM := List.rec noCall (fun p _ ih => orM p.call ih) ps
def allOk (call : CallM) (ps : List Piece) : Bool := List.rec true (fun p _ ih => Bool.rec false ih (p.ok call)) ps
theorem piecesM_ok {P : Program} {call : CallM} (hc : CallMOk P call) : ∀ {ps : List Piece}, allOk call ps = true → (∀ p ∈ ps, Bnd p.n p.t) → CallMOk P (piecesM ps)
  | [], _, _ => noCall_ok
  | p :: ps, h, hb => by
    obtain ⟨h1, h2⟩ := recB.1 (show (Bool.rec false (allOk call ps) (p.ok call) : Bool) = true from h)
    exact orM_ok (Piece.call_ok hc h1 (hb p List.mem_cons_self)) (piecesM_ok hc h2 fun q hq => hb q (List.mem_cons_of_mem _ hq))
/-- Nothing stands behind the end. -/
def belowD (n : Nat) (d : List (Nat × Option Obj)) : Bool := List.rec true (fun p _ ih => Bool.rec false ih (Nat.blt p.1 n)) d
theorem Bnd.pt {n n' : Nat} (hn : n ≤ n') : ∀ {d : List (Nat × Option Obj)} {t : T16}, Bnd n t → belowD n' d = true → Bnd n' (pt t d)
  | [], t, h, _ => fun i hi => h i (by omega)
  | p :: d, t, h, hd => by
    obtain ⟨h1, h2⟩ := recB.1 (show (Bool.rec false (belowD n' d) (Nat.blt p.1 n') : Bool) = true from hd)
    have h1 := (blt_iff _ _).1 h1
    rw [pt_cons]
    refine Bnd.pt (Nat.le_refl n') (fun i hi => ?_) h2
    rw [T16.get_put_ne _ (by omega)]
    exact h i (by omega)
end Go.Am
