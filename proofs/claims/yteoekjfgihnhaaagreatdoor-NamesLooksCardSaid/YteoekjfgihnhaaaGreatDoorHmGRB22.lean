/- Parts of the proof by the abstract machine: Grow, ExS, ExR, ExD. -/
import Derived.Test.YteoekjfgihnhaaaGreatDoorHmGRB17
import Derived.Test.YteoekjfgihnhaaaGreatDoorHmGRB21
import Derived.Test.YteoekjfgihnhaaaGreatDoorHmGRB16
set_option linter.all false
noncomputable section
namespace Go.Am
open Go.RowKit

section
variable {P : Program} {h h' : Heap} {v : AV}
theorem withH_grows {x : Option AV} (hx : withH h x = some (v, h')) : Grows h h' := by rw [(withH_some hx).2]; exact Grows.refl _
theorem writeA_grows {l : Loc} {vs : List AV} (hw : writeA h l vs = some h') : Grows h h' := by
  unfold writeA at hw
  simp only [cond_eq_ite] at hw
  repeat' split at hw
  all_goals first | (cases hw; done) | (cases hw; exact Grows.set (by assumption))
theorem storeA_grows {t : TypeId} {l : Loc} {x : AV} (hw : storeA P h t l x = some h') : Grows h h' := by
  unfold storeA at hw
  simp only [cond_eq_ite] at hw
  repeat' split at hw
  all_goals first | (cases hw; done) | exact writeA_grows hw
theorem boxA_grows {t : TypeId} {x : AV} (hw : boxA t h x = some (v, h')) : Grows h h' := by
  unfold boxA newA at hw
  split at hw
  · cases hw; exact Grows.alloc _ _
  · cases hw
theorem allocA_grows {t : TypeId} (hw : allocA P h t = some (v, h')) : Grows h h' := by
  unfold allocA at hw
  split at hw
  · exact boxA_grows hw
  · cases hw
theorem buildSliceA_grows {t : TypeId} {n : Nat} {ps : List (Nat × AV)} (hw : buildSliceA P h t n ps = some (v, h')) : Grows h h' := by
  unfold buildSliceA at hw
  simp only [cond_eq_ite] at hw
  repeat' split at hw
  all_goals first | (cases hw; done) | (cases hw; exact Grows.alloc _ _)
theorem convA_grows {s d : TypeId} {x : AV} (hw : convA P h s d x = some (v, h')) : Grows h h' := by
  unfold convA at hw
  split at hw
  · rename_i r hc
    cases hw
    unfold convertA at hc
    repeat' split at hc
    all_goals first | (cases hc; done) | (cases hc; first | exact Grows.refl _ | exact Grows.alloc _ _)
  · split at hw
    · rename_i r hc
      cases hw
      unfold convSlA at hc
      simp only [cond_eq_ite] at hc
      repeat' split at hc
      all_goals first | (cases hc; done) | (cases hc; exact Grows.set (by assumption))
    · exact withH_grows hw
theorem clearSA_grows {t : TypeId} {x : AV} (hw : clearSA P h t x = some h') : Grows h h' := by
  unfold clearSA at hw
  simp only [cond_eq_ite] at hw
  repeat' split at hw
  all_goals first | (cases hw; done) | exact writeA_grows hw
theorem makeSliceA_grows {t : TypeId} {x y : AV} (hw : makeSliceA P h t x y = some (v, h')) : Grows h h' := by
  unfold makeSliceA at hw
  repeat' split at hw
  all_goals first | (cases hw; done) | (cases hw; exact Grows.alloc _ _)
theorem makeChanA_grows {t : TypeId} {x : AV} (hw : makeChanA P h t x = some (v, h')) : Grows h h' := by
  unfold makeChanA at hw
  repeat' split at hw
  all_goals first | (cases hw; done) | (cases hw; exact Grows.alloc _ _)
theorem appendCore_grows {e : TypeId} {size n : Nat} {news : List AV} {s : AV} (hw : appendCore P h e size n news s = some (v, h')) : Grows h h' := by
  unfold appendCore at hw
  simp only [cond_eq_ite] at hw
  repeat' split at hw
  all_goals first | (cases hw; done) | (cases hw; first | exact Grows.refl _ | exact Grows.alloc _ _ | exact (Grows.del _ _).trans (Grows.alloc _ _) | (apply writeA_grows; assumption))
theorem appendA_grows {t u : TypeId} {s x : AV} (hw : appendA P h t u s x = some (v, h')) : Grows h h' := by
  unfold appendA at hw
  repeat' split at hw
  all_goals first | (cases hw; done) | exact appendCore_grows hw
theorem appendZA_grows {t u : TypeId} {s x : AV} (hw : appendZA P h t u s x = some (v, h')) : Grows h h' := by
  unfold appendZA at hw
  simp only [cond_eq_ite] at hw
  repeat' split at hw
  all_goals first | (cases hw; done) | exact appendCore_grows hw
theorem copyA_grows {t : TypeId} {s x : AV} (hw : copyA P h t s x = some (v, h')) : Grows h h' := by
  unfold copyA at hw
  simp only [cond_eq_ite] at hw
  repeat' split at hw
  all_goals first | (cases hw; done) | (cases hw; first | exact Grows.refl _ | (apply writeA_grows; assumption))
theorem closeA_grows {i : Nat} (hw : closeA h i = some (v, h')) : Grows h h' := by
  unfold closeA at hw
  split at hw
  · cases hw; exact Grows.set (by assumption)
  · cases hw
theorem ustrA_grows {t : TypeId} {s x : AV} (hw : ustrA P h t s x = some (v, h')) : Grows h h' := by
  unfold ustrA ustr1A at hw
  simp only [cond_eq_ite] at hw
  repeat' split at hw
  all_goals first | (cases hw; done) | (cases hw; first | exact Grows.refl _ | exact Grows.set (by assumption))
theorem mapUpdateA_grows {t : TypeId} {m k x : AV} (hw : mapUpdateA P h t m k x = some h') : Grows h h' := by
  unfold mapUpdateA at hw
  repeat' split at hw
  all_goals first | (cases hw; done) | (cases hw; exact Grows.set (by assumption))
theorem mapUpdateB_grows {t : TypeId} {m k x : AV} (hw : mapUpdateB P h t m k x = some h') : Grows h h' := by
  unfold mapUpdateB at hw
  simp only [cond_eq_ite] at hw
  repeat' split at hw
  all_goals first | (cases hw; done) | (cases hw; exact Grows.set (by assumption))
theorem mapEntryA_grows {t : TypeId} {m k : AV} (hw : mapEntryA P h t m k = some (v, h')) : Grows h h' := by
  unfold mapEntryA at hw
  repeat' split at hw
  all_goals first | (cases hw; done) | (cases hw; exact Grows.set (by assumption))
theorem entryStoreA_grows {m k x : AV} (hw : entryStoreA h m k x = some h') : Grows h h' := by
  unfold entryStoreA at hw
  repeat' split at hw
  all_goals first | (cases hw; done) | (cases hw; exact Grows.set (by assumption))
theorem deleteA_grows {t : TypeId} {m k : AV} (hw : deleteA P h t m k = some (v, h')) : Grows h h' := by
  unfold deleteA at hw
  repeat' split at hw
  all_goals first | (cases hw; done) | (cases hw; first | exact Grows.refl _ | exact Grows.set (by assumption))
theorem mapUpdateG_grows {t : TypeId} {m k x : AV} (hw : mapUpdateG P h t m k x = some h') : Grows h h' := by
  unfold mapUpdateG at hw
  repeat' split at hw
  all_goals first | (cases hw; done) | (cases hw; exact Grows.set (by assumption))
theorem mapUpdateM_grows {t : TypeId} {m k x : AV} (hw : mapUpdateM P h t m k x = some h') : Grows h h' := by
  unfold mapUpdateM at hw
  split at hw
  · cases hw; exact mapUpdateA_grows (by assumption)
  · split at hw
    · cases hw; exact mapUpdateB_grows (by assumption)
    · exact mapUpdateG_grows hw
theorem rangeA_grows {t : TypeId} {x : AV} (hw : rangeA P h t x = some (v, h')) : Grows h h' := by
  unfold rangeA at hw
  repeat' split at hw
  all_goals first | (cases hw; done) | (cases hw; exact Grows.alloc _ _)
theorem builtinA_grows {b : Builtin} {ts : List TypeId} {args : List AV} (hw : builtinA P h b ts args = some (v, h')) : Grows h h' := by
  unfold builtinA at hw
  repeat' split at hw
  all_goals first
    | (cases hw; done)
    | exact withH_grows hw
    | (cases hw; exact Grows.refl _)
    | (rename_i hx; cases hw; first | exact appendA_grows hx | exact clearSA_grows hx)
    | exact appendZA_grows hw
    | exact copyA_grows hw
    | exact closeA_grows hw
    | exact ustrA_grows hw
    | exact deleteA_grows hw
theorem aop_grows {env : List AV} {op : Op} (hw : aop P env h op = some (v, h')) : Grows h h' := by
  cases op <;> simp only [aop] at hw
  case call c =>
    split at hw
    · exact builtinA_grows hw
    · cases hw
  case makeMap t r =>
    cases r with
    | none => simp only [makeMapA] at hw; cases hw; exact Grows.alloc _ _
    | some x => cases hw
  all_goals first
    | (cases hw; done)
    | exact withH_grows hw
    | (cases hw; exact Grows.refl _)
    | exact allocA_grows hw
    | exact boxA_grows hw
    | exact buildSliceA_grows hw
    | exact convA_grows hw
    | exact makeSliceA_grows hw
    | exact makeChanA_grows hw
    | exact rangeA_grows hw
    | exact mapEntryA_grows hw
    | (repeat' split at hw
       all_goals first | (cases hw; done) | (cases hw; exact Grows.refl _) | exact withH_grows hw | (rename_i hx; cases hw; first | exact storeA_grows hx | exact mapUpdateM_grows hx | exact entryStoreA_grows hx))
theorem natA_grows {k : NK} {args : List AV} (hw : natA h k args = some (.ret v h')) : Grows h h' := by
  unfold natA at hw
  simp only [cond_eq_ite] at hw
  repeat' split at hw
  all_goals first | (cases hw; done) | (cases hw; first | exact Grows.refl _ | exact Grows.alloc _ _ | (apply writeA_grows; assumption))
theorem nextS_grows {it : AV} (hw : nextS h it = some (v, h')) : Grows h h' := by
  unfold nextS at hw
  simp only [cond_eq_ite] at hw
  repeat' split at hw
  all_goals first | (cases hw; done) | (cases hw; first | exact Grows.refl _ | exact Grows.set (by assumption))
theorem nextM_grows {it : AV} {L : List (AV × Heap)} (hw : nextM h it = some L) : ∀ p ∈ L, Grows h p.2 := by
  unfold nextM at hw
  simp only [cond_eq_ite] at hw
  repeat' split at hw
  all_goals first
    | (cases hw; done)
    | (cases hw; intro p hp; rw [List.mem_singleton] at hp; subst hp; exact Grows.refl _)
    | (cases hw; intro p hp; obtain ⟨x, _, rfl⟩ := List.mem_map.1 hp; exact Grows.set (by assumption))
end
end Go.Am

noncomputable section
namespace Go.Am
open Go.RowKit

/-! ### What is said of calls, of what is deferred -/

def LPost (P : Program) (φ : List Emb) (w0 : World) (L : List (AV × Heap)) (e : Ending) (w' : World) : Prop := ∃ p ∈ L, PostC P φ w0 (.ret p.1 p.2) e w'
structure CallMOk (P : Program) (call : CallM) : Prop where
  post : ∀ f args h L, call f args h = some L → CallPost P f args h fun φ w0 => LPost P φ w0 L
  grow : ∀ f args h L, call f args h = some L → ∀ p ∈ L, Grows h p.2

def DS (φ : List Emb) : List DVM → List Deferred → Prop
  | [], l => l = []
  | .call f args :: ds, l => ∃ as cap xs, l = ⟨.fn (.func f) cap, as⟩ :: xs ∧ Vs φ args (as ++ cap).toList ∧ DS φ ds xs
  | .mark k :: ds, l => ∃ e xs, φ[k]? = some e ∧ l = ⟨.collected e.blk, #[]⟩ :: xs ∧ DS φ ds xs
theorem DS.up {φ φ' : List Emb} (hu : Up φ φ') : ∀ {ds : List DVM} {l : List Deferred}, DS φ ds l → DS φ' ds l
  | [], _, h => h
  | .call f args :: ds, l, h => by
    obtain ⟨as, cap, xs, h1, h2, h3⟩ := h
    exact ⟨as, cap, xs, h1, Vs.up hu _ _ h2, DS.up hu h3⟩
  | .mark k :: ds, l, h => by
    obtain ⟨e, xs, h1, h2, h3⟩ := h
    exact ⟨e, xs, hu.get h1, h2, DS.up hu h3⟩

def QO (Q : Exit → Act → World → Prop) (o : Out) (a : Act) (w : World) : Prop :=
  match o with
  | .normal => Q .normal a w
  | .exit i => Q (.exit i) a w
  | .ret => Q .ret a w
  | .pan _ => True
/-- What a continuation comes to is what is asked. -/
def SX (P : Program) (φ : List Emb) (w0 : World) (n : Nat) (L : List Res) (K : Act → World → Prop) (k : KX) : Prop :=
  ∀ e h ds L', k e h ds = some L' → (∀ r ∈ L', r ∈ L) → ∀ φ' w a, Up φ φ' → R P φ' h w0 w → Vs φ' (envL n e) a.tmps.toList → DS φ' ds a.defers → K a w
theorem SX.up {P : Program} {φ φ' : List Emb} {w0 : World} {n : Nat} {L : List Res} {K : Act → World → Prop} {k : KX} (h : SX P φ w0 n L K k) (hu : Up φ φ') : SX P φ' w0 n L K k :=
  fun e h' ds L' hk hs φ'' w a hu' => h e h' ds L' hk hs φ'' w a (hu.trans hu')
/-- Every end comes from the continuation, memory having gone on. -/
def From (h0 : Heap) (k : KX) (L : List Res) : Prop := ∀ r ∈ L, ∃ e h ds L', k e h ds = some L' ∧ r ∈ L' ∧ Grows h0 h

/-! ### Lists of outcomes -/

theorem joinR_some {a b : RX} {L : List Res} (h : joinR a b = some L) : ∃ x y, a = some x ∧ b = some y ∧ L = x ++ y := by
  cases a with
  | none => cases h
  | some x =>
    cases b with
    | none => cases h
    | some y => cases h; exact ⟨x, y, rfl, rfl, appF_eq x y⟩
def OutsL {α : Type} (l : List α) (kk : α → RX) (L : List Res) : Prop :=
  (∀ x ∈ l, ∃ L', kk x = some L' ∧ ∀ r ∈ L', r ∈ L) ∧ ∀ r ∈ L, ∃ x ∈ l, ∃ L', kk x = some L' ∧ r ∈ L'
theorem fanAll_some {kk : AV → Heap → RX} : ∀ {l : List (AV × Heap)} {L : List Res}, fanAll l kk = some L → OutsL l (fun p => kk p.1 p.2) L
  | [], L, h => by cases h; exact ⟨by simp, by simp⟩
  | p :: l, L, h => by
    obtain ⟨x, y, h1, h2, rfl⟩ := joinR_some h
    have ih := fanAll_some h2
    refine ⟨fun q hq => ?_, fun r hr => ?_⟩
    · rcases List.mem_cons.1 hq with rfl | hq
      · exact ⟨x, h1, fun r hr => List.mem_append.2 (.inl hr)⟩
      · obtain ⟨L', h3, h4⟩ := ih.1 q hq
        exact ⟨L', h3, fun r hr => List.mem_append.2 (.inr (h4 r hr))⟩
    · rcases List.mem_append.1 hr with hr | hr
      · exact ⟨p, List.mem_cons_self, x, h1, hr⟩
      · obtain ⟨q, h3, L', h4, h5⟩ := ih.2 r hr
        exact ⟨q, List.mem_cons_of_mem _ h3, L', h4, h5⟩
theorem fan_some {kk : AV → Heap → RX} {l : Option (List (AV × Heap))} {L : List Res} (h : fan l kk = some L) : ∃ l0, l = some l0 ∧ OutsL l0 (fun p => kk p.1 p.2) L := by
  cases l with
  | none => cases h
  | some l0 =>
    refine ⟨l0, rfl, ?_⟩
    match l0, h with
    | [], h => cases h
    | [p], h => exact ⟨fun q hq => by rw [List.mem_singleton] at hq; subst hq; exact ⟨L, h, fun _ hr => hr⟩, fun r hr => ⟨p, List.mem_cons_self, L, h, hr⟩⟩
    | p :: q :: ps, h => exact fanAll_some h
theorem OutsL.one {α : Type} {x : α} {kk : α → RX} {L : List Res} (h : kk x = some L) : OutsL [x] kk L :=
  ⟨fun q hq => by rw [List.mem_singleton] at hq; subst hq; exact ⟨L, h, fun _ hr => hr⟩, fun r hr => ⟨x, List.mem_cons_self, L, h, hr⟩⟩
theorem OutsL.map {α β : Type} {f : α → β} {l : List α} {kk : β → RX} {L : List Res} (h : OutsL l (fun x => kk (f x)) L) : OutsL (l.map f) kk L := by
  refine ⟨fun q hq => ?_, fun r hr => ?_⟩
  · obtain ⟨x, hx, rfl⟩ := List.mem_map.1 hq
    exact h.1 x hx
  · obtain ⟨x, hx, L', h1, h2⟩ := h.2 r hr
    exact ⟨f x, List.mem_map.2 ⟨x, hx, rfl⟩, L', h1, h2⟩

/-! ### What an operation does -/

structure VHD where
  v : AV
  h : Heap
  ds : List DVM
/-- Which function an operation calls, with what. -/
inductive Target0 (P : Program) (env : List AV) (hp : Heap) : Op → FuncId → List AV → Prop
  | fn {f : Operand} {xs : Array Operand} {ats : Array TypeId} {g : FuncId} {first cap : List AV} (h : evalA P env f = .func (.func g) first cap) (hlt : g < P.funcs.size) : Target0 P env hp (.call ⟨.value f, xs, ats⟩) g ((first ++ evals P env xs.toList) ++ cap)
  | yield {f : Operand} {xs : Array Operand} {ats : Array TypeId} {k : Nat} (h : evalA P env f = .yield k) : Target0 P env hp (.call ⟨.value f, xs, ats⟩) (P.funcs.size + k) (evals P env xs.toList)
  | invoke {r : Operand} {name : String} {xs : Array Operand} {ats : Array TypeId} {t : TypeId} {v u : AV} {g : FuncId} (h : evalA P env r = .iface t v) (hm : recvM P hp t v name = some (g, u)) (hlt : g < P.funcs.size) : Target0 P env hp (.call ⟨.invoke r name, xs, ats⟩) g (u :: evals P env xs.toList)
inductive Does (P : Program) (call : CallM) (inR : Bool) (env : List AV) (h : Heap) (ds : List DVM) : Op → List VHD → Prop
  | plain {op : Op} {v : AV} {h' : Heap} (ho : aop P env h op = some (v, h')) : Does P call inR env h ds op [⟨v, h', ds⟩]
  | call {op : Op} {g : FuncId} {args : List AV} {l : List (AV × Heap)} (ht : Target0 P env h op g args) (hc : call g args h = some l) : Does P call inR env h ds op (l.map fun p => ⟨p.1, p.2, ds⟩)
  | nextM {it : Operand} {l : List (AV × Heap)} (hn : nextM h (evalA P env it) = some l) : Does P call inR env h ds (.next it false) (l.map fun p => ⟨p.1, p.2, ds⟩)
  | nextS {it : Operand} {v : AV} {h' : Heap} (hn : nextS h (evalA P env it) = some (v, h')) : Does P call inR env h ds (.next it true) [⟨v, h', ds⟩]
  | defer {f : Operand} {xs : Array Operand} {ats : Array TypeId} {g : FuncId} {first cap : List AV} (hi : inR = false) (hf : evalA P env f = .func (.func g) first cap) :
      Does P call inR env h ds (.defer ⟨.value f, xs, ats⟩) [⟨.tuple [], h, .call g ((first ++ evals P env xs.toList) ++ cap) :: ds⟩]

def CO.run (c : CO) (call : CallM) (k : KX) : KX := CO.rec (fun f => f call k) c

section
variable {P : Program} {call : CallM} {inR : Bool} {n : Nat} {ops : Array Oper}

theorem wantM_some {g : G} {b : Bool} {e : Env} {t : Bool} (h : wantM g b e = some t) : (∃ c, g e = .bool c ∧ t = (c == b)) ∨ ((∃ vs, g e = .tuple vs) ∧ t = false) := by
  unfold wantM at h
  cases hb : asB (g e) with
  | some c =>
    rw [hb] at h
    cases h
    exact .inl ⟨c, asB_some hb, by cases c <;> cases b <;> rfl⟩
  | none =>
    rw [hb] at h
    change isTup (g e) = some t at h
    cases hg : g e <;> rw [hg] at h <;> first | (cases h; done) | skip
    cases h
    exact .inr ⟨⟨_, rfl⟩, rfl⟩
theorem wantG_wanted {o : Oper} {e : Env} {t : Bool} (h : wantG (guardOf n ops o) e = some t) : wantedA ops (envL n e) o = some t := by
  unfold guardOf at h
  unfold wantedA
  split at h
  · rename_i hg
    rw [hg]
    cases h; rfl
  · rename_i j b hg
    rw [hg]
    simp only
    split at h
    · rename_i hd
      rw [hd]
      cases h; rfl
    · rename_i d hd
      rw [hd]
      simp only
      cases hlt : Nat.blt d n with
      | false => rw [hlt] at h; cases h
      | true =>
        rw [hlt] at h
        have hev := tmpS_ev n d e
        cases hs : tmpS n d with
        | mk g =>
          rw [hs] at h hev
          change wantM g b e = some t at h
          change g e = _ at hev
          rw [← hev]
          rcases wantM_some h with ⟨c, h1, rfl⟩ | ⟨⟨vs, h1⟩, rfl⟩
          · rw [h1]
          · rw [h1]
theorem gated_some {gd : GD} {p : Pt} {F : CallM → KX → KX} {k : KX} {e : Env} {h : Heap} {ds : List DVM} {L : List Res} (hr : (gated gd p F).run call k e h ds = some L) :
    (wantG gd e = some true ∧ F call k e h ds = some L) ∨ (wantG gd e = some false ∧ k (p (.tuple []) e) h ds = some L) := by
  cases gd with
  | all => exact .inl ⟨rfl, hr⟩
  | never => exact .inr ⟨rfl, hr⟩
  | bad => cases hr
  | when g b =>
    change Option.rec none (fun t => Bool.rec (skipK p k e h ds) (F call k e h ds) t) (wantM g b e) = some L at hr
    change (wantM g b e = some true ∧ _) ∨ (wantM g b e = some false ∧ _)
    cases hw : wantM g b e with
    | none => rw [hw] at hr; cases hr
    | some t =>
      rw [hw] at hr
      cases t with
      | true => exact .inl ⟨rfl, hr⟩
      | false => exact .inr ⟨rfl, hr⟩

/-- What is done goes to the continuation. -/
def Goes1 (n : Nat) (o : Oper) (k : KX) (e : Env) (l : List VHD) (L : List Res) : Prop := OutsL l (fun x => k ((dstOf n o.dst).put x.v e) x.h x.ds) L

theorem compO_run {o : Oper} {k : KX} {e : Env} {h : Heap} {ds : List DVM} {L : List Res} (hr : (compO P inR n ops o).run call k e h ds = some L) :
    (wantedA ops (envL n e) o = some true ∧ ∃ l, Does P call inR (envL n e) h ds o.op l ∧ Goes1 n o k e l L) ∨
    (wantedA ops (envL n e) o = some false ∧ k ((dstOf n o.dst).put (.tuple []) e) h ds = some L) := by
  have hput : ∀ v, (dstOf n o.dst).put v e = Dst.rec (fun p => p v e) (dstOf n o.dst) := fun v => rfl
  unfold Goes1
  unfold compO at hr
  cases hd : dstOf n o.dst with
  | mk p =>
  rw [hd] at hr
  simp only at hr
  have fin : ∀ {F : CallM → KX → KX}, (gated (guardOf n ops o) p F).run call k e h ds = some L → (F call k e h ds = some L → ∃ l, Does P call inR (envL n e) h ds o.op l ∧ OutsL l (fun x => k ((Dst.mk p).put x.v e) x.h x.ds) L) →
      (wantedA ops (envL n e) o = some true ∧ ∃ l, Does P call inR (envL n e) h ds o.op l ∧ OutsL l (fun x => k ((Dst.mk p).put x.v e) x.h x.ds) L) ∨ (wantedA ops (envL n e) o = some false ∧ k ((Dst.mk p).put (.tuple []) e) h ds = some L) := by
    intro F hg hF
    rcases gated_some hg with ⟨h1, h2⟩ | ⟨h1, h2⟩
    · exact .inl ⟨wantG_wanted h1, hF h2⟩
    · exact .inr ⟨wantG_wanted h1, h2⟩
  have opk : ∀ {op : Op}, o.op = op → (CI.rec (fun f => gated (guardOf n ops o) p (opK p f)) (compOp P n op) : CO).run call k e h ds = some L →
      (wantedA ops (envL n e) o = some true ∧ ∃ l, Does P call inR (envL n e) h ds o.op l ∧ OutsL l (fun x => k ((Dst.mk p).put x.v e) x.h x.ds) L) ∨ (wantedA ops (envL n e) o = some false ∧ k ((Dst.mk p).put (.tuple []) e) h ds = some L) := by
    intro op hop hg
    cases hc : compOp P n op with
    | op f =>
      rw [hc] at hg
      refine fin hg fun hF => ?_
      change R1.rec none (fun v h' => k (p v e) h' ds) (f e h) = some L at hF
      cases hf : f e h with
      | no => rw [hf] at hF; cases hF
      | ok v h' =>
        rw [hf] at hF
        have h1 : (compOp P n op).run e h = .ok v h' := by rw [hc]; exact hf
        exact ⟨_, .plain (by rw [hop]; exact compOp_run h1), OutsL.one hF⟩
  have mov : ∀ {x : Operand}, (∀ env, aop P env h o.op = some (evalA P env x, h)) → (Src.rec (fun g => gated (guardOf n ops o) p (moveK p g)) (srcOf P n x) : CO).run call k e h ds = some L →
      (wantedA ops (envL n e) o = some true ∧ ∃ l, Does P call inR (envL n e) h ds o.op l ∧ OutsL l (fun x => k ((Dst.mk p).put x.v e) x.h x.ds) L) ∨ (wantedA ops (envL n e) o = some false ∧ k ((Dst.mk p).put (.tuple []) e) h ds = some L) := by
    intro x hx hg
    have hev := srcOf_ev P n x e
    cases hs : srcOf P n x with
    | mk g =>
      rw [hs] at hg hev
      change g e = _ at hev
      refine fin hg fun hF => ?_
      change k (p (g e) e) h ds = some L at hF
      rw [hev] at hF
      exact ⟨_, .plain (hx _), OutsL.one hF⟩
  obtain ⟨dst, op, ty, pos, after, guard⟩ := o
  simp only at hr opk mov ⊢
  cases op
  case move x => exact mov (fun env => rfl) hr
  case assign x => exact mov (fun env => rfl) hr
  case call c =>
    obtain ⟨callee, args, ats⟩ := c
    cases callee with
    | builtin b => exact opk rfl hr
    | invoke r name =>
      simp only at hr
      have hev := srcOf_ev P n r e
      cases hs : srcOf P n r with
      | mk g =>
        rw [hs] at hr hev
        change g e = _ at hev
        refine fin hr fun hF => ?_
        unfold invK at hF
        cases hi : asIface (g e) with
        | none => rw [hi] at hF; cases hF
        | some i =>
          rw [hi] at hF
          change Option.rec none (fun q => Prod.rec (fun g u => Bool.rec none (fan (call g (u :: evM e (srcsOf P n args.toList)) h) fun v h' => k (p v e) h' ds) (Nat.blt g P.funcs.size)) q) (recvM P h i.t i.v name) = some L at hF
          cases hm : recvM P h i.t i.v name with
          | none => rw [hm] at hF; cases hF
          | some qu =>
            obtain ⟨q, u⟩ := qu
            rw [hm] at hF
            change Bool.rec none (fan (call q (u :: evM e (srcsOf P n args.toList)) h) fun v h' => k (p v e) h' ds) (Nat.blt q P.funcs.size) = some L at hF
            cases hb : Nat.blt q P.funcs.size with
            | false => rw [hb] at hF; cases hF
            | true =>
              rw [hb, evM_eq] at hF
              obtain ⟨l0, h1, h2⟩ := fan_some hF
              have hif := asIface_some hi
              rw [hev] at hif
              exact ⟨_, .call (.invoke hif hm ((blt_iff _ _).1 hb)) h1, OutsL.map h2⟩
    | value f =>
      simp only at hr
      refine fin hr fun hF => ?_
      have gen : ∀ g : G, g e = evalA P (envL n e) f → callK P p g (srcsOf P n args.toList) call k e h ds = some L → ∃ l, Does P call inR (envL n e) h ds (.call ⟨.value f, args, ats⟩) l ∧ OutsL l (fun x => k ((Dst.mk p).put x.v e) x.h x.ds) L := by
        intro g hev hF
        unfold callK at hF
        cases hfv : asFn (g e) with
        | no => rw [hfv] at hF; cases hF
        | fn q first cap =>
          rw [hfv] at hF
          change Bool.rec none (fan (call q (appF (appF first (evM e (srcsOf P n args.toList))) cap) h) fun v h' => k (p v e) h' ds) (Nat.blt q P.funcs.size) = some L at hF
          cases hb : Nat.blt q P.funcs.size with
          | false => rw [hb] at hF; cases hF
          | true =>
            rw [hb, evM_eq, appF_eq, appF_eq] at hF
            obtain ⟨l0, h1, h2⟩ := fan_some hF
            have hif := asFn_fn hfv
            rw [hev] at hif
            exact ⟨_, .call (.fn hif ((blt_iff _ _).1 hb)) h1, OutsL.map h2⟩
        | yield y =>
          rw [hfv] at hF
          change fan (call (Nat.add P.funcs.size y) (evM e (srcsOf P n args.toList)) h) (fun v h' => k (p v e) h' ds) = some L at hF
          rw [evM_eq] at hF
          obtain ⟨l0, h1, h2⟩ := fan_some hF
          have hif := asFn_yield hfv
          rw [hev] at hif
          exact ⟨_, .call (.yield hif) h1, OutsL.map h2⟩
      cases f with
      | func g =>
        change Bool.rec noC (callFnK P p g (srcsOf P n args.toList)) (Nat.blt g P.funcs.size) call k e h ds = some L at hF
        cases hb : Nat.blt g P.funcs.size with
        | false => rw [hb] at hF; cases hF
        | true =>
          rw [hb] at hF
          change fan (call g (evM e (srcsOf P n args.toList)) h) (fun v h' => k (p v e) h' ds) = some L at hF
          rw [evM_eq] at hF
          obtain ⟨l0, h1, h2⟩ := fan_some hF
          have ht : Target0 P (envL n e) h (.call ⟨.value (.func g), args, ats⟩) g (([] ++ evals P (envL n e) args.toList) ++ []) := .fn (by rfl) ((blt_iff _ _).1 hb)
          rw [List.nil_append, List.append_nil] at ht
          exact ⟨_, .call ht h1, OutsL.map h2⟩
      | tmp t =>
        have hev := srcOf_ev P n (.tmp t) e
        change Src.rec (fun gf => callK P p gf (srcsOf P n args.toList)) (srcOf P n (.tmp t)) call k e h ds = some L at hF
        cases hs : srcOf P n (.tmp t) with
        | mk g => rw [hs] at hF hev; exact gen g hev hF
      | const v =>
        have hev := srcOf_ev P n (.const v) e
        change Src.rec (fun gf => callK P p gf (srcsOf P n args.toList)) (srcOf P n (.const v)) call k e h ds = some L at hF
        cases hs : srcOf P n (.const v) with
        | mk g => rw [hs] at hF hev; exact gen g hev hF
      | global v =>
        have hev := srcOf_ev P n (.global v) e
        change Src.rec (fun gf => callK P p gf (srcsOf P n args.toList)) (srcOf P n (.global v)) call k e h ds = some L at hF
        cases hs : srcOf P n (.global v) with
        | mk g => rw [hs] at hF hev; exact gen g hev hF
  case next it isS =>
    simp only at hr
    have hev := srcOf_ev P n it e
    cases hs : srcOf P n it with
    | mk g =>
      rw [hs] at hr hev
      change g e = _ at hev
      refine fin hr fun hF => ?_
      cases isS with
      | false =>
        change fan (nextM h (g e)) (fun v h' => k (p v e) h' ds) = some L at hF
        rw [hev] at hF
        obtain ⟨l0, h1, h2⟩ := fan_some hF
        exact ⟨_, .nextM h1, OutsL.map h2⟩
      | true =>
        change Option.rec none (fun q => Prod.rec (fun v h' => k (p v e) h' ds) q) (nextS h (g e)) = some L at hF
        rw [hev] at hF
        cases hn : nextS h (evalA P (envL n e) it) with
        | none => rw [hn] at hF; cases hF
        | some q =>
          obtain ⟨v, h'⟩ := q
          rw [hn] at hF
          exact ⟨_, .nextS hn, OutsL.one hF⟩
  case defer c =>
    obtain ⟨callee, args, ats⟩ := c
    cases inR with
    | true => cases callee <;> cases hr
    | false =>
      cases callee with
      | builtin b => cases hr
      | invoke r m => cases hr
      | value f =>
        have hev := srcOf_ev P n f e
        cases hs : srcOf P n f with
        | mk g =>
          simp only at hr
          rw [hs] at hr hev
          change g e = _ at hev
          refine fin hr fun hF => ?_
          unfold deferK at hF
          cases hfv : asFn (g e) with
          | no => rw [hfv] at hF; cases hF
          | fn q first cap =>
            rw [hfv] at hF
            change k (p (.tuple []) e) h (.call q (appF (appF first (evM e (srcsOf P n args.toList))) cap) :: ds) = some L at hF
            rw [evM_eq, appF_eq, appF_eq] at hF
            have hif := asFn_fn hfv
            rw [hev] at hif
            exact ⟨_, .defer rfl hif, OutsL.one hF⟩
          | yield y => rw [hfv] at hF; cases hF
  all_goals exact opk rfl hr
end
end Go.Am

noncomputable section
namespace Go.Am
open Go.RowKit

section
variable {P : Program} {call : CallM} {inR : Bool} {n : Nat} {ops : Array Oper}

/-! ### Memory goes on -/

theorem Does.grows (hcall : CallMOk P call) {env : List AV} {h : Heap} {ds : List DVM} {op : Op} {l : List VHD} (hd : Does P call inR env h ds op l) : ∀ x ∈ l, Grows h x.h := by
  cases hd with
  | plain ho => intro x hx; rw [List.mem_singleton] at hx; subst hx; exact aop_grows ho
  | call ht hc => intro x hx; obtain ⟨p, hp, rfl⟩ := List.mem_map.1 hx; exact hcall.grow _ _ _ _ hc p hp
  | nextM hn => intro x hx; obtain ⟨p, hp, rfl⟩ := List.mem_map.1 hx; exact nextM_grows hn p hp
  | nextS hn => intro x hx; rw [List.mem_singleton] at hx; subst hx; exact nextS_grows hn
  | defer hi hf => intro x hx; rw [List.mem_singleton] at hx; subst hx; exact Grows.refl _
theorem compO_from (hcall : CallMOk P call) {o : Oper} {k : KX} {e : Env} {h : Heap} {ds : List DVM} {L : List Res} (hr : (compO P inR n ops o).run call k e h ds = some L) : From h k L := by
  intro r hrL
  rcases compO_run hr with ⟨_, l, hd, hg⟩ | ⟨_, hk⟩
  · obtain ⟨x, hx, L', h1, h2⟩ := hg.2 r hrL
    exact ⟨_, _, _, L', h1, h2, hd.grows hcall x hx⟩
  · exact ⟨_, _, _, L, hk, hrL, Grows.refl _⟩
theorem From.trans {h0 : Heap} {k k' : KX} {L : List Res} (h : From h0 k L) (hk : ∀ e h ds L', k e h ds = some L' → From h k' L') : From h0 k' L := by
  intro r hr
  obtain ⟨e, h1, ds, L', h2, h3, h4⟩ := h r hr
  obtain ⟨e', h1', ds', L'', h5, h6, h7⟩ := hk e h1 ds L' h2 r h3
  exact ⟨e', h1', ds', L'', h5, h6, h4.trans h7⟩
theorem From.self {h : Heap} {k : KX} {e : Env} {ds : List DVM} {L : List Res} (hk : k e h ds = some L) : From h k L := fun _ hr => ⟨e, h, ds, L, hk, hr, Grows.refl _⟩
theorem opsM_from (hcall : CallMOk P call) {k : KX} : ∀ (l : List Oper) (e : Env) (h : Heap) (ds : List DVM) (L : List Res), opsM call (l.map (compO P inR n ops)) k e h ds = some L → From h k L
  | [], e, h, ds, L, hr => From.self hr
  | o :: l, e, h, ds, L, hr => (compO_from (k := opsM call (l.map (compO P inR n ops)) k) hcall hr).trans fun e' h' ds' L' hk => opsM_from hcall l e' h' ds' L' hk

/-! ### What an operation does, the model does -/

theorem target_wp {ρ' : Option Nat} (hF : Fns P) {φ : List Emb} {h : Heap} {w0 w : World} (hR : R P φ h w0 w) {env : List AV} {a : Act} (hρ : ∀ x, V φ (evalA P env x) (a.eval x)) {o : Oper} {g : FuncId} {args : List AV} (ht : Target0 P env h o.op g args)
    {K : Act → World → Prop} {Q : Exit → Act → World → Prop} {Post : List Emb → World → Ending → World → Prop} (hc : CallPost P g args h Post) (hp : ∀ e w', Post φ w0 e w' → KPost o.dst a K Q e w') : opWp ρ' P o a w K Q := by
  have _ := hF
  obtain ⟨dst, op, type, pos, after, guard⟩ := o
  simp only at ht hp
  have hd : ∀ c, op ≠ .defer c := by
    intro c hc
    subst hc
    cases ht
  cases ht with
  | @fn f xs ats g first cap hf hlt =>
    have hfv := hρ f
    rw [hf] at hfv
    simp only [V] at hfv
    obtain ⟨x, y, hxy, hx, hy⟩ := hfv
    have hv := evals_V hρ xs.toList
    have hall : Vs φ ((first ++ evals P env xs.toList) ++ cap) ((x ++ xs.map a.eval) ++ y).toList := by
      simp only [Array.toList_append, Array.toList_map]
      exact (hx.append hv).append hy
    have hgo := hc φ w0 w _ hR hall
    rw [if_pos hlt] at hgo
    refine wp_goes hd ?_ (hgo.mono hp)
    rw [execOp_value, hxy]
    simp only [Deferred.ofValue, Sem.run_bind, Sem.run_pure, Result.andThen_ok, invoke]
  | @yield f xs ats k hf =>
    have hfv := hρ f
    rw [hf] at hfv
    simp only [V] at hfv
    obtain ⟨e, he, hxy⟩ := hfv
    have hv := evals_V hρ xs.toList
    have hgo := hc φ w0 w (xs.map a.eval) hR (by simpa using hv)
    rw [if_neg (Nat.not_lt.2 (Nat.le_add_right _ _)), Nat.add_sub_cancel_left] at hgo
    refine wp_goesY hd ?_ ((hgo e he).mono hp)
    rw [execOp_value, hxy]
    simp only [Deferred.ofValue, Sem.run_bind, Sem.run_pure, Result.andThen_ok, invoke, Array.empty_append]
  | @invoke r name xs ats t v u g hrv hm hlt =>
    have hfv := hρ r
    rw [hrv] at hfv
    simp only [V] at hfv
    obtain ⟨y, hy1, hy⟩ := hfv
    have hv := evals_V hρ xs.toList
    obtain ⟨m, hmm⟩ : ∃ m, P.types.size + Made.depth = m + 1 := ⟨P.types.size + Made.depth - 1, by have hdep : 0 < Made.depth := (by decide); omega⟩
    obtain ⟨z, hmr, hz⟩ := recvM_run hR hm hy m
    rw [← hmm] at hmr
    have hall : Vs φ (u :: evals P env xs.toList) (#[z] ++ xs.map a.eval).toList := by
      simp only [Array.toList_append, Array.toList_map, List.singleton_append, Vs_cons]
      exact ⟨hz, hv⟩
    have hgo := hc φ w0 w _ hR hall
    rw [if_pos hlt] at hgo
    refine wp_goes hd ?_ (hgo.mono hp)
    rw [execOp_invoke, hy1]
    have hx : (#[Value.iface t y] ++ xs.map a.eval)[0]? = some (.iface t y) := arr_head _ _
    have hex : (#[Value.iface t y] ++ xs.map a.eval).extract 1 (#[Value.iface t y] ++ xs.map a.eval).size = xs.map a.eval := arr_rest _ _
    simp only [invoke, hx, hex, callMethod, Sem.run_bind, run_program, Result.andThen_ok, hmr]

theorem execOp_next (ρ : Operand → Value) (dst : Option Tmp) (it : Operand) (isS : Bool) (ty : TypeId) (pos : String) (after : Array Edge) (guard : Option (Nat × Bool)) :
    execOp ρ ⟨dst, .next it isS, ty, pos, after, guard⟩ = (do pure (.value (← Instr.next (ρ it) isS ty))) := rfl

theorem does_wp {ρ' : Option Nat} (hF : Fns P) (hcall : CallMOk P call) (hro : inR = false → ρ' = none) {φ : List Emb} {h : Heap} {w0 w : World} (hR : R P φ h w0 w) {env : List AV} {a : Act} (he : Vs φ env a.tmps.toList) {ds : List DVM} (hds : DS φ ds a.defers) {o : Oper} {l : List VHD} (hd : Does P call inR env h ds o.op l)
    {K : Act → World → Prop} {Q : Exit → Act → World → Prop} (hK : ∀ x ∈ l, ∀ φ' w' a', Up φ φ' → R P φ' x.h w0 w' → Vs φ' (putA env o.dst x.v) a'.tmps.toList → DS φ' x.ds a'.defers → K a' w') : opWp ρ' P o a w K Q := by
  have hρ := fun x => evalA_V hR he x
  have put : ∀ x ∈ l, x.ds = ds → ∀ φ' w' v', Up φ φ' → R P φ' x.h w0 w' → V φ' x.v v' → K (a.put o.dst v') w' := fun x hx hxd φ' w' v' hu hR' hv =>
    hK x hx φ' w' _ hu hR' (putA_V (Vs.up hu _ _ he) o.dst hv) (by rw [put_defers', hxd]; exact hds.up hu)
  generalize hop : o.op = op at hd
  cases hd with
  | @plain _ v h' ho =>
    have hnd : ∀ c, o.op ≠ .defer c := by
      intro c hc
      rw [hop] at hc; subst hc
      cases ho
    rw [← hop] at ho
    exact wp_done hnd (aop_run hR hρ ho) (fun φ' w' v' hu hR' hv => put _ (List.mem_singleton.2 rfl) rfl φ' w' v' hu hR' hv)
  | @call _ g args l0 ht hc =>
    rw [← hop] at ht
    refine target_wp hF hR hρ ht (hcall.post _ _ _ _ hc) ?_
    rintro e w' ⟨p, hp, hpost⟩
    exact KPost_of (r := .ret p.1 p.2) (fun φ' w' v' hu hR' hv => put ⟨p.1, p.2, ds⟩ (List.mem_map.2 ⟨p, hp, rfl⟩) rfl φ' w' v' hu hR' hv) hpost
  | @nextM it l0 hn =>
    have hnd : ∀ c, o.op ≠ .defer c := by intro c hc; rw [hop] at hc; cases hc
    obtain ⟨dst, op', type, pos, after, guard⟩ := o
    simp only at hop put hnd
    subst hop
    obtain ⟨p, hp, r', w', hrun, hR', hv⟩ := nextM_run hR hn (hρ it) type
    refine wp_of_run hnd ?_
    rw [execOp_next]
    simp only [Sem.run_bind, hrun, Result.andThen_ok, Sem.run_pure, Oper.uponIn_value]
    exact put ⟨p.1, p.2, ds⟩ (List.mem_map.2 ⟨p, hp, rfl⟩) rfl φ w' r' (Up.refl _) hR' hv
  | @nextS it v h' hn =>
    have hnd : ∀ c, o.op ≠ .defer c := by intro c hc; rw [hop] at hc; cases hc
    obtain ⟨dst, op', type, pos, after, guard⟩ := o
    simp only at hop put hnd
    subst hop
    obtain ⟨r', w', hrun, hR', hv⟩ := nextS_run hR hn (hρ it) type
    refine wp_of_run hnd ?_
    rw [execOp_next]
    simp only [Sem.run_bind, hrun, Result.andThen_ok, Sem.run_pure, Oper.uponIn_value]
    exact put ⟨v, h', ds⟩ (List.mem_singleton.2 rfl) rfl φ w' r' (Up.refl _) hR' hv
  | @defer f xs ats g first cap hi hf =>
    have hro := hro hi
    subst hro
    have hfv := hρ f
    rw [hf] at hfv
    simp only [V] at hfv
    obtain ⟨x, y, hxy, hx, hy⟩ := hfv
    have hv := evals_V hρ xs.toList
    obtain ⟨dst, op', type, pos, after, guard⟩ := o
    simp only at hop hK
    subst hop
    refine ⟨fun _ _ => trivial, ?_⟩
    have hrun : (Oper.semAt (wideR none).round a.eval ⟨dst, .defer ⟨.value f, xs, ats⟩, type, pos, after, guard⟩).run P w = .ok (.defer { target := .fn (.func g) y, args := x ++ xs.map a.eval }) w := by
      rw [wideR_none, show Fence.wide.round = none from rfl, Oper.semAt_none]
      have e1 : execOp a.eval ⟨dst, .defer ⟨.value f, xs, ats⟩, type, pos, after, guard⟩ = (do pure (.defer (← resolve a.eval ⟨.value f, xs, ats⟩ type))) := rfl
      rw [e1]
      simp only [resolve, hxy, Deferred.ofValue, Sem.run_bind, Sem.run_pure, Result.andThen_ok]
    rw [hrun, Oper.uponIn_defer]
    refine hK _ (List.mem_singleton.2 rfl) φ w _ (Up.refl _) hR ?_ ?_
    · cases dst with
      | none => exact he
      | some d => simpa [putA, Act.put] using he.set d (undef_V φ)
    · rw [put_defers']
      refine ⟨_, y, a.defers, rfl, ?_, hds⟩
      simp only [Array.toList_append, Array.toList_map]
      exact (hx.append hv).append hy

theorem guard_of {φ : List Emb} {env : List AV} {a : Act} (he : Vs φ env a.tmps.toList) {o : Oper} {t : Bool} (ht : wantedA ops env o = some t) : Region.wanted o (yielded ops a.tmps) = t :=
  wantedA_eq (φ := φ) ht fun j b d _ _ => by
    have := nth_V he d
    simpa [Array.getD_eq_getD_getElem?, List.getD_eq_getElem?_getD] using this

theorem co_wp {ρ' : Option Nat} (hF : Fns P) (hcall : CallMOk P call) (hn : n ≤ 256) (hro : inR = false → ρ' = none) {i : Nat} {o : Oper} (ho : ops[i]? = some o) {k : KX} {e : Env} {h : Heap} {ds : List DVM} {L L' : List Res} (hr : (compO P inR n ops o).run call k e h ds = some L') (hs : ∀ r ∈ L', r ∈ L)
    {φ : List Emb} {w0 w : World} {a : Act} (hR : R P φ h w0 w) (he : Vs φ (envL n e) a.tmps.toList) (hds : DS φ ds a.defers) {K : Act → World → Prop} {Q : Exit → Act → World → Prop} (hk : SX P φ w0 n L K k) : wpOpIn (wideR ρ') 0 P ops Q i K a w := by
  unfold wpOpIn
  rw [ho]
  simp only
  rcases compO_run hr with ⟨hw, l, hd, hg⟩ | ⟨hw, hkk⟩
  · rw [guard_of he hw, if_pos rfl]
    refine does_wp hF hcall hro hR he hds hd fun x hx φ' w' a' hu hR' he' hd' => ?_
    obtain ⟨L'', h1, h2⟩ := hg.1 x hx
    exact hk _ _ _ L'' h1 (fun r hr => hs r (h2 r hr)) φ' w' a' hu hR' (by rw [dstOf_put hn]; exact he') hd'
  · rw [guard_of he hw, if_neg (by simp)]
    refine ⟨fun _ _ => trivial, hk _ _ _ L' hkk hs φ w _ (Up.refl _) hR ?_ (by rw [put_defers']; exact hds)⟩
    rw [dstOf_put hn]
    exact putA_V he o.dst (undef_V φ)

theorem opsM_wp {ρ' : Option Nat} (hF : Fns P) (hcall : CallMOk P call) (hn : n ≤ 256) (hro : inR = false → ρ' = none) {L : List Res} {w0 : World} {Q : Exit → Act → World → Prop} {k : KX} : ∀ (rest : List Oper) (j : Nat), ops.toList.drop j = rest → ∀ (e : Env) (h : Heap) (ds : List DVM) (L' : List Res) (φ : List Emb) (w : World) (a : Act),
    opsM call (rest.map (compO P inR n ops)) k e h ds = some L' → (∀ r ∈ L', r ∈ L) → R P φ h w0 w → Vs φ (envL n e) a.tmps.toList → DS φ ds a.defers → SX P φ w0 n L (Q .normal) k → wpOpsIn (wideR ρ') 0 P ops Q (List.range' j rest.length) a w
  | [], j, hj, e, h, ds, L', φ, w, a, hr, hs, hR, he, hd, hk => hk e h ds L' hr hs φ w a (Up.refl _) hR he hd
  | o :: rest, j, hj, e, h, ds, L', φ, w, a, hr, hs, hR, he, hd, hk => by
    have hok : ops[j]? = some o := by
      have : (ops.toList.drop j)[0]? = some o := by rw [hj]; rfl
      rw [List.getElem?_drop, Nat.add_zero, Array.getElem?_toList] at this
      exact this
    have hj' : ops.toList.drop (j + 1) = rest := by
      rw [← List.drop_drop, hj]; rfl
    simp only [List.length_cons, List.range'_succ]
    rw [wpOpsIn_cons]
    refine co_wp (k := opsM call (rest.map (compO P inR n ops)) k) hF hcall hn hro hok hr hs hR he hd ?_
    intro e' h' ds' L'' hr' hs' φ' w' a' hu hR' he' hd'
    exact opsM_wp hF hcall hn hro rest (j + 1) hj' e' h' ds' L'' φ' w' a' hr' hs' hR' he' hd' (hk.up hu)
end
end Go.Am

noncomputable section
namespace Go.Am
open Go.RowKit

/-- Calls that come to one thing, as the first machine takes them. -/
def callOne (call : CallM) : CallF := fun f a h => match call f a h with | some [p] => some (.ret p.1 p.2) | _ => none
theorem callOne_ok {P : Program} {call : CallM} (hcall : CallMOk P call) : CallsOk P (callOne call) := by
  intro f args h r hr
  unfold callOne at hr
  split at hr
  · rename_i p hp
    cases hr
    have hc := hcall.post _ _ _ _ hp
    intro φ w0 w args' hR hv
    have h1 := hc φ w0 w args' hR hv
    have key : ∀ e w', LPost P φ w0 [p] e w' → PostC P φ w0 (.ret p.1 p.2) e w' := by
      rintro e w' ⟨q, hq, hpost⟩
      rw [List.mem_singleton] at hq
      subst hq
      exact hpost
    split at h1
    · rename_i hlt
      rw [if_pos hlt]
      exact h1.mono key
    · rename_i hlt
      rw [if_neg hlt]
      intro e he
      exact (h1 e he).mono key
  · cases hr
theorem oneM_some {call : CallM} {f : FuncId} {a : List AV} {h : Heap} {l : List (AV × Heap)} (hl : oneM call f a h = some l) : ∃ p, l = [p] ∧ callOne call f a h = some (.ret p.1 p.2) ∧ call f a h = some [p] := by
  unfold oneM at hl
  unfold callOne
  cases hc : call f a h with
  | none => rw [hc] at hl; cases hl
  | some l0 =>
    rw [hc] at hl
    match l0, hl with
    | [], hl => cases hl
    | [p], hl => cases hl; exact ⟨p, rfl, rfl, rfl⟩
    | p :: q :: ps, hl => cases hl
theorem oneM_ok {P : Program} {call : CallM} (hcall : CallMOk P call) : CallMOk P (oneM call) where
  post := fun f args h L hL => by
    obtain ⟨p, rfl, _, h2⟩ := oneM_some hL
    exact hcall.post _ _ _ _ h2
  grow := fun f args h L hL => by
    obtain ⟨p, rfl, _, h2⟩ := oneM_some hL
    exact hcall.grow _ _ _ _ h2

section
variable {P : Program} {call : CallM} {inR : Bool} {n : Nat} {ops : Array Oper}

theorem opA_of_aop {c : CallF} {env : List AV} {h h' : Heap} {op : Op} {v : AV} (ha : aop P env h op = some (v, h')) : opA c P env h op = some (.ret v h') := by
  have plain : toRet (aop P env h op) = some (.ret v h') := by rw [ha]; rfl
  cases op with
  | call c' =>
    obtain ⟨callee, args, ats⟩ := c'
    cases callee with
    | value f => cases ha
    | invoke r m => cases ha
    | builtin b =>
      simp only [opA]
      unfold biA
      split
      · rename_i x hx
        simp only [aop, hx] at ha
        cases hats : ats.toList <;> rw [hats] at ha <;> simp [builtinA] at ha
      · exact plain
  | panic x => cases ha
  | _ => exact plain

theorem does_one {env : List AV} {h : Heap} {ds : List DVM} {op : Op} {l : List VHD} (hp : plainOp op = true) (hd : Does P (oneM call) inR env h ds op l) : ∃ v h', l = [⟨v, h', ds⟩] ∧ opA (callOne call) P env h op = some (.ret v h') := by
  cases hd with
  | plain ho => exact ⟨_, _, rfl, opA_of_aop ho⟩
  | call ht hc =>
    obtain ⟨p, rfl, h1, _⟩ := oneM_some hc
    refine ⟨p.1, p.2, rfl, ?_⟩
    cases ht with
    | fn hf hlt => simp only [opA, hf, callA, (blt_iff _ _).2 hlt, cond_true, h1]
    | yield hf => simp only [opA, hf, callA, h1]
    | invoke hf hm hlt => simp only [opA, hf, hm, callA, (blt_iff _ _).2 hlt, cond_true, h1]
  | nextM hn => cases hp
  | nextS hn => cases hp
  | defer hi hf => cases hp

theorem opsT_const (c : CallM) (k : KX) : ∀ (l : List CO) (acc : List EH), opsT c l acc (fun _ => k) = opsM c l k
  | [], acc => rfl
  | o :: l, acc => by
    funext e h ds
    cases o with
    | mk f =>
      show f c (opsT c l ((e, h) :: acc) (fun _ => k)) e h ds = f c (opsM c l k) e h ds
      rw [opsT_const c k l]

theorem opsT_run (hn : n ≤ 256) {K : List EH → KX} : ∀ (rest : List Oper) (e : Env) (h : Heap) (ds : List DVM) (acc : List EH) (L : List Res), (∀ o ∈ rest, plainOp o.op = true) → opsT (oneM call) (rest.map (compO P inR n ops)) acc K e h ds = some L →
    ∃ (tr : List TR) (ss : List EH) (e' : Env) (h' : Heap) (L' : List Res), ss.length = rest.length + 1 ∧ K (ss.reverse ++ acc) e' h' ds = some L' ∧ (∀ r, r ∈ L' ↔ r ∈ L) ∧ ss[0]? = some (e, h) ∧ ss[rest.length]? = some (e', h') ∧
      (∀ (i : Nat) (s : EH), ss[i]? = some s → ∃ x, tr[i]? = some x ∧ x.env = envL n s.1 ∧ x.heap = s.2) ∧ ∀ (i : Nat) (o : Oper), rest[i]? = some o → ∃ x y, tr[i]? = some x ∧ tr[i + 1]? = some y ∧ TrStep (callOne call) P ops o x y
  | [], e, h, ds, acc, L, hp, hr => by
    refine ⟨[⟨envL n e, h, .unk, false⟩], [(e, h)], e, h, L, rfl, hr, fun _ => Iff.rfl, rfl, rfl, fun i s hs => ?_, fun i o ho => by simp at ho⟩
    cases i with
    | zero => cases hs; exact ⟨_, rfl, rfl, rfl⟩
    | succ i => simp at hs
  | o :: rest, e, h, ds, acc, L, hp, hr => by
    have main : ∀ (v : AV) (h1 : Heap) (on : Bool) (L1 : List Res), TrStep (callOne call) P ops o ⟨envL n e, h, v, on⟩ ⟨putA (envL n e) o.dst v, h1, .unk, false⟩ → opsT (oneM call) (rest.map (compO P inR n ops)) ((e, h) :: acc) K ((dstOf n o.dst).put v e) h1 ds = some L1 → (∀ r, r ∈ L1 ↔ r ∈ L) →
        ∃ (tr : List TR) (ss : List EH) (e' : Env) (h' : Heap) (L' : List Res), ss.length = rest.length + 1 + 1 ∧ K (ss.reverse ++ acc) e' h' ds = some L' ∧ (∀ r, r ∈ L' ↔ r ∈ L) ∧ ss[0]? = some (e, h) ∧ ss[rest.length + 1]? = some (e', h') ∧
          (∀ (i : Nat) (s : EH), ss[i]? = some s → ∃ x, tr[i]? = some x ∧ x.env = envL n s.1 ∧ x.heap = s.2) ∧ ∀ (i : Nat) (o' : Oper), (o :: rest)[i]? = some o' → ∃ x y, tr[i]? = some x ∧ tr[i + 1]? = some y ∧ TrStep (callOne call) P ops o' x y := by
      intro v h1 on L1 hst hr1 hL1
      obtain ⟨tr, ss, e', h', L', g1, g2, gL, g3, g4, g5, g6⟩ := opsT_run hn rest _ _ _ _ _ (fun q hq => hp q (List.mem_cons_of_mem _ hq)) hr1
      obtain ⟨x0, hx0, hx1, hx2⟩ := g5 0 _ g3
      refine ⟨⟨envL n e, h, v, on⟩ :: tr, (e, h) :: ss, e', h', L', by simp [g1], by simpa using g2, fun r => (gL r).trans (hL1 r), rfl, by simpa using g4, fun i s hs => ?_, fun i o' ho' => ?_⟩
      · cases i with
        | zero => cases hs; exact ⟨_, rfl, rfl, rfl⟩
        | succ i => simp at hs; obtain ⟨x, h2, h3⟩ := g5 i s hs; exact ⟨x, by simpa using h2, h3⟩
      · cases i with
        | zero =>
          cases ho'
          refine ⟨_, x0, rfl, by simpa using hx0, ?_⟩
          unfold TrStep at hst ⊢
          rw [hx1, hx2, show envL n (((dstOf n o.dst).put v e, h1) : EH).1 = putA (envL n e) o.dst v from dstOf_put hn _ _ _]
          exact hst
        | succ i =>
          simp at ho'
          obtain ⟨x, y, h2, h3, h4⟩ := g6 i o' ho'
          exact ⟨x, y, by simpa using h2, by simpa using h3, h4⟩
    rcases compO_run (k := opsT (oneM call) (rest.map (compO P inR n ops)) ((e, h) :: acc) K) hr with ⟨hw, l, hd, hg⟩ | ⟨hw, hk⟩
    · obtain ⟨v, h1, rfl, ho⟩ := does_one (hp o List.mem_cons_self) hd
      obtain ⟨L'', h2, h3⟩ := hg.1 _ List.mem_cons_self
      refine main v h1 true L'' (.inl ⟨rfl, hw, ho, rfl⟩) h2 fun r => ⟨h3 r, fun hr => ?_⟩
      obtain ⟨x, hx, L3, h4, h5⟩ := hg.2 r hr
      rw [List.mem_singleton] at hx
      subst hx
      rw [h2] at h4
      cases h4
      exact h5
    · exact main (.tuple []) h false L (.inr ⟨rfl, hw, rfl, rfl, rfl⟩) hk fun _ => Iff.rfl

/-! ### The text's run -/

theorem aop_quiet {env : List AV} {h h' : Heap} {op : Op} {v : AV} (hl : loudA P op = false) (ha : aop P env h op = some (v, h')) : h' = h := by
  obtain ⟨u, h1, _⟩ := quiet_same (call := fun _ _ _ => none) hl (opA_of_aop ha)
  cases h1; rfl
theorem same_quiet {c : CallF} {X : Nat → TR} (step : ∀ (i : Nat) (o : Oper), ops[i]? = some o → TrStep c P ops o (X i) (X (i + 1))) (hd : needNot P (masks ops.toList []) (louds P ops.toList 0) ops.toList 0 = true) :
    ∀ (i : Nat) (o : Oper), ops[i]? = some o → (X i).on = true → readsA P o.op = true → loudA P o.op = false → ∀ p ∈ louds P ops.toList 0, mayAt (masks ops.toList []) i p (louds P ops.toList 0) = true → aop P (X i).env (X p).heap o.op = some ((X i).val, (X p).heap) := by
  intro i o ho hon hrd hl p hp hm
  have hil : i < ops.size := (Array.getElem?_eq_some_iff.1 ho).1
  have hps : p ≤ ops.size := by
    rw [mem_louds] at hp
    rcases hp with hp | ⟨o', _, ho', _⟩
    · simp at hp; omega
    · have := (List.getElem?_eq_some_iff.1 ho').1
      simp at this
      omega
  have text : opA c P (X i).env (X i).heap o.op = some (.ret (X i).val (X (i + 1)).heap) := by
    rcases step i o ho with ⟨_, _, h6, _⟩ | ⟨h6, _⟩
    · exact h6
    · rw [hon] at h6; cases h6
  obtain ⟨v, hv, ha⟩ := quiet_same hl text
  simp only [CRes.ret.injEq] at hv
  rw [← hv.1] at ha
  have h3 := needNot_at hd i o (by rw [Array.getElem?_toList]; exact ho) hrd hl
  rw [Nat.zero_add] at h3
  obtain ⟨h4, h5⟩ := only_at h3 p hp hm
  have : (X p).heap = (X i).heap := by
    refine quiet_between step p (by omega) hps (fun q hq hh => ?_)
    by_cases hqi : q = i
    · subst hqi
      rw [mem_louds] at hq
      rcases hq with hq | ⟨o', _, ho', hlo⟩
      · simp at hq; omega
      · have : o' = o := by
          rw [Nat.sub_zero, Array.getElem?_toList, ho] at ho'
          cases ho'; rfl
        subst this
        rw [hl] at hlo
        cases hlo
    · exact h5 q hq ⟨by omega, hh.2⟩
  rw [this]
  exact ha

theorem timesOf_mem {bs ls : List Nat} {i p : Nat} : ∀ {ps : List Nat}, p ∈ ps → mayAt bs i p ls = true → p ∈ timesOf bs ls i ps
  | [], hp, _ => by cases hp
  | q :: ps, hp, hm => by
    simp only [timesOf]
    rcases List.mem_cons.1 hp with rfl | hp
    · rw [hm, cond_true]; exact List.mem_cons_self
    · cases mayAt bs i q ls with
      | true => exact List.mem_cons_of_mem _ (timesOf_mem hp hm)
      | false => exact timesOf_mem hp hm
theorem readsOf_mem {bs ls : List Nat} : ∀ {os : List Oper} {k i : Nat} {o : Oper} {f : OpK}, os[i]? = some o → readsA P o.op = true → loudA P o.op = false → compOp P n o.op = .op f → RD.mk (k + i) (guardOf n ops o) f (timesOf bs ls (k + i) ls) ∈ readsOf P n ops bs ls os k
  | [], k, i, o, f, ho, _, _, _ => by simp at ho
  | q :: os, k, i, o, f, ho, hr, hl, hf => by
    simp only [readsOf]
    cases i with
    | zero =>
      cases ho
      rw [hr, hl, hf]
      exact List.mem_cons_self
    | succ i =>
      have hm := readsOf_mem (bs := bs) (ls := ls) (os := os) (k := k + 1) (by simpa using ho) hr hl hf
      rw [show k + 1 + i = k + (i + 1) by omega] at hm
      cases readsA P q.op && !loudA P q.op with
      | true => exact List.mem_cons_of_mem _ hm
      | false => exact hm
theorem rdAll_mem {tr : List EH} {m : Nat} : ∀ {l : List RD}, rdAll tr m l = true → ∀ r ∈ l, rdOk tr m r = true
  | [], _, r, hr => by cases hr
  | q :: l, h, r, hr => by
    change Bool.rec false (rdAll tr m l) (rdOk tr m q) = true at h
    cases hq : rdOk tr m q with
    | false => rw [hq] at h; cases h
    | true =>
      rw [hq] at h
      rcases List.mem_cons.1 hr with rfl | hr
      · exact hq
      · exact rdAll_mem h r hr
theorem rdTimes_mem {tr : List EH} {m : Nat} {f : OpK} {e : Env} {v : R1} : ∀ {ps : List Nat}, rdTimes tr m f e v ps = true → ∀ p ∈ ps, heapAt tr m p (fun h => sameR v (f e h)) = true
  | [], _, p, hp => by cases hp
  | q :: ps, h, p, hp => by
    change Bool.rec false (rdTimes tr m f e v ps) (heapAt tr m q (fun h => sameR v (f e h))) = true at h
    cases hq : heapAt tr m q (fun h => sameR v (f e h)) with
    | false => rw [hq] at h; cases h
    | true =>
      rw [hq] at h
      rcases List.mem_cons.1 hp with rfl | hp
      · exact hq
      · exact rdTimes_mem h p hp
theorem rdOk_mk {tr : List EH} {m i : Nat} {g : GD} {f : OpK} {ps : List Nat} (h : rdOk tr m (.mk i g f ps) = true) {s : EH} (hs : nthF (m - i) tr = some s) {t : Bool} (hw : wantG g s.1 = some t) : t = true → rdTimes tr m f s.1 (f s.1 s.2) ps = true := by
  intro ht
  subst ht
  have h1 : (Option.rec (motive := fun _ => Bool) false (fun q => Prod.rec (motive := fun _ => Bool) (fun e h => Option.rec (motive := fun _ => Bool) false (fun t => Bool.rec (motive := fun _ => Bool) true (rdTimes tr m f e (f e h) ps) t) (wantG g e)) q) (nthF (m - i) tr)) = true := h
  rw [hs] at h1
  obtain ⟨e, hh⟩ := s
  have h2 : Option.rec (motive := fun _ => Bool) false (fun t => Bool.rec (motive := fun _ => Bool) true (rdTimes tr m f e (f e hh) ps) t) (wantG g e) = true := h1
  simp only at hw
  rw [hw] at h2
  exact h2
theorem heapAt_some {tr : List EH} {m p : Nat} {k : Heap → Bool} (h : heapAt tr m p k = true) {s : EH} (hs : nthF (m - p) tr = some s) : k s.2 = true := by
  have h1 : (Option.rec (motive := fun _ => Bool) false (fun q => Prod.rec (motive := fun _ => Bool) (fun _ h => k h) q) (nthF (m - p) tr)) = true := h
  rw [hs] at h1
  exact h1
theorem rev_at {α : Type} {ss : List α} {m i : Nat} (hl : ss.length = m + 1) (hi : i ≤ m) : nthF (m - i) ss.reverse = ss[i]? := by
  rw [nthF_eq, List.getElem?_reverse (by omega)]
  congr 1; omega
theorem sameR_ok {a b : R1} (h : sameR a b = true) : ∃ v h1 h2, a = .ok v h1 ∧ b = .ok v h2 := by
  cases a with
  | no => cases h
  | ok v h1 =>
    cases b with
    | no => cases h
    | ok u h2 =>
      have := beqV_eq _ _ (show beqV u v = true from h)
      subst this
      exact ⟨_, _, _, rfl, rfl⟩
theorem same_dyn {c : CallF} {X : Nat → TR} {ss : List EH} (hl : ss.length = ops.size + 1) (hX : ∀ (i : Nat) (s : EH), ss[i]? = some s → (X i).env = envL n s.1 ∧ (X i).heap = s.2)
    (step : ∀ (i : Nat) (o : Oper), ops[i]? = some o → TrStep c P ops o (X i) (X (i + 1))) (hd : rdAll ss.reverse ops.size (readsOf P n ops (masks ops.toList []) (louds P ops.toList 0) ops.toList 0) = true) :
    ∀ (i : Nat) (o : Oper), ops[i]? = some o → (X i).on = true → readsA P o.op = true → loudA P o.op = false → ∀ p ∈ louds P ops.toList 0, mayAt (masks ops.toList []) i p (louds P ops.toList 0) = true → aop P (X i).env (X p).heap o.op = some ((X i).val, (X p).heap) := by
  intro i o ho hon hrd hlo p hp hm
  have hil : i < ops.size := (Array.getElem?_eq_some_iff.1 ho).1
  have hps : p ≤ ops.size := by
    rw [mem_louds] at hp
    rcases hp with hp | ⟨o', _, ho', _⟩
    · simp at hp; omega
    · have := (List.getElem?_eq_some_iff.1 ho').1
      simp at this
      omega
  have hsi : ss[i]? = some ss[i] := List.getElem?_eq_getElem (by omega)
  have hsp : ss[p]? = some ss[p] := List.getElem?_eq_getElem (by omega)
  cases hc : compOp P n o.op with
  | op f =>
    have hmem := readsOf_mem (bs := masks ops.toList []) (ls := louds P ops.toList 0) (ops := ops) (os := ops.toList) (k := 0) (i := i) (by rw [Array.getElem?_toList]; exact ho) hrd hlo hc
    have hok := rdAll_mem hd _ hmem
    rw [Nat.zero_add] at hok
    obtain ⟨hXe, hXh⟩ := hX i _ hsi
    obtain ⟨hPe, hPh⟩ := hX p _ hsp
    have hni : nthF (ops.size - i) ss.reverse = some ss[i] := by rw [rev_at hl (by omega), hsi]
    have hnp : nthF (ops.size - p) ss.reverse = some ss[p] := by rw [rev_at hl hps, hsp]
    have hstep := step i o ho
    have h1 : wantedA ops (X i).env o = some true ∧ opA c P (X i).env (X i).heap o.op = some (.ret (X i).val (X (i + 1)).heap) := by
      rcases hstep with ⟨_, h1, h2, _⟩ | ⟨h1, _⟩
      · exact ⟨h1, h2⟩
      · rw [hon] at h1; cases h1
    cases hw : wantG (guardOf n ops o) ss[i].1 with
    | none =>
      exfalso
      have h5 : (Option.rec (motive := fun _ => Bool) false (fun q => Prod.rec (motive := fun _ => Bool) (fun e h => Option.rec (motive := fun _ => Bool) false (fun t => Bool.rec (motive := fun _ => Bool) true (rdTimes ss.reverse ops.size f e (f e h) (timesOf (masks ops.toList []) (louds P ops.toList 0) i (louds P ops.toList 0))) t) (wantG (guardOf n ops o) e)) q) (nthF (ops.size - i) ss.reverse)) = true := hok
      rw [hni] at h5
      have h6 : Option.rec (motive := fun _ => Bool) false (fun t => Bool.rec (motive := fun _ => Bool) true (rdTimes ss.reverse ops.size f ss[i].1 (f ss[i].1 ss[i].2) (timesOf (masks ops.toList []) (louds P ops.toList 0) i (louds P ops.toList 0))) t) (wantG (guardOf n ops o) ss[i].1) = true := h5
      rw [hw] at h6
      cases h6
    | some t =>
      have := wantG_wanted hw
      rw [← hXe, h1.1] at this
      cases this
      have hok := rdOk_mk hok hni hw rfl
      have hp2 := heapAt_some (rdTimes_mem hok p (timesOf_mem hp hm)) hnp
      obtain ⟨v, ha, hb, h3, h4⟩ := sameR_ok hp2
      have r1 : (compOp P n o.op).run ss[i].1 ss[i].2 = .ok v ha := by rw [hc]; exact h3
      have r2 : (compOp P n o.op).run ss[i].1 ss[p].2 = .ok v hb := by rw [hc]; exact h4
      have a1 := compOp_run r1
      have a2 := compOp_run r2
      rw [← hXe, ← hXh] at a1
      rw [← hXe, ← hPh] at a2
      obtain ⟨u, hu, hua⟩ := quiet_same hlo h1.2
      simp only [CRes.ret.injEq] at hu
      rw [← hu.1] at hua
      rw [hua] at a1
      cases a1
      have := aop_quiet hlo a2
      subst this
      exact a2

/-- The text's order stands for all. -/
theorem draw_region {ρ : Option Nat} (hF : Fns P) (hm : P.follows .mixedOrders = true) {c : CallF} (hcall : CallsOk P c) (hst : drawStatic P ops (masks ops.toList []) = true) {e e' : List AV} {h h' : Heap} {X : Nat → TR} (T : TextRun c P ops (masks ops.toList []) e h e' h' X)
    {id : Nat} {w0 w : World} {Q : Exit → Act → World → Prop} {φ : List Emb} {a : Act} (hR : R P φ h w0 w) (he : Vs φ e a.tmps.toList) (hf : Final P φ w0 a.defers Q (.normal, e', h')) : cwp ρ P (.region id ops true) Q a w := by
  have S := static_of hst
  refine wpIn_region_any hm ?_
  have endMem : ops.size ∈ louds P ops.toList 0 := by rw [mem_louds]; exact .inl (by simp)
  have hfalse : ∀ i, (Array.replicate ops.size false).getD i false = false := by
    intro i
    simp [Array.getD_eq_getD_getElem?, Array.getElem?_replicate]
    split <;> rfl
  obtain ⟨p, hp, hmin⟩ : ∃ p ∈ louds P ops.toList 0, ∀ q ∈ louds P ops.toList 0, p ≤ q := by
    by_cases h0 : 0 ∈ louds P ops.toList 0
    · exact ⟨0, h0, fun q _ => Nat.zero_le _⟩
    · have hpos : 0 < ops.size := by
        rcases Nat.eq_zero_or_pos ops.size with h1 | h1
        · rw [h1] at endMem; exact absurd endMem h0
        · exact h1
      obtain ⟨p, hp, _, hmin⟩ := least_above (louds P ops.toList 0) 0 ops.size ⟨ops.size, endMem, hpos, Nat.le_refl _⟩
      refine ⟨p, hp, fun q hq => hmin q hq ?_⟩
      rcases Nat.eq_zero_or_pos q with h1 | h1
      · rw [h1] at hq; exact absurd hq h0
      · exact h1
  have hpn := hmin ops.size endMem
  have hheap : (X p).heap = h := by
    rw [quiet_between T.step p (Nat.zero_le _) hpn (fun q hq hh => by have := hmin q hq; omega), T.first.2]
  refine draw_wp hF hcall S T ops.size _ φ a _ p (by simp) ?_ ?_ hp ?_ (fun _ => hfalse p) ?_ ?_ ?_ ?_ rfl hf
  · intro i o ho hl; rw [hfalse] at hl; cases hl
  · unfold todo
    refine Nat.le_trans (List.countP_le_length) (by simp)
  · intro q hq hqp; have := hmin q hq; omega
  · rw [hheap]; exact hR.drew rfl rfl rfl rfl
  · intro j y t hy hl; rw [hfalse] at hl; cases hl
  · intro t _
    have := nth_V he t
    simpa [Array.getD_eq_getD_getElem?, List.getD_eq_getElem?_getD] using this
  · rw [← Array.length_toList, he.length]

theorem plain_all (h : (ops.toList.all fun o => plainOp o.op) = true) : ∀ o ∈ ops.toList, plainOp o.op = true := fun o ho => List.all_eq_true.1 h o ho

/-- A region whose order is the text's or any other. -/
theorem text_region {ρ : Option Nat} (hF : Fns P) (hm : P.follows .mixedOrders = true) (hcall : CallMOk P call) (hn : n ≤ 256) (hpl : (ops.toList.all fun o => plainOp o.op) = true) (hst : drawStatic P ops (masks ops.toList []) = true) {K : List EH → KX} {k : KX}
    (hK : (K = fun _ => k) ∧ needNot P (masks ops.toList []) (louds P ops.toList 0) ops.toList 0 = true ∨ K = fun tr e h ds => Bool.rec none (k e h ds) (rdAll tr ops.size (readsOf P n ops (masks ops.toList []) (louds P ops.toList 0) ops.toList 0)))
    {e : Env} {h : Heap} {ds : List DVM} {L L' : List Res} (hr : opsT (oneM call) (compOps P false n ops) [] K e h ds = some L') (hs : ∀ r ∈ L', r ∈ L) {id : Nat} {w0 w : World} {Q : Exit → Act → World → Prop} {φ : List Emb} {a : Act} (hR : R P φ h w0 w) (he : Vs φ (envL n e) a.tmps.toList) (hd : DS φ ds a.defers)
    (hk : SX P φ w0 n L (Q .normal) k) : cwp ρ P (.region id ops true) Q a w := by
  have hco : compOps P false n ops = ops.toList.map (compO P false n ops) := mapF_eq _ _
  rw [hco] at hr
  obtain ⟨tr, ss, e', h', L1, g1, g2, gL, g3, g4, g5, g6⟩ := opsT_run (inR := false) hn ops.toList e h ds [] L' (plain_all hpl) hr
  rw [List.append_nil] at g2
  let X : Nat → TR := fun i => tr.getD i ⟨[], h, .unk, false⟩
  have hX : ∀ i y, tr[i]? = some y → X i = y := fun i y hy => by simp [X, List.getD, hy]
  have hXs : ∀ (i : Nat) (s : EH), ss[i]? = some s → (X i).env = envL n s.1 ∧ (X i).heap = s.2 := fun i s hs => by
    obtain ⟨x, h1, h2, h3⟩ := g5 i s hs
    rw [hX i x h1]; exact ⟨h2, h3⟩
  have step : ∀ (i : Nat) (o : Oper), ops[i]? = some o → TrStep (callOne call) P ops o (X i) (X (i + 1)) := fun i o ho => by
    obtain ⟨x, y, h1, h2, h3⟩ := g6 i o (by rw [Array.getElem?_toList]; exact ho)
    rw [hX i x h1, hX (i + 1) y h2]; exact h3
  have hlast : ss[ops.size]? = some (e', h') := by rw [← Array.length_toList]; exact g4
  have fin : k e' h' ds = some L1 ∧ ∀ (i : Nat) (o : Oper), ops[i]? = some o → (X i).on = true → readsA P o.op = true → loudA P o.op = false → ∀ p ∈ louds P ops.toList 0, mayAt (masks ops.toList []) i p (louds P ops.toList 0) = true → aop P (X i).env (X p).heap o.op = some ((X i).val, (X p).heap) := by
    rcases hK with ⟨rfl, hnn⟩ | rfl
    · exact ⟨g2, same_quiet step hnn⟩
    · simp only at g2
      cases hrd : rdAll ss.reverse ops.size (readsOf P n ops (masks ops.toList []) (louds P ops.toList 0) ops.toList 0) with
      | false => rw [hrd] at g2; cases g2
      | true =>
        rw [hrd] at g2
        exact ⟨g2, same_dyn (by rw [g1, Array.length_toList]) hXs step hrd⟩
  have T : TextRun (callOne call) P ops (masks ops.toList []) (envL n e) h (envL n e') h' X := ⟨hXs 0 _ g3, hXs _ _ hlast, step, fin.2⟩
  refine draw_region hF hm (callOne_ok hcall) hst T hR he ?_
  intro φ' w' a' hu hR' he' hd'
  exact hk e' h' ds L1 fin.1 (fun r hr => hs r ((gL r).1 hr)) φ' w' a' hu hR' he' (by rw [hd']; exact hd.up hu)

theorem text_from (hcall : CallMOk P call) (hn : n ≤ 256) (hpl : (ops.toList.all fun o => plainOp o.op) = true) {K : List EH → KX} {k : KX} (hK : ∀ tr e h ds L, K tr e h ds = some L → k e h ds = some L)
    {e : Env} {h : Heap} {ds : List DVM} {L' : List Res} (hr : opsT (oneM call) (compOps P false n ops) [] K e h ds = some L') : From h k L' := by
  have hco : compOps P false n ops = ops.toList.map (compO P false n ops) := mapF_eq _ _
  rw [hco] at hr
  have gen : ∀ (rest : List Oper) (e : Env) (h : Heap) (ds : List DVM) (acc : List EH) (L : List Res), opsT (oneM call) (rest.map (compO P false n ops)) acc K e h ds = some L → From h k L := by
    intro rest
    induction rest with
    | nil => intro e h ds acc L hr; exact From.self (hK _ _ _ _ _ hr)
    | cons o rest ih =>
      intro e h ds acc L hr
      exact (compO_from (k := opsT (oneM call) (rest.map (compO P false n ops)) ((e, h) :: acc) K) (oneM_ok hcall) hr).trans fun e' h' ds' L' hk => ih e' h' ds' _ L' hk
  exact gen ops.toList e h ds [] L' hr
end
end Go.Am
