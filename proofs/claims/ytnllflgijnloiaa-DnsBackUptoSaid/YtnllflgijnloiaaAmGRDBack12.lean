/- Parts of the proof by the abstract machine: Law, Rebase, Swp, Canon. -/
import Derived.Test.YtnllflgijnloiaaAmGRDBack11
import Derived.Carry
import Derived.ChangeShapes
import Derived.OpenShut
import Derived.Test.YtnllflgijnloiaaAmGRDBack8
import Derived.Test.YtnllflgijnloiaaAmGRDBack9
namespace Go.Am
open Go.RowKit Go.ChangeShapes Go.WideShapes

section
variable {H : Type} {enc : TypeId × Value → H} {P : Program}

/-- An argument's cells. -/
def ArgIs (P : Program) (t : TypeId) (a : AV) (xs : List AV) : Prop :=
  match P.underlying t with
  | some (.struct _) | some (.array _ _) => a = .agg xs
  | _ => xs = [a]

def RepsArgs (P : Program) (h : Heap) : List (DataW H) → List TypeId → List AV → Prop
  | [], [], [] => True
  | d :: ds, t :: ts, a :: as => (∃ xs, ArgIs P t a xs ∧ Reps P h d t xs) ∧ RepsArgs P h ds ts as
  | _, _, _ => False

theorem RepsArgs.ext {h h' : Heap} (hx : Ext h h') : ∀ {ds : List (DataW H)} {ts : List TypeId} {as : List AV}, RepsArgs P h ds ts as → RepsArgs P h' ds ts as
  | [], [], [], hr => hr
  | d :: ds, t :: ts, a :: as, hr => by
    simp only [RepsArgs] at hr ⊢
    obtain ⟨⟨xs, h1, h2⟩, h3⟩ := hr
    exact ⟨⟨xs, h1, Reps.ext hx _ _ _ h2⟩, RepsArgs.ext hx h3⟩
  | [], [], _ :: _, hr => by simp [RepsArgs] at hr
  | [], _ :: _, _, hr => by simp [RepsArgs] at hr
  | _ :: _, [], _, hr => by simp [RepsArgs] at hr
  | _ :: _, _ :: _, [], hr => by simp [RepsArgs] at hr

/-- Where nothing is opened yet: the globals' places alone. -/
def glob0 (P : Program) : List Emb := (List.range P.globals.size).map fun g => ⟨g, 0, 0⟩
def heap0 (P : Program) : Heap := ⟨P.globals.size, .leaf⟩
theorem R.zero (W : World) : R P (glob0 P) (heap0 P) W W where
  below := Below.refl _ _
  len := by simp [glob0, heap0]
  objs := fun i o hi => by simp [heap0, Heap.get, Trie.get] at hi
  sep := fun i j oi oj ei ej _ hi => by simp [heap0, Heap.get, Trie.get] at hi
  glob := fun g hg => ⟨0, by simp [glob0, hg]⟩
theorem NoOwn.zero : NoOwn (heap0 P) := fun i o hi => by simp [heap0, Heap.get, Trie.get] at hi

theorem not_agg {W : World} {base : Nat} {t : TypeId} {v : Value} (hno : ∀ fs, P.underlying t ≠ some (.struct fs)) (hna : ∀ n e, P.underlying t ≠ some (.array n e)) (hv : Value.okWide P W .any base t v) : v.cells = #[v] := by
  cases v with
  | agg cs =>
    exfalso
    unfold Value.okWide at hv
    split at hv
    · rename_i fs hu; exact hno fs hu
    · rename_i n e hu; exact hna n e hu
    · unfold Cell.okWide at hv
      split at hv <;> first | (rename_i heq _; cases heq; done) | (rename_i heq; cases heq; done) | skip
      unfold Cell.ok at hv
      split at hv <;> first | (rename_i heq; cases heq; done) | exact hv
  | _ => rfl

theorem open_args {W : World} {base dep : Nat} : ∀ (ts : List TypeId) (vs : List Value) (ds : List (DataW H)) (ps : List MemPlace), ts.all (plainT P dep) = true → (∀ (j : Nat) (t : TypeId) (v : Value), ts[j]? = some t → vs[j]? = some v → Value.okWide P W .any base t v) →
    DataW.TrodAll enc P W 0 (fun _ => true) true ts vs ds ps → ∀ (φ : List Emb) (h : Heap), R P φ h W W → NoOwn h → Opened P W φ h vs (fun h' as => RepsArgs P h' ds ts as)
  | [], [], [], ps, _, _, _, φ, h, hR, hno => ⟨φ, h, [], Up.refl _, Ext.refl _, hR, hno, by simp [Vs], by simp [RepsArgs]⟩
  | t :: ts, v :: vs, d :: ds, ps, hp, hv, hA, φ, h, hR, hno => by
    simp only [List.all_cons, Bool.and_eq_true] at hp
    obtain ⟨p, q, ⟨fuel, h1⟩, h2, _⟩ := hA
    obtain ⟨_, φ1, h1', xs, hu1, hx1, hR1, hno1, hV1, hr1⟩ := open_trod fuel dep t hp.1 φ h _ d p hR hno h1
    obtain ⟨φ2, h2', as, hu2, hx2, hR2, hno2, hV2, hr2⟩ := open_args ts vs ds q hp.2 (fun j t' v' ht hv' => hv (j + 1) t' v' (by simpa using ht) (by simpa using hv')) h2 φ1 h1' hR1 hno1
    have hv0 := hv 0 t v rfl rfl
    have main : ∃ a, ArgIs P t a xs ∧ V φ1 a v := by
      by_cases hagg : (∃ fs, P.underlying t = some (.struct fs)) ∨ (∃ n e, P.underlying t = some (.array n e))
      · have : ∃ C, v = .agg C := by
          unfold Value.okWide at hv0
          rcases hagg with ⟨fs, hu⟩ | ⟨n, e, hu⟩ <;> rw [hu] at hv0 <;> obtain ⟨cs, hcs, _⟩ := hv0 <;> exact ⟨cs, hcs⟩
        obtain ⟨C, rfl⟩ := this
        refine ⟨.agg xs, ?_, by simp only [V]; exact ⟨C, rfl, hV1⟩⟩
        unfold ArgIs
        rcases hagg with ⟨fs, hu⟩ | ⟨n, e, hu⟩ <;> rw [hu]
      · have hc := not_agg (fun fs hu => hagg (.inl ⟨fs, hu⟩)) (fun n e hu => hagg (.inr ⟨n, e, hu⟩)) hv0
        rw [hc] at hV1
        match xs, hV1 with
        | [], hV1 => simp [Vs] at hV1
        | [a], hV1 =>
          refine ⟨a, ?_, by rw [Vs_cons] at hV1; exact hV1.1⟩
          unfold ArgIs
          split
          · rename_i fs hu; exact absurd (.inl ⟨fs, hu⟩) hagg
          · rename_i n e hu; exact absurd (.inr ⟨n, e, hu⟩) hagg
          · rfl
        | a :: b :: xs, hV1 => have := hV1.length; simp at this
    obtain ⟨a, ha, hVa⟩ := main
    refine ⟨φ2, h2', a :: as, hu1.trans hu2, hx1.trans hx2, hR2, hno2, ?_, ?_⟩
    · rw [Vs_cons]; exact ⟨V.up hu2 _ _ hVa, hV2⟩
    · simp only [RepsArgs]
      exact ⟨⟨xs, ha, Reps.ext hx2 _ _ _ hr1⟩, hr2⟩
  | [], [], _ :: _, ps, _, _, hA, φ, h, hR, hno => by simp [DataW.TrodAll] at hA
  | [], _ :: _, _, ps, _, _, hA, φ, h, hR, hno => by simp [DataW.TrodAll] at hA
  | _ :: _, [], _, ps, _, _, hA, φ, h, hR, hno => by simp [DataW.TrodAll] at hA
  | _ :: _, _ :: _, [], ps, _, _, hA, φ, h, hR, hno => by simp [DataW.TrodAll] at hA

theorem trodAll_below (hl : laidOutB P = true) {W W' : World} (hb : Below W.heap.size W W') : ∀ (ts : List TypeId) (vs : List Value) (ds : List (DataW H)) (ps : List MemPlace), ts.all (fun t => P.readableRec t && decide (t < P.types.size)) = true →
    DataW.TrodAll enc P W 0 (fun _ => true) true ts vs ds ps → DataW.TrodAll enc P W' 0 (fun b => decide (b < W.heap.size)) true ts vs ds ps
  | [], [], [], ps, _, hA => hA
  | t :: ts, v :: vs, d :: ds, ps, hr, hA => by
    simp only [List.all_cons, Bool.and_eq_true, decide_eq_true_eq] at hr
    obtain ⟨p, q, h1, h2, rfl⟩ := hA
    exact ⟨p, q, Below.trod hl hr.1.1 hr.1.2 h1 hb (by obtain ⟨m, hm⟩ := h1; exact DataW.trod_lt m _ _ _ hm), trodAll_below hl hb ts vs ds q (by simpa [List.all_eq_true] using hr.2) h2, rfl⟩
  | [], [], _ :: _, ps, _, hA => by simp [DataW.TrodAll] at hA
  | [], _ :: _, _, ps, _, hA => by simp [DataW.TrodAll] at hA
  | _ :: _, [], _, ps, _, hA => by simp [DataW.TrodAll] at hA
  | _ :: _, _ :: _, [], ps, _, hA => by simp [DataW.TrodAll] at hA

theorem trodAll_length {W : World} {base : Nat} {sp : Nat → Bool} {held : Bool} : ∀ (ts : List TypeId) (vs : List Value) (ds : List (DataW H)) (ps : List MemPlace), DataW.TrodAll enc P W base sp held ts vs ds ps → ds.length = ts.length
  | [], [], [], _, _ => rfl
  | t :: ts, v :: vs, d :: ds, ps, hA => by
    obtain ⟨p, q, _, h2, _⟩ := hA
    simp [trodAll_length ts vs ds q h2]
  | [], [], _ :: _, ps, hA => by simp [DataW.TrodAll] at hA
  | [], _ :: _, _, ps, hA => by simp [DataW.TrodAll] at hA
  | _ :: _, [], _, ps, hA => by simp [DataW.TrodAll] at hA
  | _ :: _, _ :: _, [], ps, hA => by simp [DataW.TrodAll] at hA

/-- A LAW: what the abstract machine says of it is what its row asks. -/
theorem law_contract (hl : laidOutB P = true) (hF : Fns P) {f : FuncId} {fn : Func} {c : Code} (hfn : P.funcs[f]? = some fn) (hbd : fn.body = some c) {spec : ChangeSpec} {dep : Nat} {tb : TypeId} (hvars : spec.vars = []) (hres : fn.resultTypes = #[tb]) (htb : P.underlying tb = some .bool)
    (hspec : ∀ ds : List (DataW H), ds.length = fn.params.toList.length → spec.fn H (ds ++ []) = { results := [.lit (.bool true)], args := ds })
    (hread : fn.params.toList.all (fun t => P.readableRec t && decide (t < P.types.size)) = true) (hplain : fn.params.toList.all (plainT P dep) = true)
    {W : World} {base : Nat} {args : Array Value} {ds gs : List (DataW H)} {before : List MemPlace}
    (hval : ∀ (j : Nat) t v, fn.params[j]? = some t → args[j]? = some v → Value.okWide P W .any base t v)
    (hW : DataW.Whole enc P fn.params.toList spec.vars false W args.toList ds gs before)
    (hcall : ∀ (h : Heap) (as : List AV), RepsArgs P h ds fn.params.toList as → P.globals.size ≤ h.next → h.get h.next = none → (∀ i, h.next ≤ i → h.get i = none) → ∃ h', CallOk P f as h (.ret (.bool true) h')) :
    Calls P f args W fun e W' => ∃ v, e = .returned v ∧ spec.post enc P fn false true false false W args v W' := by
  have hW' := hW
  obtain ⟨p, q, hA, hV, rfl, hfz, hnd⟩ := hW
  rw [hvars] at hV
  obtain ⟨rfl, rfl⟩ := trodVars_none hV
  obtain ⟨φ, h, as, hu, hx, hR, hno, hVs, hr⟩ := open_args fn.params.toList args.toList ds p hplain (fun j t v ht hv => hval j t v (by rw [← Array.getElem?_toList]; exact ht) (by rw [← Array.getElem?_toList]; exact hv)) hA (glob0 P) (heap0 P) (R.zero W) NoOwn.zero
  have hbig : ∀ i, h.next ≤ i → h.get i = none := by
    intro i hi
    cases hg : h.get i with
    | none => rfl
    | some o => have := hR.lt hg; omega
  obtain ⟨h', hc⟩ := hcall h as hr hx.1 (hR.fresh) hbig
  have hg : Calls P f args W (PostC P φ W (.ret (.bool true) h')) := by
    rcases hc φ W W args hR hVs with ⟨_, h2⟩ | ⟨v, w', h1, _⟩
    · exact h2
    · rw [callFunc_run hF hfn hbd] at h1; cases h1
  refine hg.mono fun e W' hp => ?_
  obtain ⟨φ', v', rfl, _, hR', hv'⟩ := hp
  simp only [V] at hv'
  subst hv'
  have hsp := hspec ds (by rw [trodAll_length _ _ _ _ hA])
  refine ⟨_, rfl, ds, [], p ++ [], [], p, [], hW', ?_, ?_, ?_, hR'.below.frame _, fun hh => by cases hh⟩
  · rw [hsp, hres]
    exact trodAll_mk1 (shut_bool htb _)
  · rw [hsp]
    exact trodAll_below hl hR'.below _ _ _ _ hread hA
  · rw [hvars, hsp]
    rfl
end
end Go.Am

namespace Go.Am
open Go.RowKit

section
variable {P : Program}

theorem R.after {φ : List Emb} {h : Heap} {w0 w w' : World} (hR : R P φ h w0 w) (hb : Below w.heap.size w w') : R P φ h w0 w' where
  below := hR.below.trans ⟨hb.os, hb.tape, hb.output, hb.size, fun k hk => hb.block k (Nat.lt_of_lt_of_le hk hR.below.size)⟩
  len := hR.len
  objs := fun i o hi => by
    obtain ⟨e, he, ho, hw⟩ := hR.objs i o hi
    exact ⟨e, he, O.same (hb.block _ ho.lt) ho, hw⟩
  sep := hR.sep
  glob := hR.glob

theorem rebase {f : FuncId} {b : Bool} {h1 : Heap} (hc : CallOk P f [] (heap0 P) (.ret (.bool b) h1)) (h : Heap) : CallOk P f [] h (.ret (.bool b) h) := by
  intro φ w0 w args hR hV
  have hV' : Vs (glob0 P) [] args.toList := by rw [Vs_nil] at hV ⊢; exact hV
  refine (hc (glob0 P) w w args (R.zero w) hV').mono ?_
  rintro e w' ⟨φ', v', rfl, _, hR', hv⟩
  exact ⟨φ, v', rfl, Up.refl _, hR.after hR'.below, by simpa [V] using hv⟩

/-- A function without arguments is known to answer true. -/
def ovTrue (f : FuncId) : CallF := fun g a h => match a with
  | [] => bif Nat.beq g f then some (.ret (.bool true) h) else none
  | _ => none
def isTrue : Option CRes → Bool
  | some (.ret (.bool true) _) => true
  | _ => false
theorem ovTrue_ok (hF : Fns P) (hm : P.follows .mixedOrders = true) {f : FuncId} {n d : Nat} (hr : isTrue (callN (drawA P) (fun _ _ _ => none) P n d f [] (heap0 P)) = true) : CallsOk P (ovTrue f) := by
  intro g a h r ho
  unfold ovTrue at ho
  split at ho
  · cases hb : Nat.beq g f with
    | false => simp [hb] at ho
    | true =>
      have := Nat.eq_of_beq_eq_true hb
      subst this
      simp only [hb, cond_true, Option.some.injEq] at ho
      subst ho
      have hD := callN_ok hF (drawA_ok hF hm) (ov := fun _ _ _ => none) (fun _ _ _ _ h => by cases h) (n := n) d
      generalize hx : callN (drawA P) (fun _ _ _ => none) P n d g [] (heap0 P) = x at hr
      match x, hr with
      | some (.ret (.bool true) h1), _ => exact rebase (hD _ _ _ _ hx) h
  · cases ho
theorem ovTrue_self {f : FuncId} {h : Heap} : ovTrue f f [] h = some (.ret (.bool true) h) := by simp [ovTrue]
theorem ovTrue_ne {f g : FuncId} (hn : Nat.beq g f = false) (a : List AV) (h : Heap) : ovTrue f g a h = none := by
  cases a <;> simp [ovTrue, hn]
end
end Go.Am

namespace Go.Am
open Go.RowKit

section
variable {P : Program} {ov : CallF}

def SWP (P : Program) (c : Code) (e : List AV) (h : Heap) (K : Post) : Prop :=
  ∀ (φ : List Emb) (w0 : World) (Q : Exit → Act → World → Prop) (w : World) (a : Act), R P φ h w0 w → Vs φ e a.tmps.toList → (∀ o e' h', K o e' h' → Final P φ w0 a.defers Q (o, e', h')) → c.wp P Q a w

theorem SWP.mono {c : Code} {e : List AV} {h : Heap} {K K' : Post} (hw : SWP P c e h K) (hk : ∀ o e h, K o e h → K' o e h) : SWP P c e h K' :=
  fun φ w0 Q w a hR he hf => hw φ w0 Q w a hR he fun o e' h' hh => hf o e' h' (hk o e' h' hh)
theorem SWP.of (hF : Fns P) (hm : P.follows .mixedOrders = true) (hov : CallsOk P ov) {c : Code} {e : List AV} {h : Heap} {K : Post} (hw : WP ov P c e h K) : SWP P c e h K := by
  unfold WP at hw
  obtain ⟨o, e', h', ⟨n, hr⟩, hk⟩ := hw
  intro φ w0 Q w a hR he hf
  exact execA_wp hF (drawA_ok hF hm) (callT_ok ov P hF hm hov) c Q φ e h w a _ hR he hr (hf o e' h' hk)

theorem SWP.ret {e : List AV} {h : Heap} {K : Post} (hk : K .ret e h) : SWP P .ret e h K := fun φ w0 Q w a hR he hf => by
  refine wp_ret ?_
  exact hf .ret e h hk φ w a (Up.refl _) hR he rfl
def seqS (P : Program) (b : Code) (K : Post) : Post
  | .normal, e, h => SWP P b e h K
  | o, e, h => K o e h
theorem SWP.seq {a b : Code} {e : List AV} {h : Heap} {K : Post} (hw : SWP P a e h (seqS P b K)) : SWP P (.seq a b) e h K := by
  intro φ w0 Q w act hR he hf
  refine wp_seq ?_
  refine hw φ w0 _ w act hR he ?_
  intro o e' h' hk φ' w' a' hu hR' he' hd
  cases o with
  | normal => exact hk φ' w0 Q w' a' hR' he' (fun o2 e2 h2 hk2 => by rw [hd]; exact (hf o2 e2 h2 hk2).up hu)
  | exit id => exact hf _ _ _ hk φ' w' a' hu hR' he' hd
  | ret => exact hf _ _ _ hk φ' w' a' hu hR' he' hd
  | pan v => exact hf _ _ _ hk φ' w' a' hu hR' he' hd
theorem seqS_normal {b : Code} {K : Post} {e : List AV} {h : Heap} : seqS P b K .normal e h = SWP P b e h K := rfl
theorem seqS_exit {b : Code} {K : Post} {e : List AV} {h : Heap} {i : Nat} : seqS P b K (.exit i) e h = K (.exit i) e h := rfl
theorem seqS_ret {b : Code} {K : Post} {e : List AV} {h : Heap} : seqS P b K .ret e h = K .ret e h := rfl
@[congr] theorem SWP_congr {c : Code} {K : Post} {e e' : List AV} {h h' : Heap} (he : e = e') (hh : h = h') : SWP P c e h K = SWP P c e' h' K := by rw [he, hh]
@[congr] theorem seqS_congr {b : Code} {K : Post} {o o' : Out} {e e' : List AV} {h h' : Heap} (ho : o = o') (he : e = e') (hh : h = h') : seqS P b K o e h = seqS P b K o' e' h' := by rw [ho, he, hh]
@[congr] theorem TP_congr {call : CallF} {ops : Array Oper} {pl : Plan} {e e' : List AV} {h h' : Heap} {K : List AV → Heap → Prop} (he : e = e') (hh : h = h') : TP call P ops pl e h K = TP call P ops pl e' h' K := by rw [he, hh]
theorem TP_done {call : CallF} {ops : Array Oper} {e : List AV} {h : Heap} {K : List AV → Heap → Prop} : TP call P ops .done e h K = K e h := rfl
theorem TP_stop {call : CallF} {ops : Array Oper} {e : List AV} {h : Heap} {K : List AV → Heap → Prop} : TP call P ops .stop e h K = True := rfl
theorem TP_quiet {call : CallF} {ops : Array Oper} {i : Nat} {p : Plan} {o : Oper} (ho : ops[i]? = some o) {e : List AV} {h : Heap} {K : List AV → Heap → Prop} (hw : W (fun x e' h' => x = .normal ∧ TP call P ops p e' h' K) (opsA call P ops [o] e h)) : TP call P ops (.quiet i p) e h K := by
  simp only [TP, ho]; exact hw
theorem TP_alt {call : CallF} {ops : Array Oper} {i : Nat} {cs : List Nat} {p q : Plan} {o : Oper} (ho : ops[i]? = some o) {e : List AV} {h : Heap} {K : List AV → Heap → Prop} (hw : W (fun x e' h' => x = .normal ∧ chkAll P ops cs e' h' ∧ TP call P ops p e' h' K) (opsA call P ops [o] e h)) (hq : TP call P ops q e h K) : TP call P ops (.alt i cs p q) e h K := by
  simp only [TP, ho]; exact ⟨hw, hq⟩
theorem chk_nil {ops : Array Oper} {e : List AV} {h : Heap} : chkAll P ops [] e h = True := rfl
theorem chk_cons {ops : Array Oper} {s : Nat} {cs : List Nat} {e : List AV} {h : Heap} {dst : Tmp} {op : Op} {ty : TypeId} {pos : String} {after : Array Edge} (ho : ops[s]? = some ⟨some dst, op, ty, pos, after, none⟩) : chkAll P ops (s :: cs) e h = (sameV P e h op (nth e dst) = true ∧ chkAll P ops cs e h) := by
  simp only [chkAll, ho, chkO, chk1, wantedA]
theorem chk_intro {ops : Array Oper} {s : Nat} {cs : List Nat} {e : List AV} {h : Heap} {dst : Tmp} {op : Op} {ty : TypeId} {pos : String} {after : Array Edge} (ho : ops[s]? = some ⟨some dst, op, ty, pos, after, none⟩) (h1 : sameV P e h op (nth e dst) = true) (h2 : chkAll P ops cs e h) : chkAll P ops (s :: cs) e h := by
  rw [chk_cons ho]; exact ⟨h1, h2⟩
theorem SWP.tree (hF : Fns P) (hm : P.follows .mixedOrders = true) {call : CallF} (hcall : CallsOk P call) {ops : Array Oper} {n : Nat} (hst : strictOk ops (masks ops.toList []) = true) (hds : dstsOk ops n = true) {pl : Plan} (hp : planOk P ops (masks ops.toList []) pl [] [] = true) {id : Nat} {e : List AV} {h : Heap} {K : Post}
    (hen : e.length = n) (ht : TP call P ops pl e h (fun e' h' => e'.length = n → K .normal e' h')) : SWP P (.region id ops true) e h K := by
  intro φ w0 Q w a hR he hf
  exact tree_region hF hm hcall hst hds hp hR he hen ht (fun e' h' h1 h2 => hf .normal e' h' (h2 h1))

def SCall (P : Program) (f : FuncId) (args : List AV) (h : Heap) (Q : CRes → Prop) : Prop :=
  ∀ φ w0 w (args' : Array Value), R P φ h w0 w → Vs φ args args'.toList → Goes P f args' w (fun e w' => ∃ r, Q r ∧ PostC P φ w0 r e w')

theorem scall_of (hF : Fns P) {f : FuncId} {fn : Func} {c : Code} (hf : P.funcs[f]? = some fn) (hb : fn.body = some c) {args : List AV} {h : Heap} {Q : CRes → Prop}
    (hw : SWP P c (frameA fn args) h (fun o e h' => (o = .normal ∨ o = .ret) ∧ ∃ vs, resultsA P e h' fn.results.toList = some vs ∧ Q (.ret (single vs) h'))) : SCall P f args h Q := by
  intro φ w0 w args' hR ha
  have hlen : args'.size = args.length := by rw [← Array.length_toList, ha.length]
  have hframe : Vs φ (frameA fn args) (args' ++ Array.replicate (fn.ntmps - args'.size) undef).toList := by
    simp only [frameA, Array.toList_append, Array.toList_replicate]
    refine ha.append (Vs.of_get (by simp [hlen]) fun i a v h1 h2 => ?_)
    rw [List.getElem?_replicate] at h1 h2
    split at h1
    · cases h1
      split at h2
      · cases h2; exact undef_V φ
      · cases h2
    · cases h1
  refine .inl ⟨callFunc_run hF hf hb _ _, calls_of_wp hf hb ?_⟩
  refine hw φ w0 _ w _ hR hframe ?_
  intro o e h' hk φ' w' a' hu hR' he' hd
  obtain ⟨ho, vs, hvs, hq⟩ := hk
  obtain ⟨u, h1, h2⟩ := results_run hR' he' hvs
  rcases ho with rfl | rfl
  · exact ⟨hd, u, h1, _, hq, φ', u, rfl, hu, hR', h2⟩
  · exact ⟨hd, u, h1, _, hq, φ', u, rfl, hu, hR', h2⟩
end

attribute [irreducible] SWP

section
open Go.ChangeShapes Go.WideShapes
variable {H : Type} {enc : TypeId × Value → H} {P : Program}
/-- A LAW: what the abstract machine says of it is what its row asks. -/
theorem law_contractS (hl : laidOutB P = true) (hF : Fns P) {f : FuncId} {fn : Func} {c : Code} (hfn : P.funcs[f]? = some fn) (hbd : fn.body = some c) {spec : ChangeSpec} {dep : Nat} {tb : TypeId} (hvars : spec.vars = []) (hres : fn.resultTypes = #[tb]) (htb : P.underlying tb = some .bool)
    (hspec : ∀ ds : List (DataW H), ds.length = fn.params.toList.length → spec.fn H (ds ++ []) = { results := [.lit (.bool true)], args := ds })
    (hread : fn.params.toList.all (fun t => P.readableRec t && decide (t < P.types.size)) = true) (hplain : fn.params.toList.all (plainT P dep) = true)
    {W : World} {base : Nat} {args : Array Value} {ds gs : List (DataW H)} {before : List MemPlace}
    (hval : ∀ (j : Nat) t v, fn.params[j]? = some t → args[j]? = some v → Value.okWide P W .any base t v)
    (hW : DataW.Whole enc P fn.params.toList spec.vars false W args.toList ds gs before)
    (hcall : ∀ (h : Heap) (as : List AV), RepsArgs P h ds fn.params.toList as → P.globals.size ≤ h.next → h.get h.next = none → (∀ i, h.next ≤ i → h.get i = none) → SCall P f as h (fun r => ∃ h', r = .ret (.bool true) h')) :
    Calls P f args W fun e W' => ∃ v, e = .returned v ∧ spec.post enc P fn false true false false W args v W' := by
  have hW' := hW
  obtain ⟨p, q, hA, hV, rfl, hfz, hnd⟩ := hW
  rw [hvars] at hV
  obtain ⟨rfl, rfl⟩ := trodVars_none hV
  obtain ⟨φ, h, as, hu, hx, hR, hno, hVs, hr⟩ := open_args fn.params.toList args.toList ds p hplain (fun j t v ht hv => hval j t v (by rw [← Array.getElem?_toList]; exact ht) (by rw [← Array.getElem?_toList]; exact hv)) hA (glob0 P) (heap0 P) (R.zero W) NoOwn.zero
  have hbig : ∀ i, h.next ≤ i → h.get i = none := by
    intro i hi
    cases hg : h.get i with
    | none => rfl
    | some o => have := hR.lt hg; omega
  have hc := hcall h as hr hx.1 (hR.fresh) hbig
  have hg : Calls P f args W (fun e w' => ∃ r, (∃ h', r = .ret (.bool true) h') ∧ PostC P φ W r e w') := by
    rcases hc φ W W args hR hVs with ⟨_, h2⟩ | ⟨v, w', h1, _⟩
    · exact h2
    · rw [callFunc_run hF hfn hbd] at h1; cases h1
  refine hg.mono fun e W' hp => ?_
  obtain ⟨_, ⟨h', rfl⟩, φ', v', rfl, _, hR', hv'⟩ := hp
  simp only [V] at hv'
  subst hv'
  have hsp := hspec ds (by rw [trodAll_length _ _ _ _ hA])
  refine ⟨_, rfl, ds, [], p ++ [], [], p, [], hW', ?_, ?_, ?_, hR'.below.frame _, fun hh => by cases hh⟩
  · rw [hsp, hres]
    exact trodAll_mk1 (shut_bool htb _)
  · rw [hsp]
    exact trodAll_below hl hR'.below _ _ _ _ hread hA
  · rw [hvars, hsp]
    rfl
end
end Go.Am

namespace Go.Am
open Go.RowKit

/-- What stood in memory already is told as before. -/
def flatV : AV → Bool
  | .bool _ | .int _ _ | .str _ => true
  | _ => false
theorem flat_V {φ φ' : List Emb} {a : AV} (h : flatV a = true) {v : Value} (hv : V φ a v) : V φ' a v := by
  cases a <;> simp only [flatV] at h <;> first | (cases h; done) | skip
  all_goals (simp only [V] at hv ⊢; exact hv)
theorem flat_Vs {φ φ' : List Emb} : ∀ {as : List AV} {vs : List Value}, as.all flatV = true → Vs φ as vs → Vs φ' as vs
  | [], vs, _, h => by simpa only [Vs] using h
  | a :: as, vs, hf, h => by
    simp only [List.all_cons, Bool.and_eq_true] at hf
    simp only [Vs] at h
    obtain ⟨y, ys, rfl, h1, h2⟩ := h
    rw [Vs_cons]
    exact ⟨flat_V hf.1 h1, flat_Vs hf.2 h2⟩

mutual
theorem V.back {φ φ' : List Emb} (hu : Up φ φ') : ∀ (a : AV) (u v : Value), V φ a u → V φ' a v → V φ a v
  | .unk, _, _, _, _ => by simp [V]
  | .bool _, _, _, _, hv => by simpa [V] using hv
  | .int _ _, _, _, _, hv => by simpa [V] using hv
  | .str _, _, _, _, hv => by simpa [V] using hv
  | .ptr none, _, _, _, hv => by simpa [V] using hv
  | .ptr (some l), _, _, hx, hv => by
    simp only [V] at hx hv ⊢
    obtain ⟨e, he, _⟩ := hx
    obtain ⟨e', he', hv⟩ := hv
    have := hu.get he
    rw [this] at he'; cases he'
    exact ⟨e, he, hv⟩
  | .slice none _ c, _, _, _, hv => by cases c <;> simp [V] at hv ⊢ <;> exact hv
  | .slice (some l) n c, _, _, hx, hv => by
    simp only [V] at hx hv ⊢
    obtain ⟨e, cap, a, he, _⟩ := hx
    obtain ⟨e', cap', a', he', hv⟩ := hv
    have := hu.get he
    rw [this] at he'; cases he'
    exact ⟨e, cap', a', he, hv⟩
  | .map none, _, _, _, hv => by simpa [V] using hv
  | .map (some i), _, _, hx, hv => by
    simp only [V] at hx hv ⊢
    obtain ⟨e, he, _⟩ := hx
    obtain ⟨e', he', hv⟩ := hv
    have := hu.get he
    rw [this] at he'; cases he'
    exact ⟨e, he, hv⟩
  | .chan none, _, _, _, hv => by simpa [V] using hv
  | .chan (some i), _, _, hx, hv => by
    simp only [V] at hx hv ⊢
    obtain ⟨e, he, _⟩ := hx
    obtain ⟨e', he', hv⟩ := hv
    have := hu.get he
    rw [this] at he'; cases he'
    exact ⟨e, he, hv⟩
  | .func fn a b, _, _, hx, hv => by
    simp only [V] at hx hv ⊢
    obtain ⟨x, y, _, hxa, hxb⟩ := hx
    obtain ⟨x', y', he, ha, hb⟩ := hv
    exact ⟨x', y', he, Vs.back hu a _ _ hxa ha, Vs.back hu b _ _ hxb hb⟩
  | .nilFunc, _, _, _, hv => by simpa [V] using hv
  | .iface t x, _, _, hx, hv => by
    simp only [V] at hx hv ⊢
    obtain ⟨y, _, hy⟩ := hx
    obtain ⟨y', he, hv⟩ := hv
    exact ⟨y', he, V.back hu x _ _ hy hv⟩
  | .nilIface, _, _, _, hv => by simpa [V] using hv
  | .agg cs, _, _, hx, hv => by
    simp only [V] at hx hv ⊢
    obtain ⟨x, _, hy⟩ := hx
    obtain ⟨x', he, hv⟩ := hv
    exact ⟨x', he, Vs.back hu cs _ _ hy hv⟩
  | .tuple cs, _, _, hx, hv => by
    simp only [V] at hx hv ⊢
    obtain ⟨x, _, hy⟩ := hx
    obtain ⟨x', he, hv⟩ := hv
    exact ⟨x', he, Vs.back hu cs _ _ hy hv⟩
theorem Vs.back {φ φ' : List Emb} (hu : Up φ φ') : ∀ (as : List AV) (us vs : List Value), Vs φ as us → Vs φ' as vs → Vs φ as vs
  | [], _, _, _, hv => by simpa [Vs] using hv
  | a :: as, _, _, hx, hv => by
    simp only [Vs] at hx hv ⊢
    obtain ⟨y, ys, _, h1, h2⟩ := hx
    obtain ⟨y', ys', he, h3, h4⟩ := hv
    exact ⟨y', ys', he, V.back hu a _ _ h1 h3, Vs.back hu as _ _ h2 h4⟩
end
theorem Entries.back {φ φ' : List Emb} (hu : Up φ φ') : ∀ {es : List (AV × AV × Nat)} {us vs : List MapEntry}, Entries φ es us → Entries φ' es vs → Entries φ es vs
  | [], _, _, _, hv => hv
  | x :: xs, _, _, hx, hv => by
    simp only [Entries] at hx hv ⊢
    obtain ⟨y, ys, _, h1, h2⟩ := hx
    obtain ⟨y', ys', he, h3, h4⟩ := hv
    exact ⟨y', ys', he, ⟨V.back hu _ _ _ h1.1 h3.1, V.back hu _ _ _ h1.2.1 h3.2.1, h3.2.2⟩, Entries.back hu h2 h4⟩
theorem O.back {φ φ' : List Emb} (hu : Up φ φ') {e : Emb} {w w' : World} : ∀ {o : Obj}, O φ e w o → O φ' e w' o → O φ e w' o
  | .cells cs k, hx, hv => by
    simp only [O] at hx hv ⊢
    obtain ⟨C, t, fr, _, _, _, _, _, h6⟩ := hx
    obtain ⟨C', t', fr', g1, g2, g3, g4, g5, g6⟩ := hv
    exact ⟨C', t', fr', g1, g2, g3, g4, g5, Vs.back hu _ _ _ h6 g6⟩
  | .map es clock, hx, hv => by
    simp only [O] at hx hv ⊢
    obtain ⟨ES, _, h2⟩ := hx
    obtain ⟨ES', g1, g2⟩ := hv
    exact ⟨ES', g1, Entries.back hu h2 g2⟩
  | .chan cap buf closed, hx, hv => by
    simp only [O] at hx hv ⊢
    obtain ⟨B, s, r, _, h2⟩ := hx
    obtain ⟨B', s', r', g1, g2⟩ := hv
    exact ⟨B', s', r', g1, Vs.back hu _ _ _ h2 g2⟩

theorem canon_flat {P : Program} {f : FuncId} {args : List AV} {h : Heap} {xs : List AV} (hfl : xs.all flatV = true) (hne : xs ≠ []) (hs : SCall P f args h (fun r => ∃ v h', r = .ret v h' ∧ Acc h.next h' v xs ∧ Keep [] h h')) :
    CallOk P f args h (.ret (.slice (some ⟨h.next, 0⟩) xs.length (.tip 1)) (h.alloc (.cells xs .own))) := by
  intro φ w0 w args' hR hV
  refine (hs φ w0 w args' hR hV).mono ?_
  rintro e w' ⟨_, ⟨v, h', rfl, hacc, hk⟩, φ', v', rfl, hu, hR', hv⟩
  obtain ⟨i, hi, _, rfl, hg⟩ := hacc.resolve_left (fun hh => hne hh.1)
  obtain ⟨em, hem, ho, hown⟩ := hR'.objs i _ hg
  have hfree : h.get h.next = none := by
    cases hgn : h.get h.next with
    | none => rfl
    | some o => have := hR.lt hgn; omega
  have hold : ∀ {j : Nat} {o : Obj}, h.get j = some o → ∃ e0, φ[j]? = some e0 ∧ φ'[j]? = some e0 ∧ O φ e0 w' o ∧ (o.isOwn = true → w0.heap.size ≤ e0.blk) ∧ h'.get j = some o ∧ j < h.next ∧ j ≠ i := by
    intro j o hj
    obtain ⟨e0, he0, ho0, _⟩ := hR.objs j o hj
    have hj' := hk.get j o hj (by simp)
    obtain ⟨e1, he1, ho1, hw1⟩ := hR'.objs j o hj'
    have := hu.get he0
    rw [this] at he1; cases he1
    have := hR.lt hj
    exact ⟨e0, he0, by assumption, ho0.back hu ho1, hw1, hj', by omega, by omega⟩
  have hlen := hR.len
  have hup : Up φ (φ ++ [em]) := Up.snoc φ em
  refine ⟨φ ++ [em], v', rfl, hup, ?_, ?_⟩
  · refine ⟨hR'.below, by rw [Heap.next_alloc]; simp [hlen], ?_, ?_, ?_⟩
    · intro j o hj
      by_cases hjn : j = h.next
      · subst hjn
        rw [Heap.get_alloc] at hj
        cases hj
        refine ⟨em, by rw [← hlen]; simp, ?_, hown⟩
        simp only [O] at ho ⊢
        obtain ⟨C, t, fr, g1, g2, g3, g4, g5, g6⟩ := ho
        exact ⟨C, t, fr, g1, g2, g3, g4, g5, flat_Vs hfl g6⟩
      · rw [Heap.get_alloc_ne _ _ (Ne.symm hjn)] at hj
        obtain ⟨e0, h1, _, h3, h4, _⟩ := hold hj
        exact ⟨e0, hup.get h1, h3.up hup, h4⟩
    · intro a b oa ob ea eb hab ha hb hea heb hoa
      by_cases han : a = h.next
      · subst han
        rw [Heap.get_alloc] at ha
        cases ha
        rw [Heap.get_alloc_ne _ _ hab] at hb
        obtain ⟨e0, h1, h2, _, _, h5, _, h7⟩ := hold hb
        have := hup.get h1
        rw [this] at heb; cases heb
        have : (φ ++ [em])[h.next]? = some em := by rw [← hlen]; simp
        rw [this] at hea; cases hea
        exact hR'.sep i b _ _ _ _ (Ne.symm h7) hg h5 hem h2 hoa
      · rw [Heap.get_alloc_ne _ _ (Ne.symm han)] at ha
        obtain ⟨e0, h1, h2, _, _, h5, _, h7⟩ := hold ha
        have := hup.get h1
        rw [this] at hea; cases hea
        by_cases hbn : b = h.next
        · subst hbn
          rw [Heap.get_alloc] at hb
          cases hb
          have : (φ ++ [em])[h.next]? = some em := by rw [← hlen]; simp
          rw [this] at heb; cases heb
          exact hR'.sep a i _ _ _ _ h7 h5 hg h2 hem hoa
        · rw [Heap.get_alloc_ne _ _ (Ne.symm hbn)] at hb
          obtain ⟨e1, k1, k2, _, _, k5, _, _⟩ := hold hb
          have := hup.get k1
          rw [this] at heb; cases heb
          exact hR'.sep a b _ _ _ _ hab h5 k5 h2 k2 hoa
    · intro g hg
      obtain ⟨n, hn⟩ := hR.glob g hg
      exact ⟨n, hup.get hn⟩
  · simp only [V] at hv ⊢
    obtain ⟨e1, cap, a, he1, rest⟩ := hv
    rw [hem] at he1; cases he1
    exact ⟨em, cap, a, by rw [← hlen]; simp, rest⟩
end Go.Am
