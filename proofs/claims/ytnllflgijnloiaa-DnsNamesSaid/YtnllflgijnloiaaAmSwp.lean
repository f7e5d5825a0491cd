/- What a piece of code comes to, whatever is drawn: the calculus for laws whose memory hangs on the order. -/
import Derived.Test.YtnllflgijnloiaaAmDraw4
import Derived.Test.YtnllflgijnloiaaAmLaw
namespace Go.Am
open Go.RowKit

section
variable {P : Program} {ov : CallF}

def SWP (P : Program) (c : Code) (e : List AV) (h : Heap) (K : Post) : Prop :=
  ∀ (φ : List Emb) (w0 : World) (Q : Exit → Act → World → Prop) (w : World) (a : Act), R P φ h w0 w → Vs φ e a.tmps.toList → (∀ o e' h', K o e' h' → Final P φ w0 a.defers Q (o, e', h')) → c.wp P Q a w

theorem SWP.mono {c : Code} {e : List AV} {h : Heap} {K K' : Post} (hw : SWP P c e h K) (hk : ∀ o e h, K o e h → K' o e h) : SWP P c e h K' :=
  fun φ w0 Q w a hR he hf => hw φ w0 Q w a hR he fun o e' h' hh => hf o e' h' (hk o e' h' hh)
theorem SWP.of (hF : Fns P) (hm : P.follows .mixedOrders = true) (hov : CallsOk P ov) {c : Code} {e : List AV} {h : Heap} {K : Post} (hw : WP ov P c e h K) : SWP P c e h K := by
  unfold WP at hw
  obtain ⟨o, e', h', ⟨n, hr⟩, hk⟩ := hw
  intro φ w0 Q w a hR he hf
  exact execA_wp hF (drawA_ok hF hm) (callT_ok ov P hF hm hov) c Q φ e h w a _ hR he hr (hf o e' h' hk)

theorem SWP.ret {e : List AV} {h : Heap} {K : Post} (hk : K .ret e h) : SWP P .ret e h K := fun φ w0 Q w a hR he hf => by
  refine wp_ret ?_
  exact hf .ret e h hk φ w a (Up.refl _) hR he rfl
def seqS (P : Program) (b : Code) (K : Post) : Post
  | .normal, e, h => SWP P b e h K
  | o, e, h => K o e h
theorem SWP.seq {a b : Code} {e : List AV} {h : Heap} {K : Post} (hw : SWP P a e h (seqS P b K)) : SWP P (.seq a b) e h K := by
  intro φ w0 Q w act hR he hf
  refine wp_seq ?_
  refine hw φ w0 _ w act hR he ?_
  intro o e' h' hk φ' w' a' hu hR' he' hd
  cases o with
  | normal => exact hk φ' w0 Q w' a' hR' he' (fun o2 e2 h2 hk2 => by rw [hd]; exact (hf o2 e2 h2 hk2).up hu)
  | exit id => exact hf _ _ _ hk φ' w' a' hu hR' he' hd
  | ret => exact hf _ _ _ hk φ' w' a' hu hR' he' hd
  | pan v => exact hf _ _ _ hk φ' w' a' hu hR' he' hd
theorem seqS_normal {b : Code} {K : Post} {e : List AV} {h : Heap} : seqS P b K .normal e h = SWP P b e h K := rfl
theorem seqS_exit {b : Code} {K : Post} {e : List AV} {h : Heap} {i : Nat} : seqS P b K (.exit i) e h = K (.exit i) e h := rfl
theorem seqS_ret {b : Code} {K : Post} {e : List AV} {h : Heap} : seqS P b K .ret e h = K .ret e h := rfl
@[congr] theorem SWP_congr {c : Code} {K : Post} {e e' : List AV} {h h' : Heap} (he : e = e') (hh : h = h') : SWP P c e h K = SWP P c e' h' K := by rw [he, hh]
@[congr] theorem seqS_congr {b : Code} {K : Post} {o o' : Out} {e e' : List AV} {h h' : Heap} (ho : o = o') (he : e = e') (hh : h = h') : seqS P b K o e h = seqS P b K o' e' h' := by rw [ho, he, hh]
@[congr] theorem TP_congr {call : CallF} {ops : Array Oper} {pl : Plan} {e e' : List AV} {h h' : Heap} {K : List AV → Heap → Prop} (he : e = e') (hh : h = h') : TP call P ops pl e h K = TP call P ops pl e' h' K := by rw [he, hh]
theorem TP_done {call : CallF} {ops : Array Oper} {e : List AV} {h : Heap} {K : List AV → Heap → Prop} : TP call P ops .done e h K = K e h := rfl
theorem TP_stop {call : CallF} {ops : Array Oper} {e : List AV} {h : Heap} {K : List AV → Heap → Prop} : TP call P ops .stop e h K = True := rfl
theorem TP_quiet {call : CallF} {ops : Array Oper} {i : Nat} {p : Plan} {o : Oper} (ho : ops[i]? = some o) {e : List AV} {h : Heap} {K : List AV → Heap → Prop} (hw : W (fun x e' h' => x = .normal ∧ TP call P ops p e' h' K) (opsA call P ops [o] e h)) : TP call P ops (.quiet i p) e h K := by
  simp only [TP, ho]; exact hw
theorem TP_alt {call : CallF} {ops : Array Oper} {i : Nat} {cs : List Nat} {p q : Plan} {o : Oper} (ho : ops[i]? = some o) {e : List AV} {h : Heap} {K : List AV → Heap → Prop} (hw : W (fun x e' h' => x = .normal ∧ chkAll P ops cs e' h' ∧ TP call P ops p e' h' K) (opsA call P ops [o] e h)) (hq : TP call P ops q e h K) : TP call P ops (.alt i cs p q) e h K := by
  simp only [TP, ho]; exact ⟨hw, hq⟩
theorem chk_nil {ops : Array Oper} {e : List AV} {h : Heap} : chkAll P ops [] e h = True := rfl
theorem chk_cons {ops : Array Oper} {s : Nat} {cs : List Nat} {e : List AV} {h : Heap} {dst : Tmp} {op : Op} {ty : TypeId} {pos : String} {after : Array Edge} (ho : ops[s]? = some ⟨some dst, op, ty, pos, after, none⟩) : chkAll P ops (s :: cs) e h = (sameV P e h op (nth e dst) = true ∧ chkAll P ops cs e h) := by
  simp only [chkAll, ho, chkO, chk1, wantedA]
theorem chk_intro {ops : Array Oper} {s : Nat} {cs : List Nat} {e : List AV} {h : Heap} {dst : Tmp} {op : Op} {ty : TypeId} {pos : String} {after : Array Edge} (ho : ops[s]? = some ⟨some dst, op, ty, pos, after, none⟩) (h1 : sameV P e h op (nth e dst) = true) (h2 : chkAll P ops cs e h) : chkAll P ops (s :: cs) e h := by
  rw [chk_cons ho]; exact ⟨h1, h2⟩
theorem SWP.tree (hF : Fns P) (hm : P.follows .mixedOrders = true) {call : CallF} (hcall : CallsOk P call) {ops : Array Oper} {n : Nat} (hst : strictOk ops (masks ops.toList []) = true) (hds : dstsOk ops n = true) {pl : Plan} (hp : planOk P ops (masks ops.toList []) pl [] [] = true) {id : Nat} {e : List AV} {h : Heap} {K : Post}
    (hen : e.length = n) (ht : TP call P ops pl e h (fun e' h' => e'.length = n → K .normal e' h')) : SWP P (.region id ops true) e h K := by
  intro φ w0 Q w a hR he hf
  exact tree_region hF hm hcall hst hds hp hR he hen ht (fun e' h' h1 h2 => hf .normal e' h' (h2 h1))

def SCall (P : Program) (f : FuncId) (args : List AV) (h : Heap) (Q : CRes → Prop) : Prop :=
  ∀ φ w0 w (args' : Array Value), R P φ h w0 w → Vs φ args args'.toList → Goes P f args' w (fun e w' => ∃ r, Q r ∧ PostC P φ w0 r e w')

theorem scall_of (hF : Fns P) {f : FuncId} {fn : Func} {c : Code} (hf : P.funcs[f]? = some fn) (hb : fn.body = some c) {args : List AV} {h : Heap} {Q : CRes → Prop}
    (hw : SWP P c (frameA fn args) h (fun o e h' => (o = .normal ∨ o = .ret) ∧ ∃ vs, resultsA P e h' fn.results.toList = some vs ∧ Q (.ret (single vs) h'))) : SCall P f args h Q := by
  intro φ w0 w args' hR ha
  have hlen : args'.size = args.length := by rw [← Array.length_toList, ha.length]
  have hframe : Vs φ (frameA fn args) (args' ++ Array.replicate (fn.ntmps - args'.size) undef).toList := by
    simp only [frameA, Array.toList_append, Array.toList_replicate]
    refine ha.append (Vs.of_get (by simp [hlen]) fun i a v h1 h2 => ?_)
    rw [List.getElem?_replicate] at h1 h2
    split at h1
    · cases h1
      split at h2
      · cases h2; exact undef_V φ
      · cases h2
    · cases h1
  refine .inl ⟨callFunc_run hF hf hb _ _, calls_of_wp hf hb ?_⟩
  refine hw φ w0 _ w _ hR hframe ?_
  intro o e h' hk φ' w' a' hu hR' he' hd
  obtain ⟨ho, vs, hvs, hq⟩ := hk
  obtain ⟨u, h1, h2⟩ := results_run hR' he' hvs
  rcases ho with rfl | rfl
  · exact ⟨hd, u, h1, _, hq, φ', u, rfl, hu, hR', h2⟩
  · exact ⟨hd, u, h1, _, hq, φ', u, rfl, hu, hR', h2⟩
end

attribute [irreducible] SWP

section
open Go.ChangeShapes Go.WideShapes
variable {H : Type} {enc : TypeId × Value → H} {P : Program}
/-- A LAW: what the abstract machine says of it is what its row asks. -/
theorem law_contractS (hl : laidOutB P = true) (hF : Fns P) {f : FuncId} {fn : Func} {c : Code} (hfn : P.funcs[f]? = some fn) (hbd : fn.body = some c) {spec : ChangeSpec} {dep : Nat} {tb : TypeId} (hvars : spec.vars = []) (hres : fn.resultTypes = #[tb]) (htb : P.underlying tb = some .bool)
    (hspec : ∀ ds : List (DataW H), ds.length = fn.params.toList.length → spec.fn H (ds ++ []) = { results := [.lit (.bool true)], args := ds })
    (hread : fn.params.toList.all (fun t => P.readableRec t && decide (t < P.types.size)) = true) (hplain : fn.params.toList.all (plainT P dep) = true)
    {W : World} {base : Nat} {args : Array Value} {ds gs : List (DataW H)} {before : List MemPlace}
    (hval : ∀ (j : Nat) t v, fn.params[j]? = some t → args[j]? = some v → Value.okWide P W .any base t v)
    (hW : DataW.Whole enc P fn.params.toList spec.vars false W args.toList ds gs before)
    (hcall : ∀ (h : Heap) (as : List AV), RepsArgs P h ds fn.params.toList as → P.globals.size ≤ h.next → h.get h.next = none → (∀ i, h.next ≤ i → h.get i = none) → SCall P f as h (fun r => ∃ h', r = .ret (.bool true) h')) :
    Calls P f args W fun e W' => ∃ v, e = .returned v ∧ spec.post enc P fn false true false false W args v W' := by
  have hW' := hW
  obtain ⟨p, q, hA, hV, rfl, hfz, hnd⟩ := hW
  rw [hvars] at hV
  obtain ⟨rfl, rfl⟩ := trodVars_none hV
  obtain ⟨φ, h, as, hu, hx, hR, hno, hVs, hr⟩ := open_args fn.params.toList args.toList ds p hplain (fun j t v ht hv => hval j t v (by rw [← Array.getElem?_toList]; exact ht) (by rw [← Array.getElem?_toList]; exact hv)) hA (glob0 P) (heap0 P) (R.zero W) NoOwn.zero
  have hbig : ∀ i, h.next ≤ i → h.get i = none := by
    intro i hi
    cases hg : h.get i with
    | none => rfl
    | some o => have := hR.lt hg; omega
  have hc := hcall h as hr hx.1 (hR.fresh) hbig
  have hg : Calls P f args W (fun e w' => ∃ r, (∃ h', r = .ret (.bool true) h') ∧ PostC P φ W r e w') := by
    rcases hc φ W W args hR hVs with ⟨_, h2⟩ | ⟨v, w', h1, _⟩
    · exact h2
    · rw [callFunc_run hF hfn hbd] at h1; cases h1
  refine hg.mono fun e W' hp => ?_
  obtain ⟨_, ⟨h', rfl⟩, φ', v', rfl, _, hR', hv'⟩ := hp
  simp only [V] at hv'
  subst hv'
  have hsp := hspec ds (by rw [trodAll_length _ _ _ _ hA])
  refine ⟨_, rfl, ds, [], p ++ [], [], p, [], hW', ?_, ?_, ?_, hR'.below.frame _, fun hh => by cases hh⟩
  · rw [hsp, hres]
    exact trodAll_mk1 (shut_bool htb _)
  · rw [hsp]
    exact trodAll_below hl hR'.below _ _ _ _ hread hA
  · rw [hvars, hsp]
    rfl
end
end Go.Am
