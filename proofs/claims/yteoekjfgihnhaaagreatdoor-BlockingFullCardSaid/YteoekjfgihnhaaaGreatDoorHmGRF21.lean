/- Parts of the proof by the abstract machine: Law, Reps. -/
import Derived.Test.YteoekjfgihnhaaaGreatDoorHmGRF16
import Derived.Carry
import Derived.ChangeShapes
import Derived.OpenShut
import Derived.Test.YteoekjfgihnhaaaGreatDoorHmGRF13
set_option linter.all false
noncomputable section
namespace Go.Am
open Go.RowKit Go.ChangeShapes Go.WideShapes

section
variable {H : Type} {enc : TypeId × Value → H} {P : Program}

/-- An argument's cells. -/
def ArgIs (P : Program) (t : TypeId) (a : AV) (xs : List AV) : Prop :=
  match P.underlying t with
  | some (.struct _) | some (.array _ _) => a = .agg xs
  | _ => xs = [a]

def RepsArgs (P : Program) (h : Heap) : List (DataW H) → List TypeId → List AV → Prop
  | [], [], [] => True
  | d :: ds, t :: ts, a :: as => (∃ xs, ArgIs P t a xs ∧ Reps P h d t xs) ∧ RepsArgs P h ds ts as
  | _, _, _ => False

theorem RepsArgs.ext {h h' : Heap} (hx : Ext h h') : ∀ {ds : List (DataW H)} {ts : List TypeId} {as : List AV}, RepsArgs P h ds ts as → RepsArgs P h' ds ts as
  | [], [], [], hr => hr
  | d :: ds, t :: ts, a :: as, hr => by
    simp only [RepsArgs] at hr ⊢
    obtain ⟨⟨xs, h1, h2⟩, h3⟩ := hr
    exact ⟨⟨xs, h1, Reps.ext hx _ _ _ h2⟩, RepsArgs.ext hx h3⟩
  | [], [], _ :: _, hr => by simp [RepsArgs] at hr
  | [], _ :: _, _, hr => by simp [RepsArgs] at hr
  | _ :: _, [], _, hr => by simp [RepsArgs] at hr
  | _ :: _, _ :: _, [], hr => by simp [RepsArgs] at hr

/-- Where nothing is opened yet: the globals' places alone. -/
def glob0 (P : Program) : List Emb := (List.range P.globals.size).map fun g => ⟨g, 0, 0⟩
def heap0 (P : Program) : Heap := ⟨P.globals.size, .leaf, []⟩
theorem heap0_get (P : Program) (i : Nat) : (heap0 P).get i = none := T16.get_leaf i
theorem R.zero (W : World) : R P (glob0 P) (heap0 P) W W where
  below := Below.refl _ _
  len := by simp [glob0, heap0]
  objs := fun i o hi => by rw [heap0_get] at hi; cases hi
  sep := fun i j oi oj ei ej _ hi => by rw [heap0_get] at hi; cases hi
  glob := fun g hg => ⟨0, by simp [glob0, hg]⟩
theorem NoOwn.zero : NoOwn (heap0 P) := fun i o hi => by rw [heap0_get] at hi; cases hi

theorem not_agg {W : World} {base : Nat} {t : TypeId} {v : Value} (hno : ∀ fs, P.underlying t ≠ some (.struct fs)) (hna : ∀ n e, P.underlying t ≠ some (.array n e)) (hv : Value.okWide P W .any base t v) : v.cells = #[v] := by
  cases v with
  | agg cs =>
    exfalso
    unfold Value.okWide at hv
    split at hv
    · rename_i fs hu; exact hno fs hu
    · rename_i n e hu; exact hna n e hu
    · unfold Cell.okWide at hv
      split at hv <;> first | (rename_i heq _; cases heq; done) | (rename_i heq; cases heq; done) | skip
      unfold Cell.ok at hv
      split at hv <;> first | (rename_i heq; cases heq; done) | exact hv
  | _ => rfl

theorem open_args {W : World} {base dep : Nat} : ∀ (ts : List TypeId) (vs : List Value) (ds : List (DataW H)) (ps : List MemPlace), ts.all (plainT P dep) = true → (∀ (j : Nat) (t : TypeId) (v : Value), ts[j]? = some t → vs[j]? = some v → Value.okWide P W .any base t v) →
    DataW.TrodAll enc P W 0 (fun _ => true) true ts vs ds ps → ∀ (φ : List Emb) (h : Heap), R P φ h W W → NoOwn h → Opened P W φ h vs (fun h' as => RepsArgs P h' ds ts as)
  | [], [], [], ps, _, _, _, φ, h, hR, hno => ⟨φ, h, [], Up.refl _, Ext.refl _, hR, hno, by simp [Vs], by simp [RepsArgs]⟩
  | t :: ts, v :: vs, d :: ds, ps, hp, hv, hA, φ, h, hR, hno => by
    simp only [List.all_cons, Bool.and_eq_true] at hp
    obtain ⟨p, q, ⟨fuel, h1⟩, h2, _⟩ := hA
    obtain ⟨_, φ1, h1', xs, hu1, hx1, hR1, hno1, hV1, hr1⟩ := open_trod fuel dep t hp.1 φ h _ d p hR hno h1
    obtain ⟨φ2, h2', as, hu2, hx2, hR2, hno2, hV2, hr2⟩ := open_args ts vs ds q hp.2 (fun j t' v' ht hv' => hv (j + 1) t' v' (by simpa using ht) (by simpa using hv')) h2 φ1 h1' hR1 hno1
    have hv0 := hv 0 t v rfl rfl
    have main : ∃ a, ArgIs P t a xs ∧ V φ1 a v := by
      by_cases hagg : (∃ fs, P.underlying t = some (.struct fs)) ∨ (∃ n e, P.underlying t = some (.array n e))
      · have : ∃ C, v = .agg C := by
          unfold Value.okWide at hv0
          rcases hagg with ⟨fs, hu⟩ | ⟨n, e, hu⟩ <;> rw [hu] at hv0 <;> obtain ⟨cs, hcs, _⟩ := hv0 <;> exact ⟨cs, hcs⟩
        obtain ⟨C, rfl⟩ := this
        refine ⟨.agg xs, ?_, by simp only [V]; exact ⟨C, rfl, hV1⟩⟩
        unfold ArgIs
        rcases hagg with ⟨fs, hu⟩ | ⟨n, e, hu⟩ <;> rw [hu]
      · have hc := not_agg (fun fs hu => hagg (.inl ⟨fs, hu⟩)) (fun n e hu => hagg (.inr ⟨n, e, hu⟩)) hv0
        rw [hc] at hV1
        match xs, hV1 with
        | [], hV1 => simp [Vs] at hV1
        | [a], hV1 =>
          refine ⟨a, ?_, by rw [Vs_cons] at hV1; exact hV1.1⟩
          unfold ArgIs
          split
          · rename_i fs hu; exact absurd (.inl ⟨fs, hu⟩) hagg
          · rename_i n e hu; exact absurd (.inr ⟨n, e, hu⟩) hagg
          · rfl
        | a :: b :: xs, hV1 => have := hV1.length; simp at this
    obtain ⟨a, ha, hVa⟩ := main
    refine ⟨φ2, h2', a :: as, hu1.trans hu2, hx1.trans hx2, hR2, hno2, ?_, ?_⟩
    · rw [Vs_cons]; exact ⟨V.up hu2 _ _ hVa, hV2⟩
    · simp only [RepsArgs]
      exact ⟨⟨xs, ha, Reps.ext hx2 _ _ _ hr1⟩, hr2⟩
  | [], [], _ :: _, ps, _, _, hA, φ, h, hR, hno => by simp [DataW.TrodAll] at hA
  | [], _ :: _, _, ps, _, _, hA, φ, h, hR, hno => by simp [DataW.TrodAll] at hA
  | _ :: _, [], _, ps, _, _, hA, φ, h, hR, hno => by simp [DataW.TrodAll] at hA
  | _ :: _, _ :: _, [], ps, _, _, hA, φ, h, hR, hno => by simp [DataW.TrodAll] at hA

theorem trodAll_below (hl : laidOutB P = true) {W W' : World} (hb : Below W.heap.size W W') : ∀ (ts : List TypeId) (vs : List Value) (ds : List (DataW H)) (ps : List MemPlace), ts.all (fun t => P.readableRec t && decide (t < P.types.size)) = true →
    DataW.TrodAll enc P W 0 (fun _ => true) true ts vs ds ps → DataW.TrodAll enc P W' 0 (fun b => decide (b < W.heap.size)) true ts vs ds ps
  | [], [], [], ps, _, hA => hA
  | t :: ts, v :: vs, d :: ds, ps, hr, hA => by
    simp only [List.all_cons, Bool.and_eq_true, decide_eq_true_eq] at hr
    obtain ⟨p, q, h1, h2, rfl⟩ := hA
    exact ⟨p, q, Below.trod hl hr.1.1 hr.1.2 h1 hb (by obtain ⟨m, hm⟩ := h1; exact DataW.trod_lt m _ _ _ hm), trodAll_below hl hb ts vs ds q (by simpa [List.all_eq_true] using hr.2) h2, rfl⟩
  | [], [], _ :: _, ps, _, hA => by simp [DataW.TrodAll] at hA
  | [], _ :: _, _, ps, _, hA => by simp [DataW.TrodAll] at hA
  | _ :: _, [], _, ps, _, hA => by simp [DataW.TrodAll] at hA
  | _ :: _, _ :: _, [], ps, _, hA => by simp [DataW.TrodAll] at hA

theorem trodAll_length {W : World} {base : Nat} {sp : Nat → Bool} {held : Bool} : ∀ (ts : List TypeId) (vs : List Value) (ds : List (DataW H)) (ps : List MemPlace), DataW.TrodAll enc P W base sp held ts vs ds ps → ds.length = ts.length
  | [], [], [], _, _ => rfl
  | t :: ts, v :: vs, d :: ds, ps, hA => by
    obtain ⟨p, q, _, h2, _⟩ := hA
    simp [trodAll_length ts vs ds q h2]
  | [], [], _ :: _, ps, hA => by simp [DataW.TrodAll] at hA
  | [], _ :: _, _, ps, hA => by simp [DataW.TrodAll] at hA
  | _ :: _, [], _, ps, hA => by simp [DataW.TrodAll] at hA
  | _ :: _, _ :: _, [], ps, hA => by simp [DataW.TrodAll] at hA

/-- A LAW: what the abstract machine says of it is what its row asks. -/
theorem law_contract (hl : laidOutB P = true) (hF : Fns P) {f : FuncId} {fn : Func} {c : Code} (hfn : P.funcs[f]? = some fn) (hbd : fn.body = some c) {spec : ChangeSpec} {dep : Nat} {tb : TypeId} (hvars : spec.vars = []) (hres : fn.resultTypes = #[tb]) (htb : P.underlying tb = some .bool)
    (hspec : ∀ ds : List (DataW H), ds.length = fn.params.toList.length → spec.fn H (ds ++ []) = { results := [.lit (.bool true)], args := ds })
    (hread : fn.params.toList.all (fun t => P.readableRec t && decide (t < P.types.size)) = true) (hplain : fn.params.toList.all (plainT P dep) = true)
    {W : World} {base : Nat} {args : Array Value} {ds gs : List (DataW H)} {before : List MemPlace}
    (hval : ∀ (j : Nat) t v, fn.params[j]? = some t → args[j]? = some v → Value.okWide P W .any base t v)
    (hW : DataW.Whole enc P fn.params.toList spec.vars false W args.toList ds gs before)
    (hcall : ∀ (h : Heap) (as : List AV), RepsArgs P h ds fn.params.toList as → P.globals.size ≤ h.next → h.get h.next = none → (∀ i, h.next ≤ i → h.get i = none) → ∃ h', CallOk P f as h (.ret (.bool true) h')) :
    Calls P f args W fun e W' => ∃ v, e = .returned v ∧ spec.post enc P fn false true false false W args v W' := by
  have hW' := hW
  obtain ⟨p, q, hA, hV, rfl, hfz, hnd⟩ := hW
  rw [hvars] at hV
  obtain ⟨rfl, rfl⟩ := trodVars_none hV
  obtain ⟨φ, h, as, hu, hx, hR, hno, hVs, hr⟩ := open_args fn.params.toList args.toList ds p hplain (fun j t v ht hv => hval j t v (by rw [← Array.getElem?_toList]; exact ht) (by rw [← Array.getElem?_toList]; exact hv)) hA (glob0 P) (heap0 P) (R.zero W) NoOwn.zero
  have hbig : ∀ i, h.next ≤ i → h.get i = none := by
    intro i hi
    cases hg : h.get i with
    | none => rfl
    | some o => have := hR.lt hg; omega
  obtain ⟨h', hc⟩ := hcall h as hr hx.1 (hR.fresh) hbig
  have hg : Calls P f args W (PostC P φ W (.ret (.bool true) h')) := by
    have hc2 := hc φ W W args hR hVs
    rw [if_pos (Array.getElem?_eq_some_iff.1 hfn).1] at hc2
    rcases hc2 with ⟨_, h2⟩ | ⟨v, w', h1, _⟩
    · exact h2
    · rw [callFunc_run hF hfn hbd] at h1; cases h1
  refine hg.mono fun e W' hp => ?_
  obtain ⟨φ', v', rfl, _, hR', hv'⟩ := hp
  simp only [V] at hv'
  subst hv'
  have hsp := hspec ds (by rw [trodAll_length _ _ _ _ hA])
  refine ⟨_, rfl, ds, [], p ++ [], [], p, [], hW', ?_, ?_, ?_, hR'.below.frame _, fun hh => by cases hh⟩
  · rw [hsp, hres]
    exact trodAll_mk1 (shut_bool htb _)
  · rw [hsp]
    exact trodAll_below hl hR'.below _ _ _ _ hread hA
  · rw [hvars, hsp]
    rfl
/-- A LAW over memory of which something is known beforehand. -/
theorem law_contract_at (hl : laidOutB P = true) (hF : Fns P) {f : FuncId} {fn : Func} {c : Code} (hfn : P.funcs[f]? = some fn) (hbd : fn.body = some c) {spec : ChangeSpec} {dep : Nat} {tb : TypeId} (hvars : spec.vars = []) (hres : fn.resultTypes = #[tb]) (htb : P.underlying tb = some .bool)
    (hspec : ∀ ds : List (DataW H), ds.length = fn.params.toList.length → spec.fn H (ds ++ []) = { results := [.lit (.bool true)], args := ds })
    (hread : fn.params.toList.all (fun t => P.readableRec t && decide (t < P.types.size)) = true) (hplain : fn.params.toList.all (plainT P dep) = true)
    {W : World} {φ0 : List Emb} {h0 : Heap} (hR0 : R P φ0 h0 W W) (hno0 : NoOwn h0) {base : Nat} {args : Array Value} {ds gs : List (DataW H)} {before : List MemPlace}
    (hval : ∀ (j : Nat) t v, fn.params[j]? = some t → args[j]? = some v → Value.okWide P W .any base t v)
    (hW : DataW.Whole enc P fn.params.toList spec.vars false W args.toList ds gs before)
    (hcall : ∀ (h : Heap) (as : List AV), RepsArgs P h ds fn.params.toList as → Ext h0 h → (∀ i, h.next ≤ i → h.get i = none) → ∃ h', CallOk P f as h (.ret (.bool true) h')) :
    Calls P f args W fun e W' => ∃ v, e = .returned v ∧ spec.post enc P fn false true false false W args v W' := by
  have hW' := hW
  obtain ⟨p, q, hA, hV, rfl, hfz, hnd⟩ := hW
  rw [hvars] at hV
  obtain ⟨rfl, rfl⟩ := trodVars_none hV
  obtain ⟨φ, h, as, hu, hx, hR, hno, hVs, hr⟩ := open_args fn.params.toList args.toList ds p hplain (fun j t v ht hv => hval j t v (by rw [← Array.getElem?_toList]; exact ht) (by rw [← Array.getElem?_toList]; exact hv)) hA φ0 h0 hR0 hno0
  have hbig : ∀ i, h.next ≤ i → h.get i = none := by
    intro i hi
    cases hg : h.get i with
    | none => rfl
    | some o => have := hR.lt hg; omega
  obtain ⟨h', hc⟩ := hcall h as hr hx hbig
  have hg : Calls P f args W (PostC P φ W (.ret (.bool true) h')) := by
    have hc2 := hc φ W W args hR hVs
    rw [if_pos (Array.getElem?_eq_some_iff.1 hfn).1] at hc2
    rcases hc2 with ⟨_, h2⟩ | ⟨v, w', h1, _⟩
    · exact h2
    · rw [callFunc_run hF hfn hbd] at h1; cases h1
  refine hg.mono fun e W' hp => ?_
  obtain ⟨φ', v', rfl, _, hR', hv'⟩ := hp
  simp only [V] at hv'
  subst hv'
  have hsp := hspec ds (by rw [trodAll_length _ _ _ _ hA])
  refine ⟨_, rfl, ds, [], p ++ [], [], p, [], hW', ?_, ?_, ?_, hR'.below.frame _, fun hh => by cases hh⟩
  · rw [hsp, hres]
    exact trodAll_mk1 (shut_bool htb _)
  · rw [hsp]
    exact trodAll_below hl hR'.below _ _ _ _ hread hA
  · rw [hvars, hsp]
    rfl
end
end Go.Am

noncomputable section
namespace Go.Am
open Go.RowKit

theorem repsArgs_cons {H : Type} {P : Program} {h : Heap} {ds : List (DataW H)} {t : TypeId} {ts : List TypeId} {as' : List AV} (hr : RepsArgs P h ds (t :: ts) as') :
    ∃ d ds' a as'', ds = d :: ds' ∧ as' = a :: as'' ∧ (∃ xs, ArgIs P t a xs ∧ Reps P h d t xs) ∧ RepsArgs P h ds' ts as'' := by
  match ds, as', hr with
  | [], [], hr => simp [RepsArgs] at hr
  | [], _ :: _, hr => simp [RepsArgs] at hr
  | _ :: _, [], hr => simp [RepsArgs] at hr
  | d :: ds, a :: as', hr =>
    simp only [RepsArgs] at hr
    exact ⟨d, ds, a, as', rfl, rfl, hr.1, hr.2⟩
theorem repsArgs_nil {H : Type} {P : Program} {h : Heap} {ds : List (DataW H)} {as' : List AV} (hr : RepsArgs P h ds [] as') : ds = [] ∧ as' = [] := by
  match ds, as', hr with
  | [], [], hr => exact ⟨rfl, rfl⟩
  | [], _ :: _, hr => simp [RepsArgs] at hr
  | _ :: _, [], hr => simp [RepsArgs] at hr
  | _ :: _, _ :: _, hr => simp [RepsArgs] at hr
/-- An integer argument. -/
theorem arg_int {H : Type} {P : Program} {h : Heap} {d : DataW H} {t : TypeId} {a : AV} {k : IntKind} (hu : P.underlying t = some (.int k)) (hr : ∃ xs, ArgIs P t a xs ∧ Reps P h d t xs) : ∃ n, a = .int k n ∧ (Lit.int k n).wf = true := by
  obtain ⟨xs, h1, h2⟩ := hr
  unfold ArgIs at h1
  rw [hu] at h1
  simp only at h1
  subst h1
  match d, h2 with
  | .lit (.bool b), h2 => simp [Reps, hu] at h2
  | .lit (.int k' n), h2 =>
    simp only [Reps, hu, Option.some.injEq, TypeDesc.int.injEq, List.cons.injEq, and_true] at h2
    obtain ⟨rfl, hw, rfl⟩ := h2
    exact ⟨n, rfl, hw⟩
  | .lit (.string s), h2 => simp [Reps, hu] at h2
  | .nil, h2 => simp [Reps, hu] at h2
  | .slice es n, h2 => simp [Reps, hu] at h2
  | .agg ps, h2 => simp [Reps, hu] at h2
  | .ptr _, h2 => simp [Reps] at h2
  | .iface _ _, h2 => simp [Reps] at h2
  | .map _, h2 => simp [Reps] at h2
  | .held _, h2 => simp [Reps] at h2
theorem wf_of {h : Heap} (hb : ∀ i, h.next ≤ i → h.get i = none) : Wf h := by
  intro i o hi
  by_cases hlt : i < h.next
  · exact hlt
  · rw [hb i (by omega)] at hi; cases hi


/-- A datum of an integer type. -/
theorem reps_int {H : Type} {P : Program} {h : Heap} {d : DataW H} {t : TypeId} {xs : List AV} {k : IntKind} (hu : P.underlying t = some (.int k)) (h2 : Reps P h d t xs) : ∃ n, d = .lit (.int k n) ∧ xs = [.int k n] ∧ (Lit.int k n).wf = true := by
  match d, h2 with
  | .lit (.bool b), h2 => simp [Reps, hu] at h2
  | .lit (.int k' n), h2 =>
    simp only [Reps, hu, Option.some.injEq, TypeDesc.int.injEq] at h2
    obtain ⟨rfl, hw, rfl⟩ := h2
    exact ⟨n, rfl, rfl, hw⟩
  | .lit (.string s), h2 => simp [Reps, hu] at h2
  | .nil, h2 => simp [Reps, hu] at h2
  | .slice es n, h2 => simp [Reps, hu] at h2
  | .agg ps, h2 => simp [Reps, hu] at h2
  | .ptr _, h2 => simp [Reps] at h2
  | .iface _ _, h2 => simp [Reps] at h2
  | .map _, h2 => simp [Reps] at h2
  | .held _, h2 => simp [Reps] at h2
theorem reps_bool {H : Type} {P : Program} {h : Heap} {d : DataW H} {t : TypeId} {xs : List AV} (hu : P.underlying t = some .bool) (h2 : Reps P h d t xs) : ∃ b, d = .lit (.bool b) ∧ xs = [.bool b] := by
  match d, h2 with
  | .lit (.bool b), h2 => simp only [Reps] at h2; exact ⟨b, rfl, h2.2⟩
  | .lit (.int k' n), h2 => simp [Reps, hu] at h2
  | .lit (.string s), h2 => simp [Reps, hu] at h2
  | .nil, h2 => simp [Reps, hu] at h2
  | .slice es n, h2 => simp [Reps, hu] at h2
  | .agg ps, h2 => simp [Reps, hu] at h2
  | .ptr _, h2 => simp [Reps] at h2
  | .iface _ _, h2 => simp [Reps] at h2
  | .map _, h2 => simp [Reps] at h2
  | .held _, h2 => simp [Reps] at h2
/-- A datum of a slice type. -/
theorem reps_slice {H : Type} {P : Program} {h : Heap} {d : DataW H} {t el : TypeId} {xs : List AV} (hu : P.underlying t = some (.slice el)) (h2 : Reps P h d t xs) :
    (d = .nil ∧ xs = [.slice none 0 (.exact 0)]) ∨ ∃ es sp i cs, d = .slice es sp ∧ xs = [.slice (some ⟨i, 0⟩) es.length .dim] ∧ (es ≠ [] → h.get i = some (.cells cs .ro)) ∧ RepsRow P h es el cs := by
  match d, h2 with
  | .lit (.bool b), h2 => simp [Reps, hu] at h2
  | .lit (.int k' n), h2 => simp [Reps, hu] at h2
  | .lit (.string s), h2 => simp [Reps, hu] at h2
  | .nil, h2 => simp only [Reps] at h2; exact .inl ⟨rfl, h2.2⟩
  | .slice es n, h2 =>
    simp only [Reps, hu, Option.some.injEq, TypeDesc.slice.injEq] at h2
    obtain ⟨e, i, cs, rfl, h3, _, h4, h5⟩ := h2
    exact .inr ⟨es, n, i, cs, rfl, h3, h4, h5⟩
  | .agg ps, h2 => simp [Reps, hu] at h2
  | .ptr _, h2 => simp [Reps] at h2
  | .iface _ _, h2 => simp [Reps] at h2
  | .map _, h2 => simp [Reps] at h2
  | .held _, h2 => simp [Reps] at h2
def structIs (P : Program) (t : TypeId) (ts : List TypeId) : Bool := match P.underlying t with
  | some (.struct fs) => fs.toList.map (·.type) == ts
  | _ => false
theorem structIs_of {P : Program} {t : TypeId} {ts : List TypeId} (h : structIs P t ts = true) : ∃ fs : Array Field, P.underlying t = some (.struct fs) ∧ fs.toList.map (·.type) = ts := by
  unfold structIs at h
  split at h
  · rename_i fs hu
    exact ⟨fs, hu, by simpa using h⟩
  · cases h
/-- A datum of a struct's type. -/
theorem reps_struct {H : Type} {P : Program} {h : Heap} {d : DataW H} {t : TypeId} {xs : List AV} {fs : Array Field} (hu : P.underlying t = some (.struct fs)) (h2 : Reps P h d t xs) : ∃ ps, d = .agg ps ∧ RepsFields P h ps (fs.toList.map (·.type)) xs := by
  match d, h2 with
  | .lit (.bool b), h2 => simp [Reps, hu] at h2
  | .lit (.int k' n), h2 => simp [Reps, hu] at h2
  | .lit (.string s), h2 => simp [Reps, hu] at h2
  | .nil, h2 => simp [Reps, hu] at h2
  | .slice es n, h2 => simp [Reps, hu] at h2
  | .agg ps, h2 =>
    simp only [Reps] at h2
    rcases h2 with ⟨fs', h3, h4⟩ | ⟨n, e, h3, _⟩
    · rw [hu] at h3
      cases h3
      exact ⟨ps, rfl, h4⟩
    · rw [hu] at h3; cases h3
  | .ptr _, h2 => simp [Reps] at h2
  | .iface _ _, h2 => simp [Reps] at h2
  | .map _, h2 => simp [Reps] at h2
  | .held _, h2 => simp [Reps] at h2
theorem fields_cons {H : Type} {P : Program} {h : Heap} {ds : List (DataW H)} {t : TypeId} {ts : List TypeId} {xs : List AV} (hr : RepsFields P h ds (t :: ts) xs) : ∃ d ds' x y, ds = d :: ds' ∧ xs = x ++ y ∧ Reps P h d t x ∧ RepsFields P h ds' ts y := by
  match ds, hr with
  | [], hr => simp [RepsFields] at hr
  | d :: ds, hr =>
    simp only [RepsFields] at hr
    obtain ⟨t', ts', x, y, h1, h2, _, h4, h5⟩ := hr
    cases h1
    exact ⟨d, ds, x, y, rfl, h2, h4, h5⟩
theorem fields_nil {H : Type} {P : Program} {h : Heap} {ds : List (DataW H)} {xs : List AV} (hr : RepsFields P h ds [] xs) : ds = [] ∧ xs = [] := by
  match ds, hr with
  | [], hr => simp only [RepsFields] at hr; exact ⟨rfl, hr.2⟩
  | d :: ds, hr =>
    simp only [RepsFields] at hr
    obtain ⟨t', ts', x, y, h1, _⟩ := hr
    cases h1
theorem reps_str {H : Type} {P : Program} {h : Heap} {d : DataW H} {t : TypeId} {xs : List AV} (hu : P.underlying t = some .string) (h2 : Reps P h d t xs) : ∃ s, d = .lit (.string s) ∧ xs = [.str s] := by
  match d, h2 with
  | .lit (.bool b), h2 => simp [Reps, hu] at h2
  | .lit (.int k' n), h2 => simp [Reps, hu] at h2
  | .lit (.string s), h2 => simp only [Reps] at h2; exact ⟨s, rfl, h2.2.2⟩
  | .nil, h2 => simp [Reps, hu] at h2
  | .slice es n, h2 => simp [Reps, hu] at h2
  | .agg ps, h2 => simp [Reps, hu] at h2
  | .ptr _, h2 => simp [Reps] at h2
  | .iface _ _, h2 => simp [Reps] at h2
  | .map _, h2 => simp [Reps] at h2
  | .held _, h2 => simp [Reps] at h2
end Go.Am
