/- Parts of the proof by the abstract machine: InsM, ExB, Cut, CutN. -/
import Derived.Test.YteoekjfgihnhaaaGreatDoorHmGRF17
import Derived.Test.YteoekjfgihnhaaaGreatDoorHmGRF14
import Derived.Laws.AppendOwn
import Derived.Test.YteoekjfgihnhaaaGreatDoorHmGRF11
set_option linter.all false
noncomputable section
namespace Go.Am
open Go.RowKit

def ownK (k : Kind) : Bool := match k with | .own _ => true | .var _ => true | _ => false
def insOut (h : Heap) (p n i m : Nat) (cs vs : List AV) : AV × Heap := (.slice (some ⟨h.next, 0⟩) (Nat.add n m) (.tip 1), (h.del p).alloc (.cells (appF (takeF i cs) (appF vs (dropF i cs))) (.own none)))
/-- fs: slices.Insert's numbers. -/
def insM (fs : List FuncId) : CallM := fun f args h =>
  bif fs.any (Nat.beq f) then
    match args with
    | [.slice (some ⟨p, 0⟩) n (.tip 1), .int .i64 (.ofNat i), .slice (some ⟨q, 0⟩) m _] =>
      (match h.get p, h.get q with
      | some (.cells cs k), some (.cells vs k') =>
        bif ownK k && ownK k' && !Nat.beq p q && Nat.blt i n && Nat.ble 1 m && Nat.ble (Nat.add n m) 65535 && hasF n cs && hasF m vs && cellsOkM (takeF n cs) && cellsOkM (takeF m vs)
        then some [insOut h p n i m (takeF n cs) (takeF m vs)] else none
      | _, _ => none)
    | _ => none
  else none

def InsShift (P : Program) (f : FuncId) : Prop :=
  ∀ (b off n c i vb voff m vc : Nat) (cs vs : List Value) (w : World), i < n → 0 < m → n + m ≤ c → n + m ≤ 9223372036854775807 → vb ≠ b → cs.length = n → vs.length = m →
    (∀ j v, cs[j]? = some v → w.cell? ⟨b, off + j, none⟩ = some v) → (∀ j, j < n + m → (w.cell? ⟨b, off + j, none⟩).isSome = true) → (∀ j, j < n + m → w.frozen? ⟨b, off + j, none⟩ = false) →
    (∀ j v, vs[j]? = some v → w.cell? ⟨vb, voff + j, none⟩ = some v) → (∀ v ∈ cs, v.oneCell' = true) → (∀ v ∈ vs, v.oneCell' = true) →
    ∀ (tA tB : TypeId) (kA kB : Nat), w.shape? vb = some (tA, kA) → w.shape? b = some (tB, kB) → kB ≠ 0 → w.frozen? ⟨vb, voff, none⟩ = false → w.frozen? ⟨vb, kA, none⟩ = false →
    Calls P f #[.slice (some ⟨b, off, none⟩) n c, .int .i64 i, .slice (some ⟨vb, voff, none⟩) m vc] w fun e w' =>
      e = .returned (.slice (some ⟨b, off, none⟩) (n + m) c) ∧ w' = (w.drew.setCells b (off + (i + m)) (cs.drop i)).setCells b (off + i) vs
def InsGrow (P : Program) (f : FuncId) (E : TypeId) (z : Value) : Prop :=
  ∀ (b off n c i vb voff m vc : Nat) (cs vs : List Value) (w : World), i < n → 0 < m → n ≤ c → c < n + m → (n + m) * 8 ≤ 140737488355328 → cs.length = n → vs.length = m →
    (∀ j v, cs[j]? = some v → w.cell? ⟨b, off + j, none⟩ = some v) → (∀ j v, vs[j]? = some v → w.cell? ⟨vb, voff + j, none⟩ = some v) → (∀ v ∈ cs, v.oneCell' = true) → (∀ v ∈ vs, v.oneCell' = true) →
    Calls P f #[.slice (some ⟨b, off, none⟩) n c, .int .i64 i, .slice (some ⟨vb, voff, none⟩) m vc] w fun e w' =>
      e = .returned (.slice (some ⟨w.heap.size, 0, none⟩) (n + m) (grownCap w (n + m) c E)) ∧
      w' = (((w.alloc (.cells ((cs.take i).toArray ++ Builtin.zeroCells z.cells (n + m - i) ++ Builtin.zeroCells z.cells (grownCap w (n + m) c E - (n + m))) E)).drew.setCells w.heap.size i vs).drew).setCells w.heap.size (i + m) (cs.drop i)

/-- A row laid anew, in its own block or in a new one. -/
theorem ins_R {P : Program} {φ : List Emb} {h : Heap} {w0 w w' : World} (hR : R P φ h w0 w) {p : Nat} {o : Obj} (hp : h.get p = some o) (hown : o.isOwn = true) {e : Emb} (he : φ[p]? = some e) (g off tot : Nat) (hg : g = e.blk ∨ g = w.heap.size) {C : Array Value} {t : TypeId}
    (hC : w'.heap[g]? = some (.cells C t (0, 0))) (htot : off + tot = C.size) (hrest : ∀ k, k ≠ g → k < w.heap.size → w'.heap[k]? = w.heap[k]?) (hsz : w.heap.size ≤ w'.heap.size) (hos : w'.os = w.os) (htp : w'.tape = w.tape) (hout : w'.output = w.output)
    {cs : List AV} {us : List Value} (hv : Vs φ cs us) (hle : cs.length ≤ tot) (hus : (C.toList.drop off).take cs.length = us) : R P (φ ++ [⟨g, off, tot⟩]) ((h.del p).alloc (.cells cs (.own none))) w0 w' := by
  refine R.allocAt (hR.del p) (.cells cs (.own none)) ⟨g, off, tot⟩ (fun j oj ej hj hej hh => ?_) ?_ (fun k hk hlt => hrest k hk hlt) hsz hos htp hout ?_
  · have hjp : p ≠ j := fun hh => by subst hh; rw [Heap.get_del] at hj; cases hj
    rw [Heap.get_del_ne _ hjp] at hj
    rcases hg with rfl | rfl
    · exact hR.sep p j o oj e ej hjp hp hj he hej hown hh.symm
    · obtain ⟨e2, he2, hO, _⟩ := hR.objs j oj hj
      have : e2 = ej := Option.some.inj (he2.symm.trans hej)
      subst this
      have := hO.lt
      have hh : e2.blk = w.heap.size := hh
      omega
  · rcases hg with rfl | rfl
    · obtain ⟨e2, he2, _, hw⟩ := hR.objs p o hp
      have : e2 = e := Option.some.inj (he2.symm.trans he)
      subst this
      exact hw hown
    · exact hR.below.size
  · refine ⟨C, t, (0, 0), hC, htot, hle, ⟨fun u hu => ?_, (fun u hu => by cases hu)⟩, (fun hh => by cases hh), ?_⟩
    · cases hu; exact ⟨rfl, fun _ hh => by cases hh⟩
    · rw [hus]; exact Vs.up (Up.snoc _ _) _ _ hv

theorem over_at {α : Type} (xs : List α) (o : Nat) (vs : List α) (h : o + vs.length ≤ xs.length) (j : Nat) : (over xs o vs)[j]? = if j < o then xs[j]? else if j < o + vs.length then vs[j - o]? else xs[j]? := by
  simp only [over, List.append_assoc, List.getElem?_append, List.getElem?_take, List.getElem?_drop, List.length_take]
  repeat' split
  all_goals first
    | rfl
    | omega
    | (congr 1; omega)
/-- What the cells are in the end. -/
theorem ins_list {cs vs : List Value} {i n m : Nat} (hi : i < n) (hcl : cs.length = n) (hvl : vs.length = m) {l : List Value} (hl : n + m ≤ l.length) (h1 : ∀ j, j < i → l[j]? = cs[j]?) (h2 : ∀ j, j < m → l[i + j]? = vs[j]?) (h3 : ∀ j, j < n - i → l[i + m + j]? = cs[i + j]?) :
    l.take (n + m) = cs.take i ++ (vs ++ cs.drop i) := by
  apply List.ext_getElem?
  intro j
  simp only [List.getElem?_take, List.getElem?_append, List.getElem?_drop, List.length_take]
  repeat' split
  all_goals first
    | omega
    | (exact h1 j (by omega))
    | (have := h2 (j - i) (by omega); rw [show i + (j - i) = j by omega] at this; rw [this]; congr 1; omega)
    | (have := h3 (j - i - m) (by omega); rw [show i + m + (j - i - m) = j by omega] at this; rw [this]; congr 1; omega)
    | (symm; apply List.getElem?_eq_none; omega)

theorem insM_some {fs : List FuncId} {f : FuncId} {args : List AV} {h : Heap} {L : List (AV × Heap)} (hL : insM fs f args h = some L) :
    ∃ p n i q m cv cs vs k k', f ∈ fs ∧ args = [.slice (some ⟨p, 0⟩) n (.tip 1), .int .i64 (.ofNat i), .slice (some ⟨q, 0⟩) m cv] ∧ h.get p = some (.cells cs k) ∧ h.get q = some (.cells vs k') ∧ ownK k = true ∧ ownK k' = true ∧ p ≠ q ∧ i < n ∧ 1 ≤ m ∧ n + m ≤ 65535 ∧ n ≤ cs.length ∧ m ≤ vs.length ∧ cellsOk (cs.take n) = true ∧ cellsOk (vs.take m) = true ∧
      L = [insOut h p n i m (cs.take n) (vs.take m)] := by
  unfold insM at hL
  rw [cond_eq_ite] at hL
  split at hL
  · rename_i hf
    split at hL
    · rename_i p n i q m cv
      split at hL
      · rename_i cs k vs k' hp hq
        rw [cond_eq_ite] at hL
        split at hL
        · rename_i hb
          cases hL
          simp only [Bool.and_eq_true, Bool.not_eq_true', takeF_eq] at hb
          obtain ⟨⟨⟨⟨⟨⟨⟨⟨⟨b1, b2⟩, b3⟩, b4⟩, b5⟩, b6⟩, b7⟩, b8⟩, b9⟩, b10⟩ := hb
          refine ⟨p, n, i, q, m, cv, cs, vs, k, k', ?_, rfl, hp, hq, b1, b2, Nat.ne_of_beq_eq_false b3, (blt_iff _ _).1 b4, Nat.le_of_ble_eq_true b5, Nat.le_of_ble_eq_true b6, ?_, ?_, by rw [← cellsOkM_eq]; exact b9, by rw [← cellsOkM_eq]; exact b10, by rw [takeF_eq, takeF_eq]⟩
          · obtain ⟨y, hy, he⟩ := List.any_eq_true.1 hf
            rw [Nat.eq_of_beq_eq_true he]; exact hy
          · exact (hasF_iff _ _).1 b7
          · exact (hasF_iff _ _).1 b8
        · cases hL
      · cases hL
    · cases hL
  · cases hL

theorem ownK_free {φ : List Emb} {k : Kind} {t : TypeId} {fr : Nat × Nat} {off size len : Nat} (hk : ownK k = true) (h : OwnOk k t fr off size len) : fr = (0, 0) := by
  cases k with
  | own u => exact (h.1 u rfl).1
  | var u => exact (h.2 u rfl).1
  | str => cases hk
  | ro => cases hk
theorem frozen_free {w : World} {b : Nat} {C : Array Value} {t : TypeId} (hC : w.heap[b]? = some (.cells C t (0, 0))) (o : Nat) : w.frozen? ⟨b, o, none⟩ = false := by
  simp [World.frozen?, hC]
theorem insM_ok {P : Program} {fs : List FuncId} (hc : ∀ f ∈ fs, (f < P.funcs.size ∧ ∀ args w, (callFunc f args).run P w = .ok (.enter f args) w) ∧ InsShift P f ∧ ∃ E z, InsGrow P f E z ∧ z.cells.size = 1) : CallMOk P (insM fs) where
  post := fun f args h L hL => by
    obtain ⟨p, n, i, q, m, cv, acs, avs, k, k', hf, rfl, hp, hq, hk, hk', hpq, hi, hm, hnm, hn, hmv, hok1, hok2, rfl⟩ := insM_some hL
    obtain ⟨⟨hlt, henter⟩, hshift, E, z, hgrow, hz⟩ := hc f hf
    intro φ w0 w args' hR hv
    rw [if_pos hlt]
    have hown : (Obj.cells acs k).isOwn = true := by cases k <;> first | rfl | cases hk
    obtain ⟨e, he, ⟨C, t, fr, hC, htot, hle, hOk, _, hVs⟩, _⟩ := hR.objs p _ hp
    obtain ⟨e2, he2, ⟨C2, t2, fr2, hC2, htot2, hle2, hOk2, _, hVs2⟩, _⟩ := hR.objs q _ hq
    have hfr := ownK_free (φ := φ) hk hOk
    have hfr2 := ownK_free (φ := φ) hk' hOk2
    subst hfr hfr2
    have hne : e2.blk ≠ e.blk := Ne.symm (hR.sep p q _ _ e e2 hpq hp hq he he2 hown)
    -- the arguments
    have hargs : ∃ cap vc, args' = #[.slice (some ⟨e.blk, e.off + 0, none⟩) n cap, .int .i64 i, .slice (some ⟨e2.blk, e2.off + 0, none⟩) m vc] ∧ n ≤ cap ∧ cap = e.tot := by
      simp only [Vs] at hv
      obtain ⟨y, ys, hy, hv1, y2, ys2, rfl, hv2, y3, ys3, rfl, hv3, rfl⟩ := hv
      simp only [V] at hv1 hv2 hv3
      obtain ⟨e', cap, a, he', rfl, hnc, ⟨_, hcap⟩, ha⟩ := hv1
      rw [he] at he'; cases he'
      obtain ⟨e', vc, a2, he', rfl, hmc, _, ha2⟩ := hv3
      rw [he2] at he'; cases he'
      have ha : a = ⟨e.blk, e.off + 0, none⟩ := by
        rcases ha with ha | ⟨h0, _⟩
        · exact ha
        · omega
      have ha2 : a2 = ⟨e2.blk, e2.off + 0, none⟩ := by
        rcases ha2 with ha2 | ⟨h0, _⟩
        · exact ha2
        · omega
      refine ⟨cap, vc, Array.ext' ?_, hnc, by simpa using hcap⟩
      rw [hy, ha, ha2, hv2]
      rfl
    obtain ⟨cap, vc, rfl, hnc, hcap⟩ := hargs
    rw [Nat.add_zero, Nat.add_zero]
    -- the cells
    obtain ⟨cs, hcs⟩ : ∃ cs, cs = ((C.toList.drop e.off).take acs.length).take n := ⟨_, rfl⟩
    obtain ⟨vs, hvs⟩ : ∃ vs, vs = ((C2.toList.drop e2.off).take avs.length).take m := ⟨_, rfl⟩
    have hVc : Vs φ (acs.take n) cs := by rw [hcs]; exact hVs.take n
    have hVv : Vs φ (avs.take m) vs := by rw [hvs]; exact hVs2.take m
    have hcl : cs.length = n := by rw [hVc.length, List.length_take]; omega
    have hvl : vs.length = m := by rw [hVv.length, List.length_take]; omega
    have cell : ∀ (b off lim k : Nat) (D : Array Value) (u : TypeId) (l : List Value), w.heap[b]? = some (.cells D u (0, 0)) → l = ((D.toList.drop off).take lim).take k → ∀ j v, l[j]? = some v → w.cell? ⟨b, off + j, none⟩ = some v := by
      intro b off lim k D u l hD hl j v hj
      subst hl
      rw [List.getElem?_take] at hj
      split at hj
      · rw [List.getElem?_take] at hj
        split at hj
        · rw [List.getElem?_drop, Array.getElem?_toList] at hj
          simp [World.cell?, hD, hj]
        · cases hj
      · cases hj
    have hcc := cell e.blk e.off acs.length n C t cs hC hcs
    have hvc := cell e2.blk e2.off avs.length m C2 t2 vs hC2 hvs
    have h1c := cellsOk_one hok1 hVc
    have h1v := cellsOk_one hok2 hVv
    have hVall : Vs φ ((acs.take n).take i ++ (avs.take m ++ (acs.take n).drop i)) (cs.take i ++ (vs ++ cs.drop i)) := (hVc.take i).append (hVv.append (hVc.drop i))
    have hlen : ((acs.take n).take i ++ (avs.take m ++ (acs.take n).drop i)).length = n + m := by
      rw [← hVall.length]
      simp only [List.length_append, List.length_take, List.length_drop]
      omega
    have fin : ∀ (g off tot : Nat) (w' : World) (C' : Array Value) (t' : TypeId), (g = e.blk ∨ g = w.heap.size) → w'.heap[g]? = some (.cells C' t' (0, 0)) → off + tot = C'.size → (∀ k, k ≠ g → k < w.heap.size → w'.heap[k]? = w.heap[k]?) → w.heap.size ≤ w'.heap.size → w'.os = w.os → w'.tape = w.tape → w'.output = w.output →
        n + m ≤ tot → (∀ j, j < i → C'.toList[off + j]? = cs[j]?) → (∀ j, j < m → C'.toList[off + (i + j)]? = vs[j]?) → (∀ j, j < n - i → C'.toList[off + (i + m + j)]? = cs[i + j]?) →
        LPost P φ w0 [insOut h p n i m (acs.take n) (avs.take m)] (.returned (.slice (some ⟨g, off, none⟩) (n + m) tot)) w' := by
      intro g off tot w' C' t' hg hC' htot' hrest hsz hos htp hout hle' g1 g2 g3
      refine ⟨_, List.mem_singleton.2 rfl, φ ++ [⟨g, off, tot⟩], _, rfl, Up.snoc _ _, ?_, ?_⟩
      · have hus : (C'.toList.drop off).take (n + m) = cs.take i ++ (vs ++ cs.drop i) := ins_list hi hcl hvl (by rw [List.length_drop, Array.length_toList]; omega) (fun j hj => by rw [List.getElem?_drop]; exact g1 j hj) (fun j hj => by rw [List.getElem?_drop]; exact g2 j hj) (fun j hj => by rw [List.getElem?_drop]; exact g3 j hj)
        have := ins_R hR hp hown he g off tot hg hC' htot' hrest hsz hos htp hout hVall (by rw [hlen]; exact hle') (by rw [hlen]; exact hus)
        simpa only [insOut, appF_eq, takeF_eq, dropF_eq] using this
      · simp only [insOut, V]
        exact ⟨⟨g, off, tot⟩, tot, _, new_V (hR.del p) _, rfl, hle', ⟨Nat.one_pos, by simp⟩, .inl rfl⟩
    refine .inl ⟨henter _ _, ?_⟩
    by_cases hroom : n + m ≤ cap
    · -- in place
      have hsize : e.off + (n + m) ≤ C.size := by omega
      refine (hshift e.blk e.off n cap i e2.blk e2.off m vc cs vs w hi hm hroom (by omega) hne hcl hvl hcc (fun j hj => ?_) (fun j _ => frozen_free hC _) hvc h1c h1v t2 t C2.size C.size (by simp [World.shape?, hC2]) (by simp [World.shape?, hC]) (by omega) (frozen_free hC2 _) (frozen_free hC2 _)).mono ?_
      · simp only [World.cell?, hC, Option.isSome_none, Bool.false_eq_true, if_false]
        rw [Array.getElem?_eq_getElem (by omega)]; rfl
      · rintro e' w' ⟨rfl, rfl⟩
        have hdl : (cs.drop i).length = n - i := by rw [List.length_drop, hcl]
        have hb1 := setCells_block e.blk t (0, 0) (cs.drop i) (e.off + (i + m)) w.drew C hC (by rw [hdl]; omega)
        have hs1 : (over C.toList (e.off + (i + m)) (cs.drop i)).length = C.size := by rw [over_length _ _ _ (by rw [hdl, Array.length_toList]; omega), Array.length_toList]
        have hb2 := setCells_block e.blk t (0, 0) vs (e.off + i) _ _ hb1 (by simp only [List.size_toArray, hs1, hvl]; omega)
        obtain ⟨r1, r2, r3, r4, r5⟩ := setCells_rest e.blk (cs.drop i) (e.off + (i + m)) w.drew
        obtain ⟨q1, q2, q3, q4, q5⟩ := setCells_rest e.blk vs (e.off + i) (w.drew.setCells e.blk (e.off + (i + m)) (cs.drop i))
        have at2 : ∀ j, (over (over C.toList (e.off + (i + m)) (cs.drop i)) (e.off + i) vs)[j]? = if j < e.off + i then (over C.toList (e.off + (i + m)) (cs.drop i))[j]? else if j < e.off + i + m then vs[j - (e.off + i)]? else (over C.toList (e.off + (i + m)) (cs.drop i))[j]? := fun j => by
          rw [over_at _ _ _ (by rw [hs1, hvl]; omega), hvl]
        have at1 : ∀ j, (over C.toList (e.off + (i + m)) (cs.drop i))[j]? = if j < e.off + (i + m) then C.toList[j]? else if j < e.off + (i + m) + (n - i) then (cs.drop i)[j - (e.off + (i + m))]? else C.toList[j]? := fun j => by
          rw [over_at _ _ _ (by rw [hdl, Array.length_toList]; omega), hdl]
        rw [hcap]
        refine fin e.blk e.off e.tot _ _ t (.inl rfl) hb2 (by simp only [List.size_toArray]; rw [over_length _ _ _ (by rw [hs1, hvl]; omega), hs1]; exact htot) (fun k hk _ => (q1 k hk).trans (r1 k hk)) (by rw [q2, r2]; exact Nat.le_refl _) (q3.trans r3) (q4.trans r4) (q5.trans r5) (by omega) (fun j hj => ?_) (fun j hj => ?_) (fun j hj => ?_)
        · simp only
          rw [at2, if_pos (by omega), at1, if_pos (by omega), hcs, List.getElem?_take, if_pos (by omega), List.getElem?_take, if_pos (by omega), List.getElem?_drop]
        · simp only
          rw [at2, if_neg (by omega), if_pos (by omega)]
          congr 1; omega
        · simp only
          rw [at2, if_neg (by omega), if_neg (by omega), at1, if_neg (by omega), if_pos (by omega), List.getElem?_drop]
          congr 1; omega
    · -- a new row
      refine (hgrow e.blk e.off n cap i e2.blk e2.off m vc cs vs w hi hm hnc (by omega) (by omega) hcl hvl hcc hvc h1c h1v).mono ?_
      rintro e' w' ⟨rfl, rfl⟩
      obtain ⟨G, hG⟩ : ∃ G, G = grownCap w (n + m) cap E := ⟨_, rfl⟩
      rw [← hG]
      have hGn : n + m ≤ G := by rw [hG]; exact grownCap_ge w _ _ _
      obtain ⟨ROW, hROW⟩ : ∃ ROW : Array Value, ROW = (cs.take i).toArray ++ Builtin.zeroCells z.cells (n + m - i) ++ Builtin.zeroCells z.cells (G - (n + m)) := ⟨_, rfl⟩
      rw [← hROW]
      have hRs : ROW.size = G := by
        rw [hROW]
        simp only [Array.size_append, List.size_toArray, List.length_take, Builtin.zeroCells, Array.size_map, Array.size_range, hz, hcl]
        omega
      have hRi : ∀ j, j < i → ROW.toList[j]? = cs[j]? := fun j hj => by
        rw [hROW, Array.toList_append, Array.toList_append, List.append_assoc, List.getElem?_append_left (by simp [hcl]; omega)]
        simp [hj]
      have hdl : (cs.drop i).length = n - i := by rw [List.length_drop, hcl]
      have hb0 : ((w.alloc (.cells ROW E)).drew).heap[w.heap.size]? = some (.cells ROW E (0, 0)) := by
        show (w.heap.push _)[w.heap.size]? = _
        simp
      have hb1 := setCells_block w.heap.size E (0, 0) vs i _ ROW hb0 (by rw [hRs, hvl]; omega)
      have hs1 : (over ROW.toList i vs).length = G := by rw [over_length _ _ _ (by rw [hvl, Array.length_toList]; omega), Array.length_toList, hRs]
      have hb1' : (((w.alloc (.cells ROW E)).drew.setCells w.heap.size i vs).drew).heap[w.heap.size]? = some (.cells (over ROW.toList i vs).toArray E (0, 0)) := hb1
      have hb2 := setCells_block w.heap.size E (0, 0) (cs.drop i) (i + m) _ _ hb1' (by simp only [List.size_toArray, hs1, hdl]; omega)
      obtain ⟨r1, r2, r3, r4, r5⟩ := setCells_rest w.heap.size vs i (w.alloc (.cells ROW E)).drew
      obtain ⟨q1, q2, q3, q4, q5⟩ := setCells_rest w.heap.size (cs.drop i) (i + m) ((w.alloc (.cells ROW E)).drew.setCells w.heap.size i vs).drew
      have at2 : ∀ j, (over (over ROW.toList i vs) (i + m) (cs.drop i))[j]? = if j < i + m then (over ROW.toList i vs)[j]? else if j < i + m + (n - i) then (cs.drop i)[j - (i + m)]? else (over ROW.toList i vs)[j]? := fun j => by
        rw [over_at _ _ _ (by rw [hs1, hdl]; omega), hdl]
      have at1 : ∀ j, (over ROW.toList i vs)[j]? = if j < i then ROW.toList[j]? else if j < i + m then vs[j - i]? else ROW.toList[j]? := fun j => by
        rw [over_at _ _ _ (by rw [hvl, Array.length_toList]; omega), hvl]
      have hpush : ∀ k, k < w.heap.size → ((w.alloc (.cells ROW E)).drew).heap[k]? = w.heap[k]? := fun k hk => by
        show (w.heap.push _)[k]? = _
        rw [Array.getElem?_push, if_neg (by omega)]
      refine fin w.heap.size 0 G _ _ E (.inr rfl) hb2 (by simp only [List.size_toArray]; rw [over_length _ _ _ (by rw [hs1, hdl]; omega), hs1]; omega) (fun k hk hlt => (q1 k hk).trans ((r1 k hk).trans (hpush k hlt))) (by rw [q2]; show _ ≤ ((w.alloc (.cells ROW E)).drew.setCells w.heap.size i vs).heap.size; rw [r2]; show _ ≤ (w.heap.push _).size; simp) (q3.trans r3) (q4.trans r4) (q5.trans r5) hGn (fun j hj => ?_) (fun j hj => ?_) (fun j hj => ?_)
      · simp only [Nat.zero_add]
        rw [at2, if_pos (by omega), at1, if_pos (by omega), hRi j hj]
      · simp only [Nat.zero_add]
        rw [at2, if_pos (by omega), at1, if_neg (by omega), if_pos (by omega)]
        congr 1; omega
      · simp only [Nat.zero_add]
        rw [at2, if_neg (by omega), if_pos (by omega), List.getElem?_drop]
        congr 1; omega
  grow := fun f args h L hL => by
    obtain ⟨p, n, i, q, m, cv, acs, avs, k, k', hf, rfl, hp, hq, hk, hk', hpq, hi, hm, hnm, hn, hmv, hok1, hok2, rfl⟩ := insM_some hL
    intro x hx
    rw [List.mem_singleton] at hx
    subst hx
    exact (Grows.del _ _).trans (Grows.alloc _ _)
end Go.Am

noncomputable section
namespace Go.Am
open Go.RowKit

section
variable {P : Program} {call : CallM} {plan : FuncId → Nat → Option Plan} {n N fid : Nat}

theorem endAll_mem {dov dcall : CallM} {fn : Func} : ∀ {l : List Res} {L : List (AV × Heap)}, endAll P dov dcall fn l = some L →
    (∀ r ∈ l, ∃ o e h ds h' vs, r = .mk o e h ds ∧ (o = .normal ∨ o = .ret) ∧ runDs dov dcall ds h = some [h'] ∧ resL P fn.ntmps e h' fn.results.toList = some vs ∧ (single1 vs, h') ∈ L) ∧ ∀ p ∈ L, ∃ o e h ds, Res.mk o e h ds ∈ l ∧ runDs dov dcall ds h = some [p.2]
  | [], L, h => by cases h; exact ⟨by simp, by simp⟩
  | r :: l, L, h => by
    obtain ⟨o, e, hh, ds⟩ := r
    have h1 : (Option.rec (motive := fun _ => LR) none (fun a => Option.rec (motive := fun _ => LR) none (fun b => some (appF a b)) (endAll P dov dcall fn l)) (endM P dov dcall fn (.mk o e hh ds))) = some L := h
    cases h2 : endM P dov dcall fn (.mk o e hh ds) with
    | none => rw [h2] at h1; cases h1
    | some x =>
      rw [h2] at h1
      have h1' : (Option.rec (motive := fun _ => LR) none (fun b => some (appF x b)) (endAll P dov dcall fn l)) = some L := h1
      cases h3 : endAll P dov dcall fn l with
      | none => rw [h3] at h1'; cases h1'
      | some y =>
        rw [h3] at h1'
        have hL : L = x ++ y := by rw [← appF_eq]; exact (Option.some.inj h1').symm
        subst hL
        obtain ⟨g1, g2⟩ := endAll_mem h3
        have hx : ∃ h' vs, (o = .normal ∨ o = .ret) ∧ runDs dov dcall ds hh = some [h'] ∧ resL P fn.ntmps e h' fn.results.toList = some vs ∧ x = [(single1 vs, h')] := by
          have h5 : (o = .normal ∨ o = .ret) ∧ endOne P dov dcall fn e hh ds = some x := by
            cases o with
            | normal => exact ⟨.inl rfl, h2⟩
            | ret => exact ⟨.inr rfl, h2⟩
            | exit i => cases h2
            | pan v => cases h2
          obtain ⟨h6, h7⟩ := h5
          have key : ∀ hs : LH, (Option.rec (motive := fun _ => LR) none (fun hs => List.rec (motive := fun _ => LR) none (fun h' t _ => List.rec (motive := fun _ => LR) (Option.rec (motive := fun _ => LR) none (fun vs => some [(single1 vs, h')]) (resL P fn.ntmps e h' fn.results.toList)) (fun _ _ _ => none) t) hs) hs) = some x →
              ∃ h' vs, hs = some [h'] ∧ resL P fn.ntmps e h' fn.results.toList = some vs ∧ x = [(single1 vs, h')] := by
            intro hs hq
            match hs, hq with
            | none, hq => cases hq
            | some [], hq => cases hq
            | some [h'], hq =>
              have hq1 : (Option.rec (motive := fun _ => LR) none (fun vs => some [(single1 vs, h')]) (resL P fn.ntmps e h' fn.results.toList)) = some x := hq
              cases hv : resL P fn.ntmps e h' fn.results.toList with
              | none => rw [hv] at hq1; cases hq1
              | some vs => rw [hv] at hq1; exact ⟨h', vs, rfl, hv, (Option.some.inj hq1).symm⟩
            | some (a :: b :: t), hq => cases hq
          obtain ⟨h', vs, h8, h9, h10⟩ := key _ h7
          exact ⟨h', vs, h6, h8, h9, h10⟩
        obtain ⟨h', vs, ho, hrd, hv, rfl⟩ := hx
        refine ⟨fun r hr => ?_, fun p hp => ?_⟩
        · rcases List.mem_cons.1 hr with rfl | hr
          · exact ⟨o, e, hh, ds, h', vs, rfl, ho, hrd, hv, by simp⟩
          · obtain ⟨o', e', h1', ds', h2', vs', a1, a2, a3, a4, a5⟩ := g1 r hr
            exact ⟨o', e', h1', ds', h2', vs', a1, a2, a3, a4, List.mem_append.2 (.inr a5)⟩
        · rcases List.mem_append.1 hp with hp | hp
          · rw [List.mem_singleton] at hp
            subst hp
            exact ⟨o, e, hh, ds, List.mem_cons_self, hrd⟩
          · obtain ⟨o', e', h1', ds', a1, a2⟩ := g2 p hp
            exact ⟨o', e', h1', ds', List.mem_cons_of_mem _ a1, a2⟩

theorem bodyM_inv {dov : CallM} {fn : Func} {c : Code} {args : List AV} {h : Heap} {L : List (AV × Heap)} (hb : bodyM P (drawX P plan) dov call N fid fn c args h = some L) :
    fits fn args = true ∧ ∃ l L0, exM P (drawX P plan) call false fid fn.ntmps N c leaf (frameM args) h [] = some l ∧ endAll P dov (dcallM P (drawX P plan) call N) fn l = some L0 ∧ L = mergeL h L0 := by
  have h1 : (Bool.rec (motive := fun _ => LR) none (Option.rec (motive := fun _ => LR) none (fun l => Option.rec (motive := fun _ => LR) none (fun L => some (mergeL h L)) (endAll P dov (dcallM P (drawX P plan) call N) fn l)) (exM P (drawX P plan) call false fid fn.ntmps N c leaf (frameM args) h [])) (fits fn args)) = some L := hb
  cases hf : fits fn args with
  | false => rw [hf] at h1; cases h1
  | true =>
    rw [hf] at h1
    refine ⟨rfl, ?_⟩
    cases hx : exM P (drawX P plan) call false fid fn.ntmps N c leaf (frameM args) h [] with
    | none => rw [hx] at h1; cases h1
    | some l =>
      rw [hx] at h1
      have h2 : (Option.rec (motive := fun _ => LR) none (fun L => some (mergeL h L)) (endAll P dov (dcallM P (drawX P plan) call N) fn l)) = some L := h1
      cases he : endAll P dov (dcallM P (drawX P plan) call N) fn l with
      | none => rw [he] at h2; cases h2
      | some L0 =>
        rw [he] at h2
        exact ⟨l, L0, rfl, he, (Option.some.inj h2).symm⟩

theorem bodyM_ok (hF : Fns P) (hm : P.follows .mixedOrders = true) (hcall : CallMOk P call) {dov : CallM} (hdo : DCallOk P dov) {f : FuncId} {fn : Func} {c : Code} (hf : P.funcs[f]? = some fn) (hbd : fn.body = some c) {args : List AV} {h : Heap} {L : List (AV × Heap)} (hb : bodyM P (drawX P plan) dov call N f fn c args h = some L) :
    (CallPost P f args h fun φ w0 => LPost P φ w0 L) ∧ ∀ p ∈ L, Grows h p.2 := by
  obtain ⟨hfit, l, L0, hx, he, rfl⟩ := bodyM_inv hb
  obtain ⟨hn, hl⟩ := fits_some hfit
  have hdc : DCallOk P (dcallM P (drawX P plan) call N) := dcallM_ok hF hm hcall
  obtain ⟨g1, g2⟩ := endAll_mem he
  have hgr : ∀ p ∈ L0, Grows h p.2 := by
    intro p hp
    obtain ⟨o, e, h1, ds, h2, h3⟩ := g2 p hp
    obtain ⟨h', h4, h5⟩ := runDs_grows hdo hdc h3
    cases h4
    exact (leaf_from (exM_from hcall hn c leaf _ _ _ _ hx) _ _ _ _ h2).trans h5
  obtain ⟨m1, m2⟩ := mergeL_run hgr
  refine ⟨?_, m1⟩
  intro φ w0 w args' hR hv
  rw [if_pos (Array.getElem?_eq_some_iff.1 hf).1]
  refine .inl ⟨callFunc_run hF hf hbd _ _, callsR.1 (callsIn_of_wp_marks (F := wideR none) (n := 0) hf hbd trivial ?_)⟩
  refine exM_wp (plan := plan) (fid := f) (N := N) hF hm hcall hn (inR := false) (ρ := none) (fun _ => rfl) (L := l) (w0 := w0) c leaf (bodyPostM (wideR none) 0 P fn (LPost P φ w0 (mergeL h L0))) φ (frameM args) h [] l w
    { tmps := args' ++ Array.replicate (fn.ntmps - args'.size) undef, defers := [] } hx (fun _ hr => hr) hR (frame_V hn hl hv) rfl fun o => leaf_SX fun e h' ds hmem φ' w' a hu hR' he' hd' => ?_
  obtain ⟨o1, e1, h1, ds1, h2, vs, h3, h4, h5, h6, h7⟩ := g1 _ hmem
  cases h3
  have main : LeavesInM (wideR none) 0 P fn a.tmps (LPost P φ w0 (mergeL h L0)) a.defers .returning w' := by
    refine leaves_run hdo hdc h5 hR' hd' fun φ'' w'' hu' hR'' => ?_
    obtain ⟨u, h8, h9⟩ := resL_results hR'' (Vs.up hu' _ _ he') h6
    exact ⟨u, h8, m2 φ w0 w hR _ _ ⟨_, h7, φ'', u, rfl, hu.trans hu', hR'', h9⟩⟩
  rcases h4 with rfl | rfl
  · exact main
  · exact main

/-! ### Rounds -/

theorem putAll_env (hn : n ≤ 256) : ∀ (ps : List Tmp) (vs : List AV) (e : Env), ps.length = vs.length → envL n (putAll n ps vs e) = (ps.zip vs).foldl (fun env p => env.set p.1 p.2) (envL n e)
  | [], vs, e, _ => by
    cases vs with
    | nil => rfl
    | cons v vs => simp at *
  | p :: ps, [], e, h => by simp at h
  | p :: ps, v :: vs, e, h => by
    show envL n (putAll n ps vs ((tmpD n p).put v e)) = _
    rw [putAll_env hn ps vs _ (by simpa using h), tmpD_put hn]
    rfl
theorem foldl_set_V {φ : List Emb} : ∀ (ps : List Tmp) (as : List AV) (vs : List Value) (env : List AV) (T : Array Value), Vs φ as vs → Vs φ env T.toList → Vs φ ((ps.zip as).foldl (fun env p => env.set p.1 p.2) env) ((ps.zip vs).foldl (fun (tmps : Array Value) (p : Tmp × Value) => tmps.setIfInBounds p.1 p.2) T).toList
  | [], as, vs, env, T, _, hT => by simpa using hT
  | p :: ps, [], vs, env, T, hv, hT => by
    rw [Vs_nil] at hv; subst hv
    simpa using hT
  | p :: ps, a :: as, vs, env, T, hv, hT => by
    simp only [Vs] at hv
    obtain ⟨y, ys, rfl, h1, h2⟩ := hv
    simp only [List.zip_cons_cons, List.foldl_cons]
    refine foldl_set_V ps as ys _ _ h2 ?_
    simpa using hT.set p h1

theorem roundEnd_some {k : Nat} {p : Option Code} {h : Heap} {L : List (AV × Heap)} (hr : roundEnd k p h = some L) : ∃ st q m e ps a b d, h.get k = some (.loop st q m e ps a b d) ∧ L = [(.bool p.isNone, h.set k (.loop (if p.isNone then .ready else .done) p m e ps a b d))] := by
  unfold roundEnd at hr
  split at hr
  · rename_i hg
    exact ⟨_, _, _, _, _, _, _, _, hg, (Option.some.inj hr).symm⟩
  · cases hr
theorem roundAll_mem {k : Nat} : ∀ {l : List Res} {L : List (AV × Heap)}, roundAll k l = some L →
    (∀ r ∈ l, ∃ o e h j Lr, r = .mk o e h [] ∧ ((o = .normal ∧ j = none) ∨ (o = .ret ∧ j = some .ret) ∨ ∃ i, o = .exit i ∧ j = some (.exit i)) ∧ roundEnd k j h = some Lr ∧ ∀ p ∈ Lr, p ∈ L) ∧ ∀ p ∈ L, ∃ o e h ds j Lr, Res.mk o e h ds ∈ l ∧ roundEnd k j h = some Lr ∧ p ∈ Lr
  | [], L, h => by cases h; exact ⟨by simp, by simp⟩
  | r :: l, L, h => by
    obtain ⟨o, e, hh, ds⟩ := r
    have h1 : (Option.rec (motive := fun _ => LR) none (fun a => Option.rec (motive := fun _ => LR) none (fun b => some (appF a b)) (roundAll k l)) (roundOut k (.mk o e hh ds))) = some L := h
    cases h2 : roundOut k (.mk o e hh ds) with
    | none => rw [h2] at h1; cases h1
    | some x =>
      rw [h2] at h1
      have h1' : (Option.rec (motive := fun _ => LR) none (fun b => some (appF x b)) (roundAll k l)) = some L := h1
      cases h3 : roundAll k l with
      | none => rw [h3] at h1'; cases h1'
      | some y =>
        rw [h3] at h1'
        have hL : L = x ++ y := by rw [← appF_eq]; exact (Option.some.inj h1').symm
        subst hL
        obtain ⟨g1, g2⟩ := roundAll_mem h3
        have hx : ds = [] ∧ ∃ j, ((o = .normal ∧ j = none) ∨ (o = .ret ∧ j = some .ret) ∨ ∃ i, o = .exit i ∧ j = some (.exit i)) ∧ roundEnd k j hh = some x := by
          cases ds with
          | cons d ds => cases h2
          | nil =>
            refine ⟨rfl, ?_⟩
            cases o with
            | normal => exact ⟨none, .inl ⟨rfl, rfl⟩, h2⟩
            | ret => exact ⟨_, .inr (.inl ⟨rfl, rfl⟩), h2⟩
            | exit i => exact ⟨_, .inr (.inr ⟨i, rfl, rfl⟩), h2⟩
            | pan v => cases h2
        obtain ⟨rfl, j, hj, hre⟩ := hx
        refine ⟨fun r hr => ?_, fun p hp => ?_⟩
        · rcases List.mem_cons.1 hr with rfl | hr
          · exact ⟨o, e, hh, j, x, rfl, hj, hre, fun p hp => List.mem_append.2 (.inl hp)⟩
          · obtain ⟨o', e', h', j', Lr, a1, a2, a3, a4⟩ := g1 r hr
            exact ⟨o', e', h', j', Lr, a1, a2, a3, fun p hp => List.mem_append.2 (.inr (a4 p hp))⟩
        · rcases List.mem_append.1 hp with hp | hp
          · exact ⟨o, e, hh, [], j, x, List.mem_cons_self, hre, hp⟩
          · obtain ⟨o', e', h', ds', j', Lr, a1, a2, a3⟩ := g2 p hp
            exact ⟨o', e', h', ds', j', Lr, List.mem_cons_of_mem _ a1, a2, a3⟩

theorem roundM_inv {k : Nat} {args : List AV} {h : Heap} {L : List (AV × Heap)} (hr : roundM P (drawX P plan) call N k args h = some L) :
    ∃ st q m e ps a b d l, h.get k = some (.loop st q m e ps a b d) ∧ m ≤ 256 ∧ args.length = ps.size ∧ exM P (drawX P plan) call true P.funcs.size m N a (roundBusy P (drawX P plan) call N k m b) (putAll m ps.toList args e) h [] = some l ∧ roundAll k l = some L := by
  unfold roundM at hr
  split at hr
  · rename_i st q m e ps a b d hg
    have h1 : (Bool.rec (motive := fun _ => LR) none (Option.rec (motive := fun _ => LR) none (fun l => roundAll k l) (exM P (drawX P plan) call true P.funcs.size m N a (roundBusy P (drawX P plan) call N k m b) (putAll m ps.toList args e) h [])) (Bool.rec (motive := fun _ => Bool) false (Nat.ble m 256) (Nat.beq (lenF args) ps.size))) = some L := hr
    cases hb : Nat.beq (lenF args) ps.size with
    | false => rw [hb] at h1; cases h1
    | true =>
      rw [hb] at h1
      have hl := Nat.eq_of_beq_eq_true hb
      rw [lenF_eq] at hl
      have h1 : (Bool.rec (motive := fun _ => LR) none (Option.rec (motive := fun _ => LR) none (fun l => roundAll k l) (exM P (drawX P plan) call true P.funcs.size m N a (roundBusy P (drawX P plan) call N k m b) (putAll m ps.toList args e) h [])) (Nat.ble m 256)) = some L := h1
      cases hm : Nat.ble m 256 with
      | false => rw [hm] at h1; cases h1
      | true =>
      rw [hm] at h1
      cases hx : exM P (drawX P plan) call true P.funcs.size m N a (roundBusy P (drawX P plan) call N k m b) (putAll m ps.toList args e) h [] with
      | none => rw [hx] at h1; cases h1
      | some l => rw [hx] at h1; exact ⟨st, q, m, e, ps, a, b, d, l, hg, (ble_iff _ _).1 hm, hl, hx, h1⟩
  · cases hr
theorem roundBusy_inv {k m : Nat} {b : Code} {o : Out} {e : Env} {h : Heap} {ds : List DVM} {l : List Res} (hr : roundBusy P (drawX P plan) call N k m b o e h ds = some l) :
    o = .normal ∧ ∃ q m' e0 ps a' b' d, h.get k = some (.loop .ready q m' e0 ps a' b' d) ∧ exM P (drawX P plan) call true P.funcs.size m N b leaf e (h.set k (.loop .busy q m' e0 ps a' b' d)) ds = some l := by
  cases o with
  | exit i => cases hr
  | ret => cases hr
  | pan v => cases hr
  | normal =>
    refine ⟨rfl, ?_⟩
    have h1 : (match h.get k with
      | some (.loop .ready q m' e0 ps a' b' d) => exM P (drawX P plan) call true P.funcs.size m N b leaf e (h.set k (.loop .busy q m' e0 ps a' b' d)) ds
      | _ => none) = some l := hr
    split at h1
    · rename_i hg; exact ⟨_, _, _, _, _, _, _, hg, h1⟩
    · cases h1

theorem roundM_ok (hF : Fns P) (hm : P.follows .mixedOrders = true) (hcall : CallMOk P call) {k : Nat} {args : List AV} {h : Heap} {L : List (AV × Heap)} (hr : roundM P (drawX P plan) call N k args h = some L) :
    (∀ φ w0 w (args' : Array Value), R P φ h w0 w → Vs φ args args'.toList → ∀ e, φ[k]? = some e → GoesY P e.blk args' w (LPost P φ w0 L)) ∧ (∀ p ∈ L, Grows h p.2) := by
  obtain ⟨st, q, m, e, ps, x, y, d, l, hg, hm256, hl, hx, hra⟩ := roundM_inv hr
  obtain ⟨g1, g2⟩ := roundAll_mem hra
  refine ⟨?_, ?_⟩
  · intro φ w0 w args' hR hv ek hk
    obtain ⟨fn, T, ed, hobj, hTs, hVE, hed⟩ := loop_obj hR hg hk
    have hsz : args'.size = ps.size := by rw [← Array.length_toList, hv.length, hl]
    have hT0 : Vs φ (envL m e) T.toList := by have := Vs_of_VE hVE; rwa [hTs] at this
    refine ⟨fn, _, x, y, run_yield hobj hsz, roundIn_of_wpIn trivial ?_⟩
    have hT : Vs φ (envL m (putAll m ps.toList args e)) ((ps.zip args').foldl (fun (tmps : Array Value) (p : Tmp × Value) => tmps.setIfInBounds p.1 p.2) T).toList := by
      rw [putAll_env hm256 _ _ _ (by simp [hl]), ← Array.foldl_toList, Array.toList_zip]
      exact foldl_set_V _ _ _ _ _ hv hT0
    refine exM_wp (plan := plan) (fid := P.funcs.size) (N := N) hF hm hcall hm256 (inR := true) (ρ := some ek.blk) (fun h0 => by cases h0) (L := l) (w0 := w0) x (roundBusy P (drawX P plan) call N k m y)
      (Exit.then (fun a₁ w₁ => ∃ w₂, (Instr.beginRound ek.blk).run P w₁ = .ok () w₂ ∧ y.wpIn (wideR (some ek.blk)) 0 P (roundPost P ek.blk (LPost P φ w0 L)) a₁ w₂) (fun _ _ _ => False))
      φ _ h [] l w { tmps := _, defers := [] } hx (fun _ hr => hr) hR hT rfl fun o => ?_
    intro e1 h1 ds1 L1 hk1 hs1 φ1 w1 a1 hu1 hR1 he1 hd1
    obtain ⟨rfl, q', m', e0, ps', a', b', d', hg1, hb1⟩ := roundBusy_inv hk1
    have hek1 := hu1.get hk
    obtain ⟨fn1, T1, ed1, hobj1, hTs1, hVE1, hed1⟩ := loop_obj hR1 hg1 hek1
    refine ⟨_, run_beginRound hobj1 rfl, ?_⟩
    have hlt := (Array.getElem?_eq_some_iff.1 hobj1).1
    have hR2 : R P φ1 (h1.set k (.loop .busy q' m' e0 ps' a' b' d')) w0 (w1.putObj ek.blk (.loop { state := .busy, pending := q', fn := fn1, tmps := T1, params := ps', assign := a', body := b', defers := ed1.blk })) :=
      R.set hR1 hg1 rfl hek1 (fun j hj => putObj_other hj) (by simp) rfl rfl rfl ⟨fn1, T1, ed1, World.putObj_heap_same hlt, hTs1, hVE1, hed1⟩
    refine exM_wp (plan := plan) (fid := P.funcs.size) (N := N) hF hm hcall hm256 (inR := true) (ρ := some ek.blk) (fun h0 => by cases h0) (L := l) (w0 := w0) y leaf (roundPost P ek.blk (LPost P φ w0 L))
      φ1 e1 _ ds1 L1 _ a1 hb1 hs1 hR2 he1 hd1 fun o => leaf_SX fun e2 h2 ds2 hmem φ2 w2 a2 hu2 hR3 he2 hd2 => ?_
    obtain ⟨o3, e3, h3, j, Lr, a3, hj, hre, hLr⟩ := g1 _ hmem
    cases a3
    obtain ⟨st4, q4, m4, e4, ps4, x4, y4, d4, hg4, rfl⟩ := roundEnd_some hre
    have hek2 := hu2.get hek1
    obtain ⟨fn4, T4, ed4, hobj4, hTs4, hVE4, hed4⟩ := loop_obj hR3 hg4 hek2
    have hlt4 := (Array.getElem?_eq_some_iff.1 hobj4).1
    have hend := run_endRound (P := P) j hobj4
    have hR4 : R P φ2 (h2.set k (.loop (if j.isNone then .ready else .done) j m4 e4 ps4 x4 y4 d4)) w0 (w2.putObj ek.blk (.loop { state := if j.isNone then .ready else .done, pending := j, fn := fn4, tmps := T4, params := ps4, assign := x4, body := y4, defers := ed4.blk })) :=
      R.set hR3 hg4 rfl hek2 (fun j hj => putObj_other hj) (by simp) rfl rfl rfl ⟨fn4, T4, ed4, World.putObj_heap_same hlt4, hTs4, hVE4, hed4⟩
    have fin : ∃ v w', (Instr.endRound ek.blk j).run P w2 = .ok v w' ∧ LPost P φ w0 L (.returned v) w' :=
      ⟨_, _, hend, _, hLr _ (List.mem_singleton.2 rfl), φ2, _, rfl, hu1.trans hu2, hR4, by simp only [V]⟩
    rcases hj with ⟨rfl, rfl⟩ | ⟨rfl, rfl⟩ | ⟨i, rfl, rfl⟩
    · exact fin
    · exact fin
    · exact fin
  · intro p hp
    obtain ⟨o, e1, h1, ds, j, Lr, hmem, hre, hpL⟩ := g2 p hp
    obtain ⟨st4, q4, m4, e4, ps4, x4, y4, d4, hg4, rfl⟩ := roundEnd_some hre
    rw [List.mem_singleton] at hpL
    subst hpL
    have hfr := exM_from (plan := plan) (fid := P.funcs.size) (N := N) hcall hm256 x _ _ _ _ _ hx
    have hgr : Grows h h1 := by
      refine leaf_from (h := h) (L := l) (hfr.trans fun o' e' h' ds' L' hk => ?_) _ _ _ _ hmem
      obtain ⟨rfl, q', m', e0, ps', a', b', d', hg1, hb1⟩ := roundBusy_inv hk
      exact FromK.grow (Grows.set hg1) (exM_from (plan := plan) (fid := P.funcs.size) (N := N) hcall hm256 y _ _ _ _ _ hb1)
    exact hgr.trans (Grows.set hg4)

/-! ### All calls -/

structure NatMOk (P : Program) (nat : CallF) : Prop where
  ok : CallsOk P nat
  grow : ∀ f args h v h', nat f args h = some (.ret v h') → Grows h h'
theorem natM_some {nat : CallF} {f : FuncId} {args : List AV} {h : Heap} {L : List (AV × Heap)} (hr : natM nat f args h = some L) : ∃ v h', nat f args h = some (.ret v h') ∧ L = [(v, h')] := by
  unfold natM at hr
  split at hr
  · rename_i v h' hn
    exact ⟨v, h', hn, (Option.some.inj hr).symm⟩
  · cases hr

theorem callM_ok (hF : Fns P) (hm : P.follows .mixedOrders = true) {nat : CallF} (hnat : NatMOk P nat) {ov dov : CallM} (hov : CallMOk P ov) (hdo : DCallOk P dov) : ∀ d, CallMOk P (callM P (drawX P plan) nat ov dov N d)
  | 0 => ⟨fun f args h L hL => (by cases hL), fun f args h L hL => (by cases hL)⟩
  | d + 1 => by
    have ih := callM_ok hF hm hnat hov hdo d
    have main : ∀ f args h L, callM P (drawX P plan) nat ov dov N (d + 1) f args h = some L → (CallPost P f args h fun φ w0 => LPost P φ w0 L) ∧ ∀ p ∈ L, Grows h p.2 := by
      intro f args h L hL
      have h1 : (Option.rec (motive := fun _ => LR) (Bool.rec (motive := fun _ => LR) (roundM P (drawX P plan) (callM P (drawX P plan) nat ov dov N d) N (Nat.sub f P.funcs.size) args h)
        (Option.rec (motive := fun _ => LR) none (fun fn => Option.rec (motive := fun _ => LR) (natM nat f args h) (fun c => bodyM P (drawX P plan) dov (callM P (drawX P plan) nat ov dov N d) N f fn c args h) fn.body) (P.funcs[f]?)) (Nat.blt f P.funcs.size)) some (ov f args h)) = some L := hL
      cases ho : ov f args h with
      | some l =>
        rw [ho] at h1
        cases h1
        exact ⟨hov.post _ _ _ _ ho, hov.grow _ _ _ _ ho⟩
      | none =>
        rw [ho] at h1
        have h2 : (Bool.rec (motive := fun _ => LR) (roundM P (drawX P plan) (callM P (drawX P plan) nat ov dov N d) N (Nat.sub f P.funcs.size) args h)
          (Option.rec (motive := fun _ => LR) none (fun fn => Option.rec (motive := fun _ => LR) (natM nat f args h) (fun c => bodyM P (drawX P plan) dov (callM P (drawX P plan) nat ov dov N d) N f fn c args h) fn.body) (P.funcs[f]?)) (Nat.blt f P.funcs.size)) = some L := h1
        cases hb : Nat.blt f P.funcs.size with
        | false =>
          rw [hb] at h2
          obtain ⟨r1, r2⟩ := roundM_ok hF hm ih h2
          have hge : ¬ f < P.funcs.size := fun hh => by rw [(blt_iff _ _).2 hh] at hb; cases hb
          refine ⟨fun φ w0 w args' hR hv => ?_, r2⟩
          rw [if_neg hge]
          exact r1 φ w0 w args' hR hv
        | true =>
          rw [hb] at h2
          have hlt := (blt_iff _ _).1 hb
          cases hf : P.funcs[f]? with
          | none => rw [hf] at h2; cases h2
          | some fn =>
            rw [hf] at h2
            have h3 : (Option.rec (motive := fun _ => LR) (natM nat f args h) (fun c => bodyM P (drawX P plan) dov (callM P (drawX P plan) nat ov dov N d) N f fn c args h) fn.body) = some L := h2
            cases hbd : fn.body with
            | some c => rw [hbd] at h3; exact bodyM_ok hF hm ih hdo hf hbd h3
            | none =>
              rw [hbd] at h3
              obtain ⟨v, h', hn, rfl⟩ := natM_some h3
              refine ⟨fun φ w0 w args' hR hv => ?_, fun p hp => ?_⟩
              · rw [if_pos hlt]
                have := hnat.ok _ _ _ _ hn φ w0 w args' hR hv
                rw [if_pos hlt] at this
                exact this.mono fun e w' hp => ⟨_, List.mem_singleton.2 rfl, hp⟩
              · rw [List.mem_singleton] at hp
                subst hp
                exact hnat.grow _ _ _ _ _ hn
    exact ⟨fun f args h L hL => (main f args h L hL).1, fun f args h L hL => (main f args h L hL).2⟩

/-- Nothing is known beforehand. -/
def noCall : CallM := fun _ _ _ => none
theorem noCall_ok : CallMOk P noCall := ⟨fun f args h L hL => (by cases hL), fun f args h L hL => (by cases hL)⟩
theorem noDCall_ok : DCallOk P noCall := ⟨fun f args h L hL => (by cases hL), fun f args h L hL => (by cases hL)⟩
theorem natCall_grow {ns : List (FuncId × NK)} : ∀ f args h v h', natCall ns f args h = some (.ret v h') → Grows h h' := by
  intro f args h v h' hr
  unfold natCall at hr
  split at hr
  · exact natA_grows hr
  · cases hr
theorem natM_ok {ns : List (FuncId × NK)} (hn : NatsOk P ns) : NatMOk P (natCall ns) := ⟨natCall_ok hn, natCall_grow⟩
end
end Go.Am

noncomputable section
namespace Go.Am
open Go.RowKit

/-! ### Are two things the same? -/

def eqCapF (a b : Cap) : Bool := match a, b with | .exact x, .exact y => Nat.beq x y | .tip x, .tip y => Nat.beq x y | .dim, .dim => true | _, _ => false
def eqON (a b : Option Nat) : Bool := Option.rec (Option.rec true (fun _ => false) b) (fun x => Option.rec false (fun y => Nat.beq x y) b) a
def eqLoc (a b : Loc) : Bool := Bool.rec false (Nat.beq a.off b.off) (Nat.beq a.id b.id)
def eqOL (a b : Option Loc) : Bool := Option.rec (Option.rec true (fun _ => false) b) (fun x => Option.rec false (fun y => eqLoc x y) b) a
def eqFnF (a b : Fn) : Bool := match a, b with | .func f, .func g => Nat.beq f g | _, _ => false
def eqVF (a : AV) : AV → Bool := AV.rec (motive_1 := fun _ => AV → Bool) (motive_2 := fun _ => List AV → Bool)
  (fun b => match b with | .unk => true | _ => false)
  (fun x b => match b with | .bool y => eqB x y | _ => false)
  (fun k n b => match b with | .int k' n' => Bool.rec false (eqI n n') (sameK k k') | _ => false)
  (fun s b => match b with | .str t => eqL s t | _ => false)
  (fun l b => match b with | .ptr m => eqOL l m | _ => false)
  (fun l n c b => match b with | .slice l' n' c' => Bool.rec false (Bool.rec false (eqCapF c c') (Nat.beq n n')) (eqOL l l') | _ => false)
  (fun m b => match b with | .map m' => eqON m m' | _ => false)
  (fun m b => match b with | .chan m' => eqON m m' | _ => false)
  (fun f _ _ ihx ihy b => match b with | .func g x' y' => Bool.rec false (Bool.rec false (ihy y') (ihx x')) (eqFnF f g) | _ => false)
  (fun b => match b with | .nilFunc => true | _ => false)
  (fun t _ ih b => match b with | .iface u v => Bool.rec false (ih v) (Nat.beq t u) | _ => false)
  (fun b => match b with | .nilIface => true | _ => false)
  (fun _ ih b => match b with | .agg l => ih l | _ => false)
  (fun _ ih b => match b with | .tuple l => ih l | _ => false)
  (fun k b => match b with | .yield m => Nat.beq k m | _ => false)
  (fun b => List.rec true (fun _ _ _ => false) b)
  (fun _ _ iha ihl b => List.rec false (fun y t _ => Bool.rec false (ihl t) (iha y)) b) a
def eqVsF (a b : List AV) : Bool := List.rec (motive := fun _ => List AV → Bool) (fun b => List.rec true (fun _ _ _ => false) b) (fun x _ ih b => List.rec false (fun y t _ => Bool.rec false (ih t) (eqVF x y)) b) a b

theorem recB {a b : Bool} : (Bool.rec false a b : Bool) = true ↔ b = true ∧ a = true := by cases b <;> simp
theorem eqON_eq {a b : Option Nat} (h : eqON a b = true) : a = b := by
  cases a <;> cases b <;> first | rfl | (cases h; done) | skip
  rw [Nat.eq_of_beq_eq_true (show Nat.beq _ _ = true from h)]
theorem eqLoc_eq {a b : Loc} (h : eqLoc a b = true) : a = b := by
  obtain ⟨h1, h2⟩ := recB.1 h
  cases a; cases b
  simp only at h1 h2
  rw [Nat.eq_of_beq_eq_true h1, Nat.eq_of_beq_eq_true h2]
theorem eqOL_eq {a b : Option Loc} (h : eqOL a b = true) : a = b := by
  cases a <;> cases b <;> first | rfl | (cases h; done) | skip
  rw [eqLoc_eq (show eqLoc _ _ = true from h)]
theorem eqCapF_eq {a b : Cap} (h : eqCapF a b = true) : a = b := by
  cases a <;> cases b <;> simp only [eqCapF] at h <;> first | rfl | (cases h; done) | rw [Nat.eq_of_beq_eq_true h]
theorem eqFnF_eq {a b : Fn} (h : eqFnF a b = true) : a = b := by
  cases a <;> cases b <;> simp only [eqFnF] at h <;> first | (cases h; done) | rw [Nat.eq_of_beq_eq_true h]
theorem eqBB {a b : Bool} (h : eqB a b = true) : a = b := by cases a <;> cases b <;> first | rfl | cases h
theorem sameK_eqK {a b : IntKind} (h : sameK a b = true) : a = b := by cases a <;> cases b <;> first | rfl | cases h
theorem eqI_eqI {a b : Int} (h : eqI a b = true) : a = b := by
  cases a <;> cases b <;> first | (cases h; done) | skip
  · rw [Nat.eq_of_beq_eq_true (show Nat.beq _ _ = true from h)]
  · rw [Nat.eq_of_beq_eq_true (show Nat.beq _ _ = true from h)]
/-- The list's part of eqVF. -/
def eqWF (l : List AV) : List AV → Bool := AV.rec_1 (motive_1 := fun _ => AV → Bool) (motive_2 := fun _ => List AV → Bool)
  (fun b => match b with | .unk => true | _ => false)
  (fun x b => match b with | .bool y => eqB x y | _ => false)
  (fun k n b => match b with | .int k' n' => Bool.rec false (eqI n n') (sameK k k') | _ => false)
  (fun s b => match b with | .str t => eqL s t | _ => false)
  (fun l b => match b with | .ptr m => eqOL l m | _ => false)
  (fun l n c b => match b with | .slice l' n' c' => Bool.rec false (Bool.rec false (eqCapF c c') (Nat.beq n n')) (eqOL l l') | _ => false)
  (fun m b => match b with | .map m' => eqON m m' | _ => false)
  (fun m b => match b with | .chan m' => eqON m m' | _ => false)
  (fun f _ _ ihx ihy b => match b with | .func g x' y' => Bool.rec false (Bool.rec false (ihy y') (ihx x')) (eqFnF f g) | _ => false)
  (fun b => match b with | .nilFunc => true | _ => false)
  (fun t _ ih b => match b with | .iface u v => Bool.rec false (ih v) (Nat.beq t u) | _ => false)
  (fun b => match b with | .nilIface => true | _ => false)
  (fun _ ih b => match b with | .agg l => ih l | _ => false)
  (fun _ ih b => match b with | .tuple l => ih l | _ => false)
  (fun k b => match b with | .yield m => Nat.beq k m | _ => false)
  (fun b => List.rec true (fun _ _ _ => false) b)
  (fun _ _ iha ihl b => List.rec false (fun y t _ => Bool.rec false (ihl t) (iha y)) b) l
mutual
theorem eqVF_eq : ∀ (a b : AV), eqVF a b = true → a = b
  | .unk, b, h => by cases b <;> first | rfl | cases h
  | .bool x, b, h => by
    cases b <;> first | (cases h; done) | skip
    rw [eqBB (show eqB _ _ = true from h)]
  | .int k n, b, h => by
    cases b <;> first | (cases h; done) | skip
    obtain ⟨h1, h2⟩ := recB.1 (show (Bool.rec false (eqI _ _) (sameK _ _) : Bool) = true from h)
    rw [sameK_eqK h1, eqI_eqI h2]
  | .str s, b, h => by
    cases b <;> first | (cases h; done) | skip
    rw [(eqL_iff _ _).1 (show eqL _ _ = true from h)]
  | .ptr l, b, h => by
    cases b <;> first | (cases h; done) | skip
    rw [eqOL_eq (show eqOL _ _ = true from h)]
  | .slice l n c, b, h => by
    cases b <;> first | (cases h; done) | skip
    obtain ⟨h1, h2⟩ := recB.1 (show (Bool.rec false (Bool.rec false (eqCapF _ _) (Nat.beq _ _)) (eqOL _ _) : Bool) = true from h)
    obtain ⟨h2, h3⟩ := recB.1 h2
    rw [eqOL_eq h1, Nat.eq_of_beq_eq_true h2, eqCapF_eq h3]
  | .map m, b, h => by
    cases b <;> first | (cases h; done) | skip
    rw [eqON_eq (show eqON _ _ = true from h)]
  | .chan m, b, h => by
    cases b <;> first | (cases h; done) | skip
    rw [eqON_eq (show eqON _ _ = true from h)]
  | .func f x y, b, h => by
    cases b <;> first | (cases h; done) | skip
    obtain ⟨h1, h2⟩ := recB.1 (show (Bool.rec false (Bool.rec false (eqWF y _) (eqWF x _)) (eqFnF f _) : Bool) = true from h)
    obtain ⟨h2, h3⟩ := recB.1 h2
    rw [eqFnF_eq h1, eqWF_eq x _ h2, eqWF_eq y _ h3]
  | .nilFunc, b, h => by cases b <;> first | rfl | cases h
  | .iface t v, b, h => by
    cases b <;> first | (cases h; done) | skip
    obtain ⟨h1, h2⟩ := recB.1 (show (Bool.rec false (eqVF v _) (Nat.beq t _) : Bool) = true from h)
    rw [Nat.eq_of_beq_eq_true h1, eqVF_eq v _ h2]
  | .nilIface, b, h => by cases b <;> first | rfl | cases h
  | .agg l, b, h => by
    cases b <;> first | (cases h; done) | skip
    rw [eqWF_eq l _ h]
  | .tuple l, b, h => by
    cases b <;> first | (cases h; done) | skip
    rw [eqWF_eq l _ h]
  | .yield k, b, h => by
    cases b <;> first | (cases h; done) | skip
    rw [Nat.eq_of_beq_eq_true (show Nat.beq _ _ = true from h)]
theorem eqWF_eq : ∀ (a b : List AV), eqWF a b = true → a = b
  | [], b, h => by cases b <;> first | rfl | cases h
  | x :: a, b, h => by
    cases b with
    | nil => cases h
    | cons y b =>
      obtain ⟨h1, h2⟩ := recB.1 (show (Bool.rec false (eqWF a b) (eqVF x y) : Bool) = true from h)
      rw [eqVF_eq x y h1, eqWF_eq a b h2]
end
theorem eqVsF_eq : ∀ {a b : List AV}, eqVsF a b = true → a = b
  | [], [], _ => rfl
  | [], _ :: _, h => by cases h
  | _ :: _, [], h => by cases h
  | x :: a, y :: b, h => by
    obtain ⟨h1, h2⟩ := recB.1 (show (Bool.rec false (eqVsF a b) (eqVF x y) : Bool) = true from h)
    rw [eqVF_eq x y h1, eqVsF_eq h2]

def eqKindF (a b : Kind) : Bool := match a, b with | .own t, .own u => eqON t u | .var t, .var u => Nat.beq t u | .str, .str => true | .ro, .ro => true | _, _ => false
def eqENs (a b : List EN) : Bool := List.rec (motive := fun _ => List EN → Bool) (fun b => List.rec true (fun _ _ _ => false) b) (fun x _ ih b => List.rec false (fun y t _ => Bool.rec false (ih t) (Bool.rec false (Bool.rec false (Nat.beq x.2.2 y.2.2) (eqVF x.2.1 y.2.1)) (eqVF x.1 y.1))) b) a b
def eqKVs (a b : List (AV × AV)) : Bool := List.rec (motive := fun _ => List (AV × AV) → Bool) (fun b => List.rec true (fun _ _ _ => false) b) (fun x _ ih b => List.rec false (fun y t _ => Bool.rec false (ih t) (Bool.rec false (eqVF x.2 y.2) (eqVF x.1 y.1))) b) a b
def eqNs (a b : List Nat) : Bool := List.rec (motive := fun _ => List Nat → Bool) (fun b => List.rec true (fun _ _ _ => false) b) (fun x _ ih b => List.rec false (fun y t _ => Bool.rec false (ih t) (Nat.beq x y)) b) a b
theorem eqKindF_eq {a b : Kind} (h : eqKindF a b = true) : a = b := by
  cases a <;> cases b <;> simp only [eqKindF] at h <;> first | rfl | (cases h; done) | rw [eqON_eq h] | rw [Nat.eq_of_beq_eq_true h]
theorem eqENs_eq : ∀ {a b : List EN}, eqENs a b = true → a = b
  | [], [], _ => rfl
  | [], _ :: _, h => by cases h
  | _ :: _, [], h => by cases h
  | (k, v, n) :: a, (k', v', n') :: b, h => by
    obtain ⟨h1, h2⟩ := recB.1 (show (Bool.rec false (eqENs a b) (Bool.rec false (Bool.rec false (Nat.beq n n') (eqVF v v')) (eqVF k k')) : Bool) = true from h)
    obtain ⟨h3, h4⟩ := recB.1 h1
    obtain ⟨h4, h5⟩ := recB.1 h4
    rw [eqVF_eq _ _ h3, eqVF_eq _ _ h4, Nat.eq_of_beq_eq_true h5, eqENs_eq h2]
theorem eqKVs_eq : ∀ {a b : List (AV × AV)}, eqKVs a b = true → a = b
  | [], [], _ => rfl
  | [], _ :: _, h => by cases h
  | _ :: _, [], h => by cases h
  | (k, v) :: a, (k', v') :: b, h => by
    obtain ⟨h1, h2⟩ := recB.1 (show (Bool.rec false (eqKVs a b) (Bool.rec false (eqVF v v') (eqVF k k')) : Bool) = true from h)
    obtain ⟨h3, h4⟩ := recB.1 h1
    rw [eqVF_eq _ _ h3, eqVF_eq _ _ h4, eqKVs_eq h2]
theorem eqNs_eq : ∀ {a b : List Nat}, eqNs a b = true → a = b
  | [], [], _ => rfl
  | [], _ :: _, h => by cases h
  | _ :: _, [], h => by cases h
  | x :: a, y :: b, h => by
    obtain ⟨h1, h2⟩ := recB.1 (show (Bool.rec false (eqNs a b) (Nat.beq x y) : Bool) = true from h)
    rw [Nat.eq_of_beq_eq_true h1, eqNs_eq h2]
/-- No record of a range over a function. -/
def eqObj (a b : Obj) : Bool := match a, b with
  | .cells cs k, .cells ds k' => Bool.rec false (eqVsF cs ds) (eqKindF k k')
  | .map es c, .map es' c' => Bool.rec false (eqENs es es') (Nat.beq c c')
  | .bag es c, .bag es' c' => Bool.rec false (eqKVs es es') (Nat.beq c c')
  | .chan c b x, .chan c' b' x' => Bool.rec false (Bool.rec false (eqVsF b b') (eqB x x')) (Nat.beq c c')
  | .iter m s l k n, .iter m' s' l' k' n' => Bool.rec false (Bool.rec false (Bool.rec false (Bool.rec false (Nat.beq n n') (eqON k k')) (eqNs l l')) (Nat.beq s s')) (eqON m m')
  | .siter s p, .siter s' p' => Bool.rec false (eqL s s') (Nat.beq p p')
  | .defs, .defs => true
  | _, _ => false
theorem eqObj_eq {a b : Obj} (h : eqObj a b = true) : a = b := by
  unfold eqObj at h
  split at h
  · obtain ⟨h1, h2⟩ := recB.1 h; rw [eqKindF_eq h1, eqVsF_eq h2]
  · obtain ⟨h1, h2⟩ := recB.1 h; rw [Nat.eq_of_beq_eq_true h1, eqENs_eq h2]
  · obtain ⟨h1, h2⟩ := recB.1 h; rw [Nat.eq_of_beq_eq_true h1, eqKVs_eq h2]
  · obtain ⟨h1, h2⟩ := recB.1 h; obtain ⟨h2, h3⟩ := recB.1 h2; rw [Nat.eq_of_beq_eq_true h1, eqBB h2, eqVsF_eq h3]
  · obtain ⟨h1, h2⟩ := recB.1 h
    obtain ⟨h2, h3⟩ := recB.1 h2
    obtain ⟨h3, h4⟩ := recB.1 h3
    obtain ⟨h4, h5⟩ := recB.1 h4
    rw [eqON_eq h1, Nat.eq_of_beq_eq_true h2, eqNs_eq h3, eqON_eq h4, Nat.eq_of_beq_eq_true h5]
  · obtain ⟨h1, h2⟩ := recB.1 h; rw [Nat.eq_of_beq_eq_true h1, (eqL_iff _ _).1 h2]
  · rfl
  · cases h

/-! ### Whole memories -/

def eqOO (a b : Option Obj) : Bool := Option.rec (Option.rec true (fun _ => false) b) (fun x => Option.rec false (fun y => eqObj x y) b) a
/-- What the one has the other has. -/
def inOO (a b : Option Obj) : Bool := Option.rec true (fun x => Option.rec false (fun y => eqObj x y) b) a
theorem eqOO_eq {a b : Option Obj} (h : eqOO a b = true) : a = b := by
  cases a <;> cases b <;> first | rfl | (cases h; done) | skip
  rw [eqObj_eq (show eqObj _ _ = true from h)]
theorem inOO_eq {a b : Option Obj} (h : inOO a b = true) {o : Obj} (ha : a = some o) : b = some o := by
  subst ha
  cases b with
  | none => cases h
  | some y => rw [eqObj_eq (show eqObj _ _ = true from h)]
def and16 (f : D16 → Bool) : Bool := Bool.rec false (Bool.rec false (Bool.rec false (Bool.rec false (Bool.rec false (Bool.rec false (Bool.rec false (Bool.rec false (Bool.rec false (Bool.rec false (Bool.rec false (Bool.rec false (Bool.rec false (Bool.rec false (Bool.rec false (f .df) (f .de)) (f .dd)) (f .dc)) (f .db)) (f .da)) (f .d9)) (f .d8)) (f .d7)) (f .d6)) (f .d5)) (f .d4)) (f .d3)) (f .d2)) (f .d1)) (f .d0)
theorem and16_all {f : D16 → Bool} (h : and16 f = true) (d : D16) : f d = true := by
  unfold and16 at h
  simp only [recB] at h
  obtain ⟨h0, h1, h2, h3, h4, h5, h6, h7, h8, h9, ha, hb, hc, hd, he, hf⟩ := h
  cases d <;> assumption
def allL1 (q : Option Obj → Option Obj → Bool) (a b : L1) : Bool := and16 fun d => q (L1.get d a) (L1.get d b)
def allL2 (q : Option Obj → Option Obj → Bool) (m : Nat) (a b : L2) : Bool := and16 fun d => Bool.rec true (allL1 q (L2.get d a) (L2.get d b)) (Nat.blt (Nat.mul 16 d.val) m)
def allL3 (q : Option Obj → Option Obj → Bool) (m : Nat) (a b : L3) : Bool := and16 fun d => Bool.rec true (allL2 q (Nat.sub m (Nat.mul 256 d.val)) (L3.get d a) (L3.get d b)) (Nat.blt (Nat.mul 256 d.val) m)
def allL4 (q : Option Obj → Option Obj → Bool) (m : Nat) (a b : L4) : Bool := and16 fun d => Bool.rec true (allL3 q (Nat.sub m (Nat.mul 4096 d.val)) (L4.get d a) (L4.get d b)) (Nat.blt (Nat.mul 4096 d.val) m)
/-- Of the first n. -/
def allT (q : Option Obj → Option Obj → Bool) (n : Nat) (a b : T16) : Bool := Bool.rec false (allL4 q n a.t b.t) (Nat.ble n 65536)
theorem recT {a b : Bool} : (Bool.rec true a b : Bool) = true ↔ (b = true → a = true) := by cases b <;> simp
theorem allT_get {q : Option Obj → Option Obj → Bool} {n : Nat} {a b : T16} (h : allT q n a b = true) {i : Nat} (hi : i < n) : q (a.get i) (b.get i) = true := by
  obtain ⟨h0, h⟩ := recB.1 h
  have h0 := Nat.le_of_ble_eq_true h0
  have key : ∀ t : T16, t.get i = t.t.at i := fun t => by
    unfold T16.get
    rw [Nat.ble_eq_true_of_le (show i ≤ 65535 by omega)]
  rw [key, key]
  have v4 : (dig (Nat.div i 4096)).val = i / 4096 := dig_val (Nat.div_lt_of_lt_mul (by omega))
  have v3 : (dig (Nat.mod (Nat.div i 256) 16)).val = i / 256 % 16 := dig_val (Nat.mod_lt _ (by omega))
  have v2 : (dig (Nat.mod (Nat.div i 16) 16)).val = i / 16 % 16 := dig_val (Nat.mod_lt _ (by omega))
  have g4 := recT.1 (and16_all h (dig (Nat.div i 4096)))
  rw [v4] at g4
  have g4 := g4 ((blt_iff _ _).2 (by show 4096 * (i / 4096) < n; omega))
  have g3 := recT.1 (and16_all g4 (dig (Nat.mod (Nat.div i 256) 16)))
  rw [v3] at g3
  have g3 := g3 ((blt_iff _ _).2 (by show 256 * (i / 256 % 16) < n - 4096 * (i / 4096); omega))
  have g2 := recT.1 (and16_all g3 (dig (Nat.mod (Nat.div i 16) 16)))
  rw [v2] at g2
  have g2 := g2 ((blt_iff _ _).2 (by show 16 * (i / 16 % 16) < n - 4096 * (i / 4096) - 256 * (i / 256 % 16); omega))
  exact and16_all g2 (dig (Nat.mod i 16))

/-- What has turned is laid over. -/
def pt (t : T16) (l : List (Nat × Option Obj)) : T16 := List.rec (motive := fun _ => T16 → T16) (fun t => t) (fun p _ ih t => ih (t.put p.1 p.2)) l t
theorem pt_cons (t : T16) (p : Nat × Option Obj) (l : List (Nat × Option Obj)) : pt t (p :: l) = pt (t.put p.1 p.2) l := rfl
theorem pt_out : ∀ {l : List (Nat × Option Obj)} {t : T16} {i : Nat}, (∀ p ∈ l, p.1 ≠ i) → (pt t l).get i = t.get i
  | [], _, _, _ => rfl
  | p :: l, t, i, h => by
    rw [pt_cons, pt_out fun q hq => h q (List.mem_cons_of_mem _ hq)]
    exact T16.get_put_ne _ (h p List.mem_cons_self) _
/-- Where two are alike, what is laid over them is alike. -/
theorem pt_same : ∀ {l : List (Nat × Option Obj)} {t u : T16} {i : Nat}, (t.get i = u.get i ∨ ∃ p ∈ l, p.1 = i) → (pt t l).get i = (pt u l).get i
  | [], _, _, _, h => by
    rcases h with h | ⟨p, hp, _⟩
    · exact h
    · cases hp
  | p :: l, t, u, i, h => by
    rw [pt_cons, pt_cons]
    by_cases hp : p.1 = i
    · exact pt_same (.inl (by rw [← hp, T16.get_put, T16.get_put]))
    · refine pt_same ?_
      rcases h with h | ⟨q, hq, he⟩
      · exact .inl (by rw [T16.get_put_ne _ hp, T16.get_put_ne _ hp]; exact h)
      · rcases List.mem_cons.1 hq with rfl | hq
        · exact absurd he hp
        · exact .inr ⟨q, hq, he⟩

/-! ### A piece: a call in a memory that is written out -/

structure Piece where
  f : FuncId
  args : List AV
  n : Nat
  t : T16
  v : AV
  n' : Nat
  d : List (Nat × Option Obj)

def Piece.pre (p : Piece) : Heap := ⟨p.n, p.t, []⟩
/-- What was there is still there, and is no record of a range over a function; what is new is below the new end. -/
def fineD (n n' : Nat) (tr : T16) (d : List (Nat × Option Obj)) : Bool := List.rec true (fun p _ ih => Bool.rec false ih (Bool.rec (Nat.blt p.1 n') (match tr.get p.1, p.2 with | _, none => true | some (.loop ..), _ => false | _, some (.loop ..) => false | some _, some _ => true | none, some _ => false) (Nat.blt p.1 n))) d
def oldIds (n : Nat) (d : List (Nat × Option Obj)) : List Nat := List.rec [] (fun p _ ih => Bool.rec ih (p.1 :: ih) (Nat.blt p.1 n)) d
def Piece.post (p : Piece) (h : Heap) : Heap := ⟨p.n', pt h.tr p.d, appF (oldIds p.n p.d) h.log⟩
def Piece.call (p : Piece) : CallM := fun f args h =>
  Bool.rec none (Bool.rec none (Bool.rec none (Bool.rec none (Bool.rec none (some [(p.v, p.post h)]) (fineD p.n p.n' h.tr p.d)) (Nat.ble p.n p.n')) (allT eqOO p.n p.t h.tr)) (eqVsF args p.args)) (Bool.rec false (Nat.beq h.next p.n) (Nat.beq f p.f))
/-- Does the machine come to what is written? -/
def Piece.ok (call : CallM) (p : Piece) : Bool := match call p.f p.args p.pre with
  | some [(v, h')] => Bool.rec false (Bool.rec false (allT inOO p.n' (pt p.t p.d) h'.tr) (Nat.beq h'.next p.n')) (eqVF v p.v)
  | _ => false
def Bnd (n : Nat) (t : T16) : Prop := ∀ i, n ≤ i → t.get i = none

theorem fineD_mem {n n' : Nat} {tr : T16} : ∀ {d : List (Nat × Option Obj)}, fineD n n' tr d = true → ∀ p ∈ d, if p.1 < n then p.2 = none ∨ ∃ o o', tr.get p.1 = some o ∧ p.2 = some o' ∧ o.stat = o'.stat else p.1 < n'
  | [], _, p, hp => by cases hp
  | q :: d, h, p, hp => by
    obtain ⟨h1, h2⟩ := recB.1 (show (Bool.rec false (fineD n n' tr d) _ : Bool) = true from h)
    rcases List.mem_cons.1 hp with rfl | hp
    · cases hb : Nat.blt p.1 n with
      | true =>
        rw [hb] at h1
        rw [if_pos ((blt_iff _ _).1 hb)]
        simp only at h1
        split at h1
        · rename_i hq; exact .inl hq
        · cases h1
        · cases h1
        · rename_i o o' hn1 hn2 ho ho'
          refine .inr ⟨o, o', ho, ho', ?_⟩
          cases o <;> cases o' <;> first | rfl | (exact absurd rfl (hn1 _ _ _ _ _ _ _ _)) | (exact absurd rfl (hn2 _ _ _ _ _ _ _ _))
        · cases h1
      | false =>
        rw [hb] at h1
        rw [if_neg (fun hh => by rw [(blt_iff _ _).2 hh] at hb; cases hb)]
        exact (blt_iff _ _).1 h1
    · exact fineD_mem h2 p hp
theorem oldIds_mem {n : Nat} : ∀ {d : List (Nat × Option Obj)} {p : Nat × Option Obj}, p ∈ d → p.1 < n → p.1 ∈ oldIds n d
  | [], p, hp, _ => by cases hp
  | q :: d, p, hp, hn => by
    show p.1 ∈ (Bool.rec (oldIds n d) (q.1 :: oldIds n d) (Nat.blt q.1 n) : List Nat)
    rcases List.mem_cons.1 hp with rfl | hp
    · rw [(blt_iff _ _).2 hn]; exact List.mem_cons_self
    · have := oldIds_mem hp hn
      cases Nat.blt q.1 n with
      | true => exact List.mem_cons_of_mem _ this
      | false => exact this
theorem Piece.call_some {p : Piece} {f : FuncId} {args : List AV} {h : Heap} {L : List (AV × Heap)} (hL : p.call f args h = some L) :
    f = p.f ∧ h.next = p.n ∧ args = p.args ∧ allT eqOO p.n p.t h.tr = true ∧ p.n ≤ p.n' ∧ fineD p.n p.n' h.tr p.d = true ∧ L = [(p.v, p.post h)] := by
  unfold Piece.call at hL
  have key : ∀ {x : Option (List (AV × Heap))} {b : Bool}, (Bool.rec none x b : Option (List (AV × Heap))) = some L → b = true ∧ x = some L := by
    intro x b hh
    cases b with
    | false => cases hh
    | true => exact ⟨rfl, hh⟩
  obtain ⟨h1, hL⟩ := key hL
  obtain ⟨h2, hL⟩ := key hL
  obtain ⟨h3, hL⟩ := key hL
  obtain ⟨h4, hL⟩ := key hL
  obtain ⟨h5, hL⟩ := key hL
  obtain ⟨h6, h7⟩ := recB.1 h1
  exact ⟨Nat.eq_of_beq_eq_true h6, Nat.eq_of_beq_eq_true h7, eqVsF_eq h2, h3, Nat.le_of_ble_eq_true h4, h5, (Option.some.inj hL).symm⟩
theorem Piece.call_ok {P : Program} {call : CallM} (hc : CallMOk P call) {p : Piece} (hok : p.ok call = true) (hb : Bnd p.n p.t) : CallMOk P p.call where
  post := fun f args h L hL => by
    obtain ⟨rfl, hn, rfl, hT, hle, hfine, rfl⟩ := Piece.call_some hL
    have hsame : ∀ i, i < p.n → p.t.get i = h.get i := fun i hi => eqOO_eq (allT_get hT hi)
    unfold Piece.ok at hok
    split at hok
    · rename_i v h' hcall
      obtain ⟨h1, h2⟩ := recB.1 hok
      obtain ⟨h2, h3⟩ := recB.1 h2
      have hv : v = p.v := eqVF_eq _ _ h1
      have hn' := Nat.eq_of_beq_eq_true h2
      subst hv
      intro φ w0 w args' hR hva
      have hall : ∀ i, p.t.get i = h.get i := fun i => by
        by_cases hi : i < p.n
        · exact hsame i hi
        · rw [hb i (by omega)]
          exact (hR.wfh i (by omega)).symm
      have hRpre : R P φ p.pre w0 w := hR.same hn.symm hall
      have hp := hc.post _ _ _ _ hcall φ w0 w args' hRpre hva
      have up : ∀ e w', LPost P φ w0 [(p.v, h')] e w' → LPost P φ w0 [(p.v, p.post h)] e w' := by
        rintro e w' ⟨q, hq, φ', u, he, hu, hR', hV⟩
        rw [List.mem_singleton] at hq
        subst hq
        refine ⟨_, List.mem_singleton.2 rfl, φ', u, he, hu, ?_, hV⟩
        refine R.less hR' ⟨hn'.symm, fun i o ho => ?_⟩
        have ho : (pt h.tr p.d).get i = some o := ho
        have heq : (pt p.t p.d).get i = (pt h.tr p.d).get i := pt_same (.inl (hall i))
        rw [← heq] at ho
        by_cases hi : i < p.n'
        · exact inOO_eq (allT_get h3 hi) ho
        · exfalso
          rw [pt_out (fun q hq he => ?_), hb i (by omega)] at ho
          · cases ho
          · have := fineD_mem hfine q hq
            split at this <;> omega
      split at hp
      · rename_i hlt
        rw [if_pos hlt]
        exact hp.mono up
      · rename_i hlt
        rw [if_neg hlt]
        exact fun e he => (hp e he).mono up
    · cases hok
  grow := fun f args h L hL => by
    obtain ⟨rfl, hn, rfl, hT, hle, hfine, rfl⟩ := Piece.call_some hL
    intro q hq
    rw [List.mem_singleton] at hq
    subst hq
    have hmem := fineD_mem hfine
    refine ⟨by show h.next ≤ p.n'; omega, ⟨oldIds p.n p.d, appF_eq _ _, fun i hi hni => ?_⟩, fun hw i hi => ?_, fun i hi => ?_⟩
    · show (pt h.tr p.d).get i = h.get i
      exact pt_out fun q hq he => hni (by subst he; exact oldIds_mem hq (by omega))
    · have hi : p.n' ≤ i := hi
      show (pt h.tr p.d).get i = none
      rw [pt_out fun q hq he => ?_]
      · exact hw i (by omega)
      · have := hmem q hq
        split at this <;> omega
    · show Stay (h.get i) ((pt h.tr p.d).get i)
      suffices H : ∀ (l : List (Nat × Option Obj)) (t : T16), (∀ q ∈ l, q ∈ p.d) → Stay (h.get i) (t.get i) → Stay (h.get i) ((pt t l).get i) from H p.d h.tr (fun _ hq => hq) (Stay.refl _)
      intro l
      induction l with
      | nil => intro t _ hs; exact hs
      | cons q l ih =>
        intro t hl hs
        rw [pt_cons]
        refine ih _ (fun r hr => hl r (List.mem_cons_of_mem _ hr)) ?_
        by_cases he : q.1 = i
        · subst he
          rw [T16.get_put]
          have hlt : q.1 < p.n := by omega
          have := hmem q (hl q List.mem_cons_self)
          rw [if_pos hlt] at this
          rcases this with h1 | ⟨o, o', h1, h2, h3⟩
          · rw [h1]; intro o ho; cases ho
          · rw [h2]; intro x hx; cases hx; exact ⟨o, h1, h3⟩
        · rw [T16.get_put_ne _ he]; exact hs

/-- One or the other. -/
def orM (a b : CallM) : CallM := fun f args h => Option.rec (b f args h) some (a f args h)
theorem orM_ok {P : Program} {a b : CallM} (ha : CallMOk P a) (hb : CallMOk P b) : CallMOk P (orM a b) := by
  have key : ∀ f args h L, orM a b f args h = some L → a f args h = some L ∨ b f args h = some L := by
    intro f args h L hL
    unfold orM at hL
    cases hx : a f args h with
    | none => rw [hx] at hL; exact .inr hL
    | some x => rw [hx] at hL; exact .inl hL
  refine ⟨fun f args h L hL => ?_, fun f args h L hL => ?_⟩
  · rcases key f args h L hL with h1 | h1
    · exact ha.post _ _ _ _ h1
    · exact hb.post _ _ _ _ h1
  · rcases key f args h L hL with h1 | h1
    · exact ha.grow _ _ _ _ h1
    · exact hb.grow _ _ _ _ h1
def piecesM (ps : List Piece) : CallM := List.rec noCall (fun p _ ih => orM p.call ih) ps
def allOk (call : CallM) (ps : List Piece) : Bool := List.rec true (fun p _ ih => Bool.rec false ih (p.ok call)) ps
theorem piecesM_ok {P : Program} {call : CallM} (hc : CallMOk P call) : ∀ {ps : List Piece}, allOk call ps = true → (∀ p ∈ ps, Bnd p.n p.t) → CallMOk P (piecesM ps)
  | [], _, _ => noCall_ok
  | p :: ps, h, hb => by
    obtain ⟨h1, h2⟩ := recB.1 (show (Bool.rec false (allOk call ps) (p.ok call) : Bool) = true from h)
    exact orM_ok (Piece.call_ok hc h1 (hb p List.mem_cons_self)) (piecesM_ok hc h2 fun q hq => hb q (List.mem_cons_of_mem _ hq))
/-- Nothing stands behind the end. -/
def belowD (n : Nat) (d : List (Nat × Option Obj)) : Bool := List.rec true (fun p _ ih => Bool.rec false ih (Nat.blt p.1 n)) d
theorem Bnd.pt {n n' : Nat} (hn : n ≤ n') : ∀ {d : List (Nat × Option Obj)} {t : T16}, Bnd n t → belowD n' d = true → Bnd n' (pt t d)
  | [], t, h, _ => fun i hi => h i (by omega)
  | p :: d, t, h, hd => by
    obtain ⟨h1, h2⟩ := recB.1 (show (Bool.rec false (belowD n' d) (Nat.blt p.1 n') : Bool) = true from hd)
    have h1 := (blt_iff _ _).1 h1
    rw [pt_cons]
    refine Bnd.pt (Nat.le_refl n') (fun i hi => ?_) h2
    rw [T16.get_put_ne _ (by omega)]
    exact h i (by omega)
end Go.Am

noncomputable section
namespace Go.Am

def qt : AV := .bool true
def qz : AV := .bool false
def qi (n : Nat) : AV := .int .i64 (.ofNat n)
def qu (n : Nat) : AV := .int .u64 (.ofNat n)
def qb (n : Nat) : AV := .int .u8 (.ofNat n)
/-- l letters, the first the lowest. -/
def qw (l : Nat) : Nat → List UInt8 := Nat.rec (motive := fun _ => Nat → List UInt8) (fun _ => []) (fun _ ih n => UInt8.ofNat (Nat.mod n 256) :: ih (Nat.div n 256)) l
def qs (l n : Nat) : AV := .str (qw l n)
def qe : AV := .str []
def qn : AV := .ptr none
def qp (i o : Nat) : AV := .ptr (some ⟨i, o⟩)
def qk (i o n : Nat) : AV := .slice (some ⟨i, o⟩) n (.tip 1)
def ql (i o n : Nat) (c : Cap) : AV := .slice (some ⟨i, o⟩) n c
def qm (i : Nat) : AV := .map (some i)
def qo (i : Nat) (o : Obj) : Nat × Option Obj := (i, some o)
def co (l : List AV) : Obj := .cells l (.own none)
def cv (t : TypeId) (l : List AV) : Obj := .cells l (.var t)
def ct (t : TypeId) (l : List AV) : Obj := .cells l (.own (some t))
end Go.Am
