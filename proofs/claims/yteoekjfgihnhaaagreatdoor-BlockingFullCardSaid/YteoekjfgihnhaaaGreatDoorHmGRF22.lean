/- slices.Sorted over a map's keys: why that is right. -/
import Derived.Test.YteoekjfgihnhaaaGreatDoorHmGRF14
import Derived.Test.YteoekjfgihnhaaaGreatDoorHmGRF17
import Derived.Sort.KeysCollected
import Derived.Maps.OwnSet
set_option linter.all false
noncomputable section
namespace Go.Am
open Go.RowKit Go.Proofs Go.Maps
open Go.WideElems (rd rg rg_of)
open Go.WideShapes (sorted_perm)

/-- What is said of slices.Sorted over an iterator of a map's keys. -/
def SortsKeys (P : Program) (K : TypeId) (f g : FuncId) : Prop :=
  ∀ (Bm b nn : Nat) (D0 : DataW Unit) (R : Value → Option (DataW Unit × List MemPlace)) (w : World), Bm < w.heap.size → w.cell? ⟨Bm, 0, none⟩ = some (.map (some b)) → w.ownsMap P K R b nn D0 → Maps.size D0 ≤ maxLen → Maps.size D0 * 16 ≤ 140737488355328 →
    Calls P f #[.func (.func g) #[] #[.pointer (some ⟨Bm, 0, none⟩)]] w fun e w' => ∃ (v : Value) (ss : List (List UInt8)), e = .returned v ∧ ss.Perm (strKeys D0) ∧
      w'.ownsRow w.heap.size K 1 v ss.length ((ss.mergeSort (fun x y => decide (x ≤ y))).map encStr) ∧ (v = .slice none 0 0 ↔ ss = []) ∧ Below w.heap.size w w'

def keyS (p : AV × AV) : List UInt8 := match p.1 with | .str s => s | _ => []
theorem riseFrom_lt : ∀ {l : List (AV × AV)} {a : List UInt8}, riseFrom a l = true → (l.map keyS).Pairwise (· < ·) ∧ ∀ s ∈ l.map keyS, a < s
  | [], _, _ => ⟨.nil, by simp⟩
  | (k, v) :: l, a, h => by
    cases k with
    | str b =>
      simp only [riseFrom, cond_eq_ite] at h
      split at h
      · rename_i hl
        have hlt := (ltL_iff _ _).1 hl
        obtain ⟨h1, h2⟩ := riseFrom_lt h
        refine ⟨List.pairwise_cons.2 ⟨h2, h1⟩, fun s hs => ?_⟩
        rcases List.mem_cons.1 hs with rfl | hs
        · exact hlt
        · exact List.lt_trans hlt (h2 s hs)
      · cases h
    | _ => simp [riseFrom] at h
theorem riseB_lt : ∀ {l : List (AV × AV)}, riseB l = true → (l.map keyS).Pairwise (· < ·)
  | [], _ => .nil
  | (k, v) :: l, h => by
    cases k with
    | str b =>
      obtain ⟨h1, h2⟩ := riseFrom_lt (show riseFrom b l = true from h)
      exact List.pairwise_cons.2 ⟨h2, h1⟩
    | _ => simp [riseB] at h
theorem mergeSort_rising {l : List (List UInt8)} (h : l.Pairwise (· < ·)) : l.mergeSort leB = l :=
  List.mergeSort_of_pairwise (h.imp fun {a b} hab => by simp only [leB, decide_eq_true_eq]; exact List.le_of_lt hab)

/-- Where the parts of an object that holds a map lie. -/
theorem risen_run {P : Program} {φ : List Emb} {h : Heap} {w0 w : World} (hR : R P φ h w0 w) {i : Nat} {o : Obj} (hi : h.get i = some o) {l : List (AV × AV)} (hl : risen o = some l) :
    ∃ e ES es c, φ[i]? = some e ∧ w.heap[e.blk]? = some (.map ES c) ∧ Entries φ es ES.toList ∧ (es.map kvOf).Perm l ∧ Births c es ∧ riseB l = true := by
  obtain ⟨e, he, hO, _⟩ := hR.objs i o hi
  unfold risen at hl
  split at hl
  · rename_i es c _
    rw [cond_eq_ite] at hl
    split at hl
    · rename_i hb
      cases hl
      rw [Bool.and_eq_true] at hb
      obtain ⟨ES, h1, h2⟩ := hO
      exact ⟨e, ES, es, c, he, h1, h2, toB_perm es, bornOk_run hb.2, hb.1⟩
    · cases hl
  · rename_i kvs c _
    rw [cond_eq_ite] at hl
    split at hl
    · rename_i hb
      cases hl
      obtain ⟨ES, es, h1, h2, h3, h4⟩ := hO
      exact ⟨e, ES, es, c, he, h1, h2, h3, h4, hb⟩
    · cases hl
  · cases hl

theorem entries_born {φ : List Emb} : ∀ {es : List EN} {l : List MapEntry}, Entries φ es l → l.map (·.born) = es.map fun x => x.2.2
  | [], l, h => by simp only [Entries] at h; subst h; rfl
  | x :: es, l, h => by
    simp only [Entries, entryOf] at h
    obtain ⟨y, ys, rfl, ⟨_, _, h3⟩, h⟩ := h
    rw [List.map_cons, List.map_cons, entries_born h, h3]
theorem entries_keys {φ : List Emb} : ∀ {es : List EN} {l : List MapEntry}, Entries φ es l → (∀ p ∈ es.map kvOf, ∃ s, p.1 = AV.str s) → l.map (·.key) = (es.map kvOf).map fun p => encStr (keyS p)
  | [], l, h, _ => by simp only [Entries] at h; subst h; rfl
  | x :: es, l, h, hk => by
    simp only [Entries, entryOf] at h
    obtain ⟨y, ys, rfl, ⟨h1, _, _⟩, h⟩ := h
    obtain ⟨s, hs⟩ := hk (kvOf x) List.mem_cons_self
    have hs : x.1 = .str s := hs
    rw [List.map_cons, List.map_cons, List.map_cons, entries_keys h fun p hp => hk p (List.mem_cons_of_mem _ hp)]
    rw [hs] at h1
    simp only [V] at h1
    rw [h1]
    show _ = encStr (keyS (kvOf x)) :: _
    rw [show keyS (kvOf x) = s by simp [keyS, kvOf, hs], encStr]
theorem all_len {l : List (AV × AV)} (h : smallK l = true) : l.length ≤ 65535 ∧ ∀ s ∈ l.map keyS, s.length ≤ 65535 := by
  unfold smallK at h
  rw [Bool.and_eq_true] at h
  obtain ⟨h1, h2⟩ := h
  have h1 := Nat.le_of_ble_eq_true h1
  rw [lenF_eq] at h1
  refine ⟨h1, fun s hs => ?_⟩
  obtain ⟨p, hp, rfl⟩ := List.mem_map.1 hs
  have := Nat.le_of_ble_eq_true (List.all_eq_true.1 h2 p hp)
  unfold keyLen at this
  unfold keyS
  split
  · rename_i s hs; rw [hs] at this; simpa [lenF_eq] using this
  · exact Nat.zero_le _
theorem maxLen_big : 65535 ≤ maxLen := by decide

def trivR : Value → Option (DataW Unit × List MemPlace) := fun _ => some (.nil, [])
/-- The map as the shelf wants it told. -/
theorem risen_owns {P : Program} {K : TypeId} (hK : P.underlying K = some .string) {φ : List Emb} {w : World} {b : Nat} {ES : Array MapEntry} {es : List EN} {c : Nat} {l : List (AV × AV)} (hb : w.heap[b]? = some (.map ES c)) (hE : Entries φ es ES.toList) (hp : (es.map kvOf).Perm l) (hbi : Births c es) (hr : riseB l = true) (hs : smallK l = true) :
    ∃ D0 : DataW Unit, w.ownsMap P K trivR b ES.size D0 ∧ (l.map keyS).Perm (strKeys D0) ∧ Maps.size D0 ≤ 65535 := by
  have hKB := (riseB_keys hr).perm hp.symm
  obtain ⟨hlen, hlens⟩ := all_len hs
  have hkeys := entries_keys hE hKB.1
  have hborn := entries_born hE
  have hsz : ES.size = l.length := by
    rw [← Array.length_toList, ← hp.length_eq, ← List.length_map (f := fun x : MapEntry => x.key), hkeys, List.length_map]
  have hkl : ∀ x ∈ ES.toList, ∃ s, x.key = encStr s ∧ s.length ≤ 65535 := by
    intro x hx
    have : x.key ∈ ES.toList.map (·.key) := List.mem_map.2 ⟨x, hx, rfl⟩
    rw [hkeys] at this
    obtain ⟨p, hp', he⟩ := List.mem_map.1 this
    exact ⟨keyS p, he.symm, hlens _ (List.mem_map.2 ⟨p, hp.subset hp', rfl⟩)⟩
  have hkey : ∀ s : List UInt8, s.length ≤ 65535 → keyOf P K (encStr s) = some (.string s) := by
    intro s hs
    have : s.length ≤ maxLen := Nat.le_trans hs maxLen_big
    simp [keyOf, mapKey, hK, encStr, ByteArray.size, this]
  have hrd : ∀ x ∈ ES.toList, ∀ s, x.key = encStr s → s.length ≤ 65535 → rd P K trivR x = some (.string s, .nil) := by
    intro x _ s hx hs
    unfold rd
    rw [hx, hkey s hs]
    rfl
  have hfit : Go.WideElems.Fit P K trivR ES c := by
    refine ⟨by rw [hsz]; exact Nat.le_trans hlen maxLen_big, ⟨?_, ?_, ?_⟩, ?_⟩
    · intro x hx
      have : x.born ∈ ES.toList.map (·.born) := List.mem_map.2 ⟨x, hx, rfl⟩
      rw [hborn] at this
      exact (births_iff.1 hbi).1 _ this
    · rw [hborn]; exact hbi.2
    · rw [hkeys]
      have h1 : ((es.map kvOf).map keyS).Nodup := by
        have h2 : (l.map keyS).Nodup := (riseB_lt hr).imp fun {a b} hab he => by rw [he] at hab; exact List.lt_irrefl _ hab
        exact (hp.map keyS).nodup_iff.2 h2
      rw [show (es.map kvOf).map (fun p => encStr (keyS p)) = ((es.map kvOf).map keyS).map encStr by simp only [List.map_map]; rfl]
      exact List.Pairwise.map encStr (fun a b hab he => hab (encStr_inj he)) h1
    · intro x hx
      obtain ⟨s, h1, h2⟩ := hkl x hx
      exact ⟨_, hrd x hx s h1 h2⟩
  refine ⟨_, ⟨ES, c, hb, hfit, Nat.le_refl _, rfl⟩, ?_, ?_⟩
  · have h1 : (ES.toList.map (rg P K trivR)).map (fun p => strOf p.1) = (es.map kvOf).map keyS := by
      have h2 : ES.toList.map (fun x => encStr (strOf (rg P K trivR x).1)) = ES.toList.map (·.key) := by
        refine List.map_congr_left fun x hx => ?_
        obtain ⟨s, h3, h4⟩ := hkl x hx
        rw [rg_of (hrd x hx s h3 h4), h3]
        rfl
      rw [hkeys] at h2
      rw [List.map_map]
      refine (List.map_inj_right (f := encStr) (fun a b hab => encStr_inj hab)).1 ?_
      rw [List.map_map, List.map_map]
      exact h2
    show (l.map keyS).Perm (List.map (fun (p : Lit × DataW Unit) => strOf p.1) _)
    refine (hp.symm.map keyS).trans ?_
    rw [← h1]
    exact (sorted_perm _).symm.map _
  · show List.length _ ≤ _
    rw [(sorted_perm _).length_eq, List.length_map, Array.length_toList, hsz]
    exact hlen

theorem R.later {P : Program} {φ : List Emb} {h : Heap} {w0 w w' : World} (hR : R P φ h w0 w) (hb : Below w.heap.size w w') : R P φ h w0 w' where
  below := hR.below.trans ⟨hb.os, hb.tape, hb.output, hb.size, fun k hk => hb.block k (Nat.lt_of_lt_of_le hk hR.below.size)⟩
  len := hR.len
  objs := fun i o hi => by
    obtain ⟨e, he, hO, hw⟩ := hR.objs i o hi
    exact ⟨e, he, O.same (hb.block _ hO.lt) hO, hw⟩
  sep := hR.sep
  glob := hR.glob

theorem fst_V {φ : List Emb} : ∀ {l : List (AV × AV)}, (∀ p ∈ l, ∃ s, p.1 = AV.str s) → Vs φ (l.map Prod.fst) ((l.map keyS).map encStr)
  | [], _ => by simp [Vs]
  | p :: l, h => by
    obtain ⟨s, hs⟩ := h p List.mem_cons_self
    rw [List.map_cons, List.map_cons, List.map_cons, Vs_cons]
    refine ⟨?_, fst_V fun q hq => h q (List.mem_cons_of_mem _ hq)⟩
    rw [hs, show keyS p = s by simp [keyS, hs]]
    simp [V, encStr]
theorem sortedOut_run {P : Program} {φ : List Emb} {h : Heap} {w0 w w' : World} (hR : R P φ h w0 w) {K : TypeId} {l : List (AV × AV)} (hr : riseB l = true) {v : Value} {ss : List (List UInt8)} (hss : ss.Perm (l.map keyS))
    (hrow : w'.ownsRow w.heap.size K 1 v ss.length ((ss.mergeSort (fun x y => decide (x ≤ y))).map encStr)) (hnil : v = .slice none 0 0 ↔ ss = []) (hb : Below w.heap.size w w') : PostC P φ w0 (.ret (sortedOut h l).1 (sortedOut h l).2) (.returned v) w' := by
  have hm : ss.mergeSort (fun x y => decide (x ≤ y)) = l.map keyS := (mergeSort_of_perm hss).trans (mergeSort_rising (riseB_lt hr))
  rw [hm] at hrow
  have hlen : ss.length = l.length := by rw [hss.length_eq, List.length_map]
  match l, hlen, hrow, hss, hr with
  | [], hlen, _, _, _ =>
    have hv := hnil.2 (List.eq_nil_of_length_eq_zero (by simpa using hlen))
    subst hv
    refine ⟨φ, _, rfl, Up.refl _, hR.later hb, ?_⟩
    show V φ (.slice none 0 .dim) _
    simp [V]
  | p :: l, hlen, hrow, hss, hr =>
    obtain ⟨_, hrow⟩ := hrow
    rcases hrow with ⟨rfl, hz⟩ | ⟨g, cap, cur, rfl, hbase, hg, h1, h2, h3, h4⟩
    · rw [hlen] at hz; simp at hz
    · have hk := (riseB_keys hr).1
      rw [hlen] at h1 h4
      rw [Nat.mul_one] at h3 h4
      have hR' := hR.later hb
      refine ⟨φ ++ [⟨g, 0, cur.size⟩], _, rfl, Up.snoc _ _, ?_, ?_⟩
      · refine R.allocAt hR (.cells (mapF Prod.fst (p :: l)) (.own none)) ⟨g, 0, cur.size⟩ (fun j oj ej hj hej he => ?_) (Nat.le_trans hR.below.size hbase) (fun k hk hlt => hb.block k hlt) hb.size hb.os hb.tape hb.output ?_
        · obtain ⟨e, he', hO, _⟩ := hR.objs j oj hj
          have hee : e = ej := Option.some.inj (he'.symm.trans hej)
          subst hee
          have := hO.lt
          have he : e.blk = g := he
          omega
        · have hl1 : (mapF Prod.fst (p :: l)).length = (p :: l).length := by rw [mapF_eq, List.length_map]
          refine ⟨cur, K, (0, 0), hg, by simp, by rw [hl1]; show _ ≤ cur.size; omega, ⟨fun u hu => ?_, (fun u hu => by cases hu)⟩, (fun hh => by cases hh), ?_⟩
          · cases hu; exact ⟨rfl, fun _ hh => by cases hh⟩
          · rw [hl1, List.drop_zero, h4, mapF_eq]
            exact fst_V hk
      · show V _ (.slice (some ⟨h.next, 0⟩) (lenF (p :: l)) (.tip 1)) _
        simp only [V]
        refine ⟨⟨g, 0, cur.size⟩, cap, _, new_V hR _, by rw [lenF_eq, hlen], by rw [lenF_eq]; exact h1, ⟨Nat.one_pos, by show 0 + cap * 1 = cur.size; omega⟩, .inl rfl⟩

theorem sortedM_some {fs gs : List FuncId} {f : FuncId} {args : List AV} {h : Heap} {L : List (AV × Heap)} (hL : sortedM fs gs f args h = some L) :
    ∃ g p i cs t o l, f ∈ fs ∧ g ∈ gs ∧ args = [.func (.func g) [] [.ptr (some ⟨p, 0⟩)]] ∧ h.get p = some (.cells (.map (some i) :: cs) (.var t)) ∧ h.get i = some o ∧ risen o = some l ∧ smallK l = true ∧ L = [sortedOut h l] := by
  have mem : ∀ {l : List FuncId} {x : FuncId}, l.any (Nat.beq x) = true → x ∈ l := by
    intro l x hx
    obtain ⟨y, hy, he⟩ := List.any_eq_true.1 hx
    rw [Nat.eq_of_beq_eq_true he]; exact hy
  unfold sortedM at hL
  rw [cond_eq_ite] at hL
  split at hL
  · rename_i hf
    split at hL
    · rename_i g p
      rw [cond_eq_ite] at hL
      split at hL
      · rename_i hg
        split at hL
        · rename_i i cs t hp
          split at hL
          · rename_i o ho
            split at hL
            · rename_i l hl
              rw [cond_eq_ite] at hL
              split at hL
              · rename_i hs
                cases hL
                exact ⟨g, p, i, cs, t, o, l, mem hf, mem hg, rfl, hp, ho, hl, hs, rfl⟩
              · cases hL
            · cases hL
          · cases hL
        · cases hL
      · cases hL
    · cases hL
  · cases hL
theorem sortedM_ok {P : Program} {K : TypeId} (hK : P.underlying K = some .string) {fs gs : List FuncId} (hc : ∀ f ∈ fs, (f < P.funcs.size ∧ ∀ args w, (callFunc f args).run P w = .ok (.enter f args) w) ∧ ∀ g ∈ gs, SortsKeys P K f g) : CallMOk P (sortedM fs gs) where
  post := fun f args h L hL => by
    obtain ⟨g, p, i, cs, t, o, l, hf, hg, rfl, hp, ho, hl, hs, rfl⟩ := sortedM_some hL
    obtain ⟨⟨hlt, henter⟩, hgs⟩ := hc f hf
    intro φ w0 w args' hR hv
    rw [if_pos hlt]
    simp only [Vs] at hv
    obtain ⟨y, ys, hy, hv, rfl⟩ := hv
    simp only [V, Vs] at hv
    obtain ⟨x, z, rfl, hx, u, us, hz, ⟨e, he, rfl⟩, rfl⟩ := hv
    obtain ⟨e', he', ⟨C, t', fr, hC, htot, hle, hown, _, hVs⟩, _⟩ := hR.objs p _ hp
    rw [he] at he'; cases he'
    obtain ⟨_, _, hoff, hsz⟩ := hown.2 t rfl
    obtain ⟨e2, ES, es, c, he2, hb2, hE, hperm, hbi, hrise⟩ := risen_run hR ho hl
    have hargs : args' = #[.func (.func g) #[] #[.pointer (some ⟨e.blk, 0, none⟩)]] := by
      apply Array.ext'
      rw [hy]
      have h1 : x = #[] := Array.ext' hx
      have h2 : z = #[.pointer (some ⟨e.blk, e.off + 0, none⟩)] := Array.ext' hz
      rw [h1, h2, hoff]
    subst hargs
    have hcell : w.cell? ⟨e.blk, 0, none⟩ = some (.map (some e2.blk)) := by
      rw [hoff, List.drop_zero] at hVs
      simp only [Vs] at hVs
      obtain ⟨u, us, htk, hV, _⟩ := hVs
      simp only [V] at hV
      obtain ⟨e3, he3, rfl⟩ := hV
      rw [he2] at he3; cases he3
      have h0 : C.toList[0]? = some (.map (some e2.blk)) := by
        have := congrArg (fun l : List Value => l[0]?) htk
        simp only [List.getElem?_take, List.getElem?_cons_zero] at this
        simpa using this
      rw [Array.getElem?_toList] at h0
      simp [World.cell?, hC, h0]
    have hBm : e.blk < w.heap.size := (Array.getElem?_eq_some_iff.1 hC).1
    obtain ⟨D0, hown0, hpk, hsize⟩ := risen_owns (P := P) (K := K) hK hb2 hE hperm hbi hrise hs
    refine .inl ⟨henter _ _, (hgs g hg e.blk e2.blk _ D0 trivR w hBm hcell hown0 (Nat.le_trans hsize maxLen_big) (by omega)).mono ?_⟩
    rintro e' w' ⟨v, ss, rfl, hS, hrow, hnil, hbel⟩
    exact ⟨_, List.mem_singleton.2 rfl, sortedOut_run hR hrise (hS.trans hpk.symm) hrow hnil hbel⟩
  grow := fun f args h L hL => by
    obtain ⟨g, p, i, cs, t, o, l, _, _, _, _, _, _, _, rfl⟩ := sortedM_some hL
    intro q hq
    rw [List.mem_singleton] at hq
    subst hq
    match l with
    | [] => exact Grows.refl _
    | _ :: _ => exact Grows.alloc _ _
end Go.Am
