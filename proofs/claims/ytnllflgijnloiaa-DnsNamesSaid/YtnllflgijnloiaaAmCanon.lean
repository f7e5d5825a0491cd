/- A call that gives one block of numbers, whatever it does on the way, is told in one way. -/
import Derived.Test.YtnllflgijnloiaaAmSwp
namespace Go.Am
open Go.RowKit

/-- What stood in memory already is told as before. -/
def flatV : AV → Bool
  | .bool _ | .int _ _ | .str _ => true
  | _ => false
theorem flat_V {φ φ' : List Emb} {a : AV} (h : flatV a = true) {v : Value} (hv : V φ a v) : V φ' a v := by
  cases a <;> simp only [flatV] at h <;> first | (cases h; done) | skip
  all_goals (simp only [V] at hv ⊢; exact hv)
theorem flat_Vs {φ φ' : List Emb} : ∀ {as : List AV} {vs : List Value}, as.all flatV = true → Vs φ as vs → Vs φ' as vs
  | [], vs, _, h => by simpa only [Vs] using h
  | a :: as, vs, hf, h => by
    simp only [List.all_cons, Bool.and_eq_true] at hf
    simp only [Vs] at h
    obtain ⟨y, ys, rfl, h1, h2⟩ := h
    rw [Vs_cons]
    exact ⟨flat_V hf.1 h1, flat_Vs hf.2 h2⟩

mutual
theorem V.back {φ φ' : List Emb} (hu : Up φ φ') : ∀ (a : AV) (u v : Value), V φ a u → V φ' a v → V φ a v
  | .unk, _, _, _, _ => by simp [V]
  | .bool _, _, _, _, hv => by simpa [V] using hv
  | .int _ _, _, _, _, hv => by simpa [V] using hv
  | .str _, _, _, _, hv => by simpa [V] using hv
  | .ptr none, _, _, _, hv => by simpa [V] using hv
  | .ptr (some l), _, _, hx, hv => by
    simp only [V] at hx hv ⊢
    obtain ⟨e, he, _⟩ := hx
    obtain ⟨e', he', hv⟩ := hv
    have := hu.get he
    rw [this] at he'; cases he'
    exact ⟨e, he, hv⟩
  | .slice none _ c, _, _, _, hv => by cases c <;> simp [V] at hv ⊢ <;> exact hv
  | .slice (some l) n c, _, _, hx, hv => by
    simp only [V] at hx hv ⊢
    obtain ⟨e, cap, a, he, _⟩ := hx
    obtain ⟨e', cap', a', he', hv⟩ := hv
    have := hu.get he
    rw [this] at he'; cases he'
    exact ⟨e, cap', a', he, hv⟩
  | .map none, _, _, _, hv => by simpa [V] using hv
  | .map (some i), _, _, hx, hv => by
    simp only [V] at hx hv ⊢
    obtain ⟨e, he, _⟩ := hx
    obtain ⟨e', he', hv⟩ := hv
    have := hu.get he
    rw [this] at he'; cases he'
    exact ⟨e, he, hv⟩
  | .chan none, _, _, _, hv => by simpa [V] using hv
  | .chan (some i), _, _, hx, hv => by
    simp only [V] at hx hv ⊢
    obtain ⟨e, he, _⟩ := hx
    obtain ⟨e', he', hv⟩ := hv
    have := hu.get he
    rw [this] at he'; cases he'
    exact ⟨e, he, hv⟩
  | .func fn a b, _, _, hx, hv => by
    simp only [V] at hx hv ⊢
    obtain ⟨x, y, _, hxa, hxb⟩ := hx
    obtain ⟨x', y', he, ha, hb⟩ := hv
    exact ⟨x', y', he, Vs.back hu a _ _ hxa ha, Vs.back hu b _ _ hxb hb⟩
  | .nilFunc, _, _, _, hv => by simpa [V] using hv
  | .iface t x, _, _, hx, hv => by
    simp only [V] at hx hv ⊢
    obtain ⟨y, _, hy⟩ := hx
    obtain ⟨y', he, hv⟩ := hv
    exact ⟨y', he, V.back hu x _ _ hy hv⟩
  | .nilIface, _, _, _, hv => by simpa [V] using hv
  | .agg cs, _, _, hx, hv => by
    simp only [V] at hx hv ⊢
    obtain ⟨x, _, hy⟩ := hx
    obtain ⟨x', he, hv⟩ := hv
    exact ⟨x', he, Vs.back hu cs _ _ hy hv⟩
  | .tuple cs, _, _, hx, hv => by
    simp only [V] at hx hv ⊢
    obtain ⟨x, _, hy⟩ := hx
    obtain ⟨x', he, hv⟩ := hv
    exact ⟨x', he, Vs.back hu cs _ _ hy hv⟩
theorem Vs.back {φ φ' : List Emb} (hu : Up φ φ') : ∀ (as : List AV) (us vs : List Value), Vs φ as us → Vs φ' as vs → Vs φ as vs
  | [], _, _, _, hv => by simpa [Vs] using hv
  | a :: as, _, _, hx, hv => by
    simp only [Vs] at hx hv ⊢
    obtain ⟨y, ys, _, h1, h2⟩ := hx
    obtain ⟨y', ys', he, h3, h4⟩ := hv
    exact ⟨y', ys', he, V.back hu a _ _ h1 h3, Vs.back hu as _ _ h2 h4⟩
end
theorem Entries.back {φ φ' : List Emb} (hu : Up φ φ') : ∀ {es : List (AV × AV × Nat)} {us vs : List MapEntry}, Entries φ es us → Entries φ' es vs → Entries φ es vs
  | [], _, _, _, hv => hv
  | x :: xs, _, _, hx, hv => by
    simp only [Entries] at hx hv ⊢
    obtain ⟨y, ys, _, h1, h2⟩ := hx
    obtain ⟨y', ys', he, h3, h4⟩ := hv
    exact ⟨y', ys', he, ⟨V.back hu _ _ _ h1.1 h3.1, V.back hu _ _ _ h1.2.1 h3.2.1, h3.2.2⟩, Entries.back hu h2 h4⟩
theorem O.back {φ φ' : List Emb} (hu : Up φ φ') {e : Emb} {w w' : World} : ∀ {o : Obj}, O φ e w o → O φ' e w' o → O φ e w' o
  | .cells cs k, hx, hv => by
    simp only [O] at hx hv ⊢
    obtain ⟨C, t, fr, _, _, _, _, _, h6⟩ := hx
    obtain ⟨C', t', fr', g1, g2, g3, g4, g5, g6⟩ := hv
    exact ⟨C', t', fr', g1, g2, g3, g4, g5, Vs.back hu _ _ _ h6 g6⟩
  | .map es clock, hx, hv => by
    simp only [O] at hx hv ⊢
    obtain ⟨ES, _, h2⟩ := hx
    obtain ⟨ES', g1, g2⟩ := hv
    exact ⟨ES', g1, Entries.back hu h2 g2⟩
  | .chan cap buf closed, hx, hv => by
    simp only [O] at hx hv ⊢
    obtain ⟨B, s, r, _, h2⟩ := hx
    obtain ⟨B', s', r', g1, g2⟩ := hv
    exact ⟨B', s', r', g1, Vs.back hu _ _ _ h2 g2⟩

theorem canon_flat {P : Program} {f : FuncId} {args : List AV} {h : Heap} {xs : List AV} (hfl : xs.all flatV = true) (hne : xs ≠ []) (hs : SCall P f args h (fun r => ∃ v h', r = .ret v h' ∧ Acc h.next h' v xs ∧ Keep [] h h')) :
    CallOk P f args h (.ret (.slice (some ⟨h.next, 0⟩) xs.length (.tip 1)) (h.alloc (.cells xs .own))) := by
  intro φ w0 w args' hR hV
  refine (hs φ w0 w args' hR hV).mono ?_
  rintro e w' ⟨_, ⟨v, h', rfl, hacc, hk⟩, φ', v', rfl, hu, hR', hv⟩
  obtain ⟨i, hi, _, rfl, hg⟩ := hacc.resolve_left (fun hh => hne hh.1)
  obtain ⟨em, hem, ho, hown⟩ := hR'.objs i _ hg
  have hfree : h.get h.next = none := by
    cases hgn : h.get h.next with
    | none => rfl
    | some o => have := hR.lt hgn; omega
  have hold : ∀ {j : Nat} {o : Obj}, h.get j = some o → ∃ e0, φ[j]? = some e0 ∧ φ'[j]? = some e0 ∧ O φ e0 w' o ∧ (o.isOwn = true → w0.heap.size ≤ e0.blk) ∧ h'.get j = some o ∧ j < h.next ∧ j ≠ i := by
    intro j o hj
    obtain ⟨e0, he0, ho0, _⟩ := hR.objs j o hj
    have hj' := hk.get j o hj (by simp)
    obtain ⟨e1, he1, ho1, hw1⟩ := hR'.objs j o hj'
    have := hu.get he0
    rw [this] at he1; cases he1
    have := hR.lt hj
    exact ⟨e0, he0, by assumption, ho0.back hu ho1, hw1, hj', by omega, by omega⟩
  have hlen := hR.len
  have hup : Up φ (φ ++ [em]) := Up.snoc φ em
  refine ⟨φ ++ [em], v', rfl, hup, ?_, ?_⟩
  · refine ⟨hR'.below, by rw [Heap.next_alloc]; simp [hlen], ?_, ?_, ?_⟩
    · intro j o hj
      by_cases hjn : j = h.next
      · subst hjn
        rw [Heap.get_alloc] at hj
        cases hj
        refine ⟨em, by rw [← hlen]; simp, ?_, hown⟩
        simp only [O] at ho ⊢
        obtain ⟨C, t, fr, g1, g2, g3, g4, g5, g6⟩ := ho
        exact ⟨C, t, fr, g1, g2, g3, g4, g5, flat_Vs hfl g6⟩
      · rw [Heap.get_alloc_ne _ _ (Ne.symm hjn)] at hj
        obtain ⟨e0, h1, _, h3, h4, _⟩ := hold hj
        exact ⟨e0, hup.get h1, h3.up hup, h4⟩
    · intro a b oa ob ea eb hab ha hb hea heb hoa
      by_cases han : a = h.next
      · subst han
        rw [Heap.get_alloc] at ha
        cases ha
        rw [Heap.get_alloc_ne _ _ hab] at hb
        obtain ⟨e0, h1, h2, _, _, h5, _, h7⟩ := hold hb
        have := hup.get h1
        rw [this] at heb; cases heb
        have : (φ ++ [em])[h.next]? = some em := by rw [← hlen]; simp
        rw [this] at hea; cases hea
        exact hR'.sep i b _ _ _ _ (Ne.symm h7) hg h5 hem h2 hoa
      · rw [Heap.get_alloc_ne _ _ (Ne.symm han)] at ha
        obtain ⟨e0, h1, h2, _, _, h5, _, h7⟩ := hold ha
        have := hup.get h1
        rw [this] at hea; cases hea
        by_cases hbn : b = h.next
        · subst hbn
          rw [Heap.get_alloc] at hb
          cases hb
          have : (φ ++ [em])[h.next]? = some em := by rw [← hlen]; simp
          rw [this] at heb; cases heb
          exact hR'.sep a i _ _ _ _ h7 h5 hg h2 hem hoa
        · rw [Heap.get_alloc_ne _ _ (Ne.symm hbn)] at hb
          obtain ⟨e1, k1, k2, _, _, k5, _, _⟩ := hold hb
          have := hup.get k1
          rw [this] at heb; cases heb
          exact hR'.sep a b _ _ _ _ hab h5 k5 h2 k2 hoa
    · intro g hg
      obtain ⟨n, hn⟩ := hR.glob g hg
      exact ⟨n, hup.get hn⟩
  · simp only [V] at hv ⊢
    obtain ⟨e1, cap, a, he1, rest⟩ := hv
    rw [hem] at he1; cases he1
    exact ⟨em, cap, a, by rw [← hlen]; simp, rest⟩
end Go.Am
