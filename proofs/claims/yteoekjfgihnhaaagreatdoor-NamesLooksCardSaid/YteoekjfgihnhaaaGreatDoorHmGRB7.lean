/- Parts of the proof by the abstract machine: Chan, Bag. -/
import Derived.Test.YteoekjfgihnhaaaGreatDoorHmGRB6
import Derived.Conc.Events
set_option linter.all false
noncomputable section
namespace Go.Am
open Go.RowKit

def makeChanA (P : Program) (h : Heap) (t : TypeId) (n : AV) : Option (AV × Heap) :=
  match P.underlying t, n with
  | some (.chan _ elem), .int _ 0 => (match P.info? elem with | some _ => some (.chan (some h.next), h.alloc (.chan 0 [] false)) | none => none)
  | _, _ => none
def closeA (h : Heap) (i : Nat) : Option (AV × Heap) :=
  match h.get i with
  | some (.chan cap buf false) => some (.tuple [], h.set i (.chan cap buf true))
  | _ => none

theorem makeChanA_run {P : Program} {φ : List Emb} {h h' : Heap} {w0 w : World} (hR : R P φ h w0 w) {t : TypeId} {n r : AV} (hm : makeChanA P h t n = some (r, h')) {n' : Value} (hn : V φ n n') :
    ∃ r' φ' w', (Instr.makeChan t n').run P w = .ok r' w' ∧ Up φ φ' ∧ R P φ' h' w0 w' ∧ V φ' r r' := by
  unfold makeChanA at hm
  split at hm
  · rename_i dir elem k hu
    split at hm
    · rename_i i hi
      cases hm
      simp only [V] at hn
      subst hn
      refine ⟨.chan (some w.heap.size), _, { w with heap := w.heap.push (.chan 0 #[] false 0 0 false) }, ?_, Up.snoc _ ⟨w.heap.size, 0, 0⟩, ?_, ?_⟩
      · simp [Instr.makeChan, asInt, asIntOf, run_underlying hu, typeInfo, hi]
      · exact R.alloc hR _ _ 0 rfl rfl rfl rfl ⟨#[], 0, 0, by simp, by simp [Vs]⟩
      · simp only [V]
        exact ⟨_, new_V hR _, rfl⟩
    · cases hm
  · cases hm

theorem closeA_run {P : Program} {φ : List Emb} {h h' : Heap} {w0 w : World} (hR : R P φ h w0 w) {i : Nat} {r : AV} (hc : closeA h i = some (r, h')) {x : Value} (hx : V φ (.chan (some i)) x) (ts : Array TypeId) (ty : TypeId) :
    ∃ r' w', (Builtin.close_ ts ty #[x]).run P w = .ok r' w' ∧ R P φ h' w0 w' ∧ V φ r r' := by
  unfold closeA at hc
  split at hc
  · rename_i cap buf hg
    cases hc
    simp only [V] at hx
    obtain ⟨e, he, rfl⟩ := hx
    obtain ⟨e', he', ⟨B, s, rc, h1, h2⟩, hown⟩ := hR.objs _ _ hg
    rw [he] at he'; cases he'
    have hlt := (Array.getElem?_eq_some_iff.1 h1).1
    refine ⟨.tuple #[], { w with heap := w.heap.setIfInBounds e.blk (.chan cap B true s rc false) }, ?_, ?_, by simp only [V]; exact ⟨#[], rfl, by simp [Vs]⟩⟩
    · change (Sem.run P (do
        let .chan room buf closed sent received timer ← getObj e.blk | stuck "close: no channel in this block"
        if closed then runtimePanic (.plain "close of closed channel")
        setObj e.blk (.chan room buf true sent received timer)
        pure (Value.tuple #[])) w) = _
      simp [run_getObj_chan P w h1, run_setObj_chan P w _ h1]
    · refine R.set hR hg rfl he (fun k hk => ?_) (by simp) rfl rfl rfl ⟨B, s, rc, ?_, h2⟩
      · simp [Ne.symm hk]
      · simp [hlt]
  · cases hc
end Go.Am

noncomputable section
namespace Go.Am
open Go.RowKit

abbrev EN := AV × AV × Nat
def kvOf (x : EN) : AV × AV := (x.1, x.2.1)
/-- One object is told in another way. -/
theorem R.retell {P : Program} {φ : List Emb} {h g : Heap} {w0 w : World} (hR : R P φ h w0 w) {i : Nat} {o o' : Obj} (hn : g.next = h.next) (hg : ∀ j, j ≠ i → g.get j = h.get j) (hi : h.get i = some o) (hi' : g.get i = some o') (hown : o'.isOwn = o.isOwn)
    (hO : ∀ e, φ[i]? = some e → O φ e w o → O φ e w o') : R P φ g w0 w := by
  have key : ∀ j p, g.get j = some p → ∃ p', h.get j = some p' ∧ p.isOwn = p'.isOwn ∧ ∀ e, φ[j]? = some e → O φ e w p' → O φ e w p := by
    intro j p hp
    by_cases hj : j = i
    · subst hj
      rw [hi'] at hp; cases hp
      exact ⟨o, hi, hown, hO⟩
    · rw [hg j hj] at hp; exact ⟨p, hp, rfl, fun _ _ h => h⟩
  exact {
    below := hR.below
    len := by rw [hR.len, hn]
    objs := fun j p hp => by
      obtain ⟨p', h4, h5, h6⟩ := key j p hp
      obtain ⟨e, he, hO, hw⟩ := hR.objs j p' h4
      exact ⟨e, he, h6 e he hO, fun hh => hw (by rw [← h5]; exact hh)⟩
    sep := fun a b oa ob ea eb hab ha hb hea heb hown => by
      obtain ⟨oa', h4, h5, _⟩ := key a oa ha
      obtain ⟨ob', h6, _, _⟩ := key b ob hb
      exact hR.sep a b oa' ob' ea eb hab h4 h6 hea heb (by rw [← h5]; exact hown)
    glob := hR.glob }
theorem R.bag {P : Program} {φ : List Emb} {h : Heap} {w0 w : World} (hR : R P φ h w0 w) {i : Nat} {es : List EN} {kvs : List (AV × AV)} {c : Nat} (hi : h.get i = some (.map es c)) (hp : (es.map kvOf).Perm kvs) (hb : Births c es) : R P φ (h.set i (.bag kvs c)) w0 w :=
  hR.retell (i := i) (o := .map es c) (o' := .bag kvs c) rfl (fun _ hj => Heap.get_put_ne _ _ (Ne.symm hj)) hi (Heap.get_put _ _ _) rfl fun _ _ ⟨ES, h1, h2⟩ => ⟨ES, es, h1, h2, hp, hb⟩
theorem R.unbag {P : Program} {φ : List Emb} {h : Heap} {w0 w : World} (hR : R P φ h w0 w) {i : Nat} {kvs : List (AV × AV)} {c : Nat} (hi : h.get i = some (.bag kvs c)) : ∃ es, (es.map kvOf).Perm kvs ∧ Births c es ∧ R P φ (h.set i (.map es c)) w0 w := by
  obtain ⟨e, he, ⟨ES, es, h1, h2, h3, h4⟩, _⟩ := hR.objs i _ hi
  refine ⟨es, h3, h4, hR.retell (i := i) (o := .bag kvs c) (o' := .map es c) rfl (fun _ hj => Heap.get_put_ne _ _ (Ne.symm hj)) hi (Heap.get_put _ _ _) rfl fun e' he' _ => ?_⟩
  rw [he] at he'; cases he'
  exact ⟨ES, h1, h2⟩
end Go.Am
