/- Channels without room: made, closed. -/
import Derived.Test.YtnllflgijnloiaaAmGRDBack4
import Derived.Conc.Events
namespace Go.Am
open Go.RowKit

def makeChanA (P : Program) (h : Heap) (t : TypeId) (n : AV) : Option (AV × Heap) :=
  match P.underlying t, n with
  | some (.chan _ elem), .int _ 0 => (match P.info? elem with | some _ => some (.chan (some h.next), h.alloc (.chan 0 [] false)) | none => none)
  | _, _ => none
def closeA (h : Heap) (i : Nat) : Option (AV × Heap) :=
  match h.get i with
  | some (.chan cap buf false) => some (.tuple [], h.set i (.chan cap buf true))
  | _ => none

theorem makeChanA_run {P : Program} {φ : List Emb} {h h' : Heap} {w0 w : World} (hR : R P φ h w0 w) {t : TypeId} {n r : AV} (hm : makeChanA P h t n = some (r, h')) {n' : Value} (hn : V φ n n') :
    ∃ r' φ' w', (Instr.makeChan t n').run P w = .ok r' w' ∧ Up φ φ' ∧ R P φ' h' w0 w' ∧ V φ' r r' := by
  unfold makeChanA at hm
  split at hm
  · rename_i dir elem k hu
    split at hm
    · rename_i i hi
      cases hm
      simp only [V] at hn
      subst hn
      refine ⟨.chan (some w.heap.size), _, { w with heap := w.heap.push (.chan 0 #[] false 0 0 false) }, ?_, Up.snoc _ ⟨w.heap.size, 0, 0⟩, ?_, ?_⟩
      · simp [Instr.makeChan, asInt, asIntOf, run_underlying hu, typeInfo, hi]
      · exact R.alloc hR _ _ 0 rfl rfl rfl rfl ⟨#[], 0, 0, by simp, by simp [Vs]⟩
      · simp only [V]
        exact ⟨_, new_V hR _, rfl⟩
    · cases hm
  · cases hm

theorem closeA_run {P : Program} {φ : List Emb} {h h' : Heap} {w0 w : World} (hR : R P φ h w0 w) {i : Nat} {r : AV} (hc : closeA h i = some (r, h')) {x : Value} (hx : V φ (.chan (some i)) x) (ts : Array TypeId) (ty : TypeId) :
    ∃ r' w', (Builtin.close_ ts ty #[x]).run P w = .ok r' w' ∧ R P φ h' w0 w' ∧ V φ r r' := by
  unfold closeA at hc
  split at hc
  · rename_i cap buf hg
    cases hc
    simp only [V] at hx
    obtain ⟨e, he, rfl⟩ := hx
    obtain ⟨e', he', ⟨B, s, rc, h1, h2⟩, hown⟩ := hR.objs _ _ hg
    rw [he] at he'; cases he'
    have hlt := (Array.getElem?_eq_some_iff.1 h1).1
    refine ⟨.tuple #[], { w with heap := w.heap.setIfInBounds e.blk (.chan cap B true s rc false) }, ?_, ?_, by simp only [V]; exact ⟨#[], rfl, by simp [Vs]⟩⟩
    · change (Sem.run P (do
        let .chan room buf closed sent received timer ← getObj e.blk | stuck "close: no channel in this block"
        if closed then runtimePanic (.plain "close of closed channel")
        setObj e.blk (.chan room buf true sent received timer)
        pure (Value.tuple #[])) w) = _
      simp [run_getObj_chan P w h1, run_setObj_chan P w _ h1]
    · refine R.set hR hg rfl he (fun k hk => ?_) (by simp) rfl rfl rfl ⟨B, s, rc, ?_, h2⟩
      · simp [Ne.symm hk]
      · simp [hlt]
  · cases hc
end Go.Am
