/- The dns seat's concrete run. -/
import Derived.Test.YtnllflgijnloiaaAmDBegin
namespace Go.Am
open Go.RowKit Go.Proofs

def labelsOf : List AV → Option (List (List UInt8))
  | [] => some []
  | .str s :: r => match labelsOf r with | some ls => some (s :: ls) | none => none
  | _ => none
theorem labelsOf_some : ∀ {xs : List AV} {ls : List (List UInt8)}, labelsOf xs = some ls → xs = strs ls
  | [], ls, h => by simp only [labelsOf, Option.some.injEq] at h; subst h; rfl
  | x :: r, ls, h => by
    cases x <;> simp only [labelsOf] at h <;> first | (cases h; done) | skip
    split at h
    · rename_i ls' h1
      cases h
      rw [labelsOf_some h1]; rfl
    · cases h
def capB (n : Nat) : Cap → Bool
  | .exact m => Nat.ble n m
  | .tip e => Nat.beq e 1
  | .dim => true
/-- The labels that a list in memory shows. -/
def readL (h : Heap) : AV → Option (List (List UInt8))
  | .slice (some l) n c =>
    (match h.get l.id with
    | some (.cells cs _) => bif capB n c && Nat.ble (l.off + n) cs.length then labelsOf ((cs.drop l.off).take n) else none
    | _ => none)
  | _ => none
theorem readL_sl {h : Heap} {v : AV} {ls : List (List UInt8)} (hr : readL h v = some ls) : Sl h v (strs ls) := by
  unfold readL at hr
  split at hr
  · rename_i l n c
    split at hr
    · rename_i cs k hg
      cases hc : (capB n c && Nat.ble (l.off + n) cs.length) with
      | false => rw [hc] at hr; cases hr
      | true =>
        rw [hc, cond_true] at hr
        rw [Bool.and_eq_true] at hc
        have h2 := (ble_iff _ _).1 hc.2
        have h3 := labelsOf_some hr
        have hlen : ((cs.drop l.off).take n).length = n := by simp; omega
        refine ⟨⟨by rw [← h3, hlen], ?_⟩, .inr ⟨cs, k, hg, h2, h3⟩⟩
        have h1 := hc.1
        cases c with
        | exact m => exact (ble_iff _ _).1 h1
        | tip e => exact Nat.eq_of_beq_eq_true h1
        | dim => trivial
    · cases hr
  · cases hr
def namedB (ls : List (List UInt8)) : Bool := ls.all (fun l => Nat.ble 1 l.length && Nat.ble l.length 63) && Nat.ble (nameLen ls) 255
theorem namedB_ok {ls : List (List UInt8)} (h : namedB ls = true) : Named ls := by
  simp only [namedB, Bool.and_eq_true, List.all_eq_true] at h
  exact ⟨fun l hl => ⟨(ble_iff _ _).1 (h.1 l hl).1, (ble_iff _ _).1 (h.1 l hl).2⟩, (ble_iff _ _).1 h.2⟩
def in16 (x : Int) : Bool := decide (0 ≤ x) && decide (x < 65536)
theorem in16_ok {x : Int} (h : in16 x = true) : u16In x := by simpa [in16, u16In] using h
def ovBegin : CallF := fun f args h => bif Nat.beq f 15 then
  (match args with
  | [.agg [.int .u16 id, .int .i64 op, .bool w, lv, .int .u16 ty, .int .u16 cl], .int .i64 fl, .int .i64 ans] =>
    (match readL h lv with
    | some ls => bif in16 id && in16 ty && in16 cl && in16 fl && decide (0 ≤ op) && decide (op ≤ 15) && namedB ls then
        some (.ret (.slice (some ⟨h.next, 0⟩) (Qu.bytes ⟨id, op, w, ls, ty, cl⟩ fl ans).length (.tip 1)) (h.alloc (.cells (bytesA (Qu.bytes ⟨id, op, w, ls, ty, cl⟩ fl ans)) .own)))
      else none
    | none => none)
  | _ => none) else none
theorem wf_R {P : Program} {φ : List Emb} {h : Heap} {w0 w : World} (hR : R P φ h w0 w) : Wf h := fun _ _ hi => hR.lt hi
theorem ovBegin_ok : CallsOk Try.prog ovBegin := by
  intro f args h r hr
  unfold ovBegin at hr
  cases hf : Nat.beq f 15 with
  | false => rw [hf] at hr; cases hr
  | true =>
    rw [hf, cond_true] at hr
    have := Nat.eq_of_beq_eq_true hf
    subst this
    split at hr
    · rename_i id op w lv ty cl fl ans
      split at hr
      · rename_i ls hl
        cases hc : (in16 id && in16 ty && in16 cl && in16 fl && decide (0 ≤ op) && decide (op ≤ 15) && namedB ls) with
        | false => rw [hc] at hr; cases hr
        | true =>
          rw [hc, cond_true] at hr
          cases hr
          simp only [Bool.and_eq_true, decide_eq_true_eq] at hc
          obtain ⟨⟨⟨⟨⟨⟨c1, c2⟩, c3⟩, c4⟩, c5⟩, c6⟩, c7⟩ := hc
          intro φ w0 w' args' hR hV
          exact begin_ok (q := ⟨id, op, w, ls, ty, cl⟩) (wf_R hR) ⟨in16_ok c1, ⟨c5, c6⟩, namedB_ok c7, in16_ok c2, in16_ok c3⟩ (readL_sl hl) (in16_ok c4) φ w0 w' args' hR hV
      · cases hr
    · cases hr
theorem alive_run : isTrue (callX (drawA Try.prog) (fun f => Nat.beq f 25) ovBegin Try.prog 100 20 5 [] (heap0 Try.prog)) = true := by kernel_rfl
theorem alive_ok : CallsOk Try.prog (ovTrue 5) := ovTrue_okX fns_ok mixed_ok ovBegin_ok alive_run
end Go.Am
