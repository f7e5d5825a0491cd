/- Parts of the proof by the abstract machine: Rest3, Op, Op2, Exec. -/
import Derived.Test.YtnllflgijnloiaaAmGRDBack5
import Derived.Laws.BytesArg
import Derived.Laws.LoneSync
import Derived.Test.YtnllflgijnloiaaAmGRDBack6
namespace Go.Am
open Go.RowKit

/-! ### Conversions -/

def unbyte : AV → Option Int
  | .int .u8 n => some n
  | _ => none
def unbytes : List AV → Option (List Int)
  | [] => some []
  | a :: as => match unbyte a, unbytes as with
    | some n, some ns => some (n :: ns)
    | _, _ => none
theorem unbyte_V {φ : List Emb} {a : AV} {n : Int} (h : unbyte a = some n) {v : Value} (hv : V φ a v) : v = .int .u8 n := by
  unfold unbyte at h
  split at h
  · cases h; simpa [V] using hv
  · cases h
theorem unbytes_V {φ : List Emb} : ∀ {as : List AV} {ns : List Int}, unbytes as = some ns → ∀ {vs : List Value}, Vs φ as vs → vs = ns.map (Value.int .u8)
  | [], ns, h, vs, hv => by simp [unbytes] at h; subst h; simpa [Vs] using hv
  | a :: as, ns, h, vs, hv => by
    simp only [unbytes] at h
    split at h
    · rename_i n ns' h1 h2
      cases h
      simp only [Vs] at hv
      obtain ⟨y, ys, rfl, hy, hys⟩ := hv
      rw [unbyte_V h1 hy, unbytes_V h2 hys]
      rfl
    · cases h

def convertA (P : Program) (h : Heap) (src dst : TypeId) (x : AV) : Option (AV × Heap) :=
  match P.underlying src, P.underlying dst, x with
  | some _, some (.int k), .int _ n => some (.int k (k.wrap n), h)
  | some _, some .string, .str s => some (.str s, h)
  | some _, some (.slice e), .str s =>
    (match P.underlying e with
    | some (.int .u8) => some (.slice (some ⟨h.next, 0⟩) s.length (.tip 1), h.alloc (.cells (s.map byteA) .str))
    | _ => none)
  | some (.slice e), some .string, .slice l n _ =>
    (match P.underlying e, l with
    | some (.int .u8), none => some (.str [], h)
    | some (.int .u8), some l =>
      (match n with
      | 0 => some (.str [], h)
      | n + 1 => (match readA h l (n + 1) with
        | some xs => (match unbytes xs with
          | some ns => some (.str (ns.map fun n => UInt8.ofNat n.toNat), h)
          | none => none)
        | none => none))
    | _, _ => none)
  | some (.pointer t), some .unsafePointer, .ptr (some l) =>
    (match (P.info? t).map (fun i => decide (i.size = 0)), readA h l 1 with
    | some false, some _ => some (.ptr (some l), h)
    | _, _ => none)
  | _, _, _ => none

theorem strOfNums_mk (ns : List Int) : strOfNums ns = ⟨(ns.map fun n => UInt8.ofNat n.toNat).toArray⟩ := rfl

theorem convertA_run {P : Program} {φ : List Emb} {h h' : Heap} {w0 w : World} (hR : R P φ h w0 w) {src dst : TypeId} {x r : AV} (hc : convertA P h src dst x = some (r, h')) {x' : Value} (hx : V φ x x') :
    ∃ r' φ' w', (convert src dst x').run P w = .ok r' w' ∧ Up φ φ' ∧ R P φ' h' w0 w' ∧ V φ' r r' := by
  unfold convertA at hc
  split at hc
  · rename_i d k k' n hs hd
    cases hc
    simp only [V] at hx
    subst hx
    refine ⟨.int k (k.wrap n), φ, w, ?_, Up.refl _, hR, by simp [V]⟩
    simp only [convert, Sem.run_bind, run_underlying hs, run_underlying hd, Result.andThen_ok, Conv.intToInt, Sem.run_pure]
  · rename_i d s hs hd
    cases hc
    simp only [V] at hx
    subst hx
    exact ⟨.string ⟨s.toArray⟩, φ, w, by simp only [convert, Sem.run_bind, run_underlying hs, run_underlying hd, Result.andThen_ok]; cases d <;> rfl, Up.refl _, hR, by simp [V]⟩
  · rename_i d e s hs hd
    split at hc
    · rename_i he
      cases hc
      simp only [V] at hx
      subst hx
      let cap := (Question.appendCap (⟨s.toArray⟩ : ByteArray).size 0 e).cut (w.tape w.drawn (.appendCap (⟨s.toArray⟩ : ByteArray).size 0 e))
      have hcap : s.length ≤ cap := by
        have : cap = s.length + w.tape w.drawn (.appendCap (⟨s.toArray⟩ : ByteArray).size 0 e) % (2 ^ 63 - s.length) := by simp [cap, Question.cut, ByteArray.size]
        omega
      let C : Array Value := (s.toArray.map fun b => Value.int .u8 b.toNat) ++ Array.replicate (cap - s.length) (.int .u8 0)
      have hC : C.size = cap := by simp [C]; omega
      let w' : World := ({ { w with drawn := w.drawn + 1 } with heap := w.heap.push (.cells C e) } : World).freeze ⟨w.heap.size, C.size, none⟩ 1
      have hheap : w'.heap = w.heap.push (.cells C e (C.size, C.size + 1)) := by
        simp only [w', World.freeze]
        rw [if_neg (by omega)]
        simp only
        apply Array.ext
        · simp
        · intro i h1 h2
          rw [Array.getElem_modify]
          by_cases hi : w.heap.size = i
          · subst hi; simp
          · have hlt : i < w.heap.size := by simp at h1; omega
            simp [hi, Array.getElem_push, hlt]
      have hrest : w'.os = w.os ∧ w'.tape = w.tape ∧ w'.output = w.output := by
        simp only [w', World.freeze]
        rw [if_neg (by omega)]
        exact ⟨rfl, rfl, rfl⟩
      have hrun : (convert src dst (.string ⟨s.toArray⟩)).run P w = .ok (.slice (some ⟨w.heap.size, 0, none⟩) s.length cap) w' := by
        have e1 : (convert src dst (.string ⟨s.toArray⟩)).run P w = (Conv.stringToBytes e ⟨s.toArray⟩).run P w := by
          simp only [convert, Sem.run_bind, run_underlying hs, run_underlying hd, Result.andThen_ok]
          cases d <;> simp [run_underlying he]
        rw [e1]
        simp only [Conv.stringToBytes, Sem.run_bind, run_choose, Question.forced, Bool.false_eq_true, if_false, Result.andThen_ok, newRow, run_newObj, Sem.run_pure, markStringish, run_shape, World.shape?]
        simp [w', C, cap, ByteArray.size]
      refine ⟨_, _, w', hrun, Up.snoc _ _, alloc_cells hR (k := .str) (C := C) (fun hk => by cases hk) (fun _ k hk hh => by have := hh.1; simp only at this; omega) hheap hrest.1 hrest.2.1 hrest.2.2 ?_ ?_, ?_⟩
      · simp [hC]; exact hcap
      · have e2 : C.toList.take (s.map byteA).length = s.map fun b => Value.int .u8 b.toNat := by
          simp only [C, Array.toList_append, Array.toList_map, List.length_map]
          rw [List.take_left' (by simp)]
        rw [e2]
        exact bytesA_V s
      · exact V_slice (up_new hR _) rfl hcap ⟨by omega, by simp [hC]⟩ (.inl (by simp))
    · cases hc
  · rename_i e l n c hs hd
    have zero : ∀ l' : Option Addr, ∀ c', (convert src dst (.slice l' 0 c')).run P w = (Conv.bytesToString (.slice l' 0 c')).run P w → ∃ r' φ' w', (convert src dst (.slice l' 0 c')).run P w = .ok r' w' ∧ Up φ φ' ∧ R P φ' h w0 w' ∧ V φ' (.str []) r' := by
      intro l' c' hh
      refine ⟨.string .empty, φ, w, ?_, Up.refl _, hR, by simp only [V]; rfl⟩
      rw [hh]
      cases l' with
      | none => rfl
      | some a => simp [Conv.bytesToString, loadCells, loadCellsFrom]
    split at hc
    · rename_i he
      cases hc
      simp only [V] at hx
      obtain ⟨rfl, rfl, _⟩ := hx
      exact zero none 0 (run_convert_bytes_string w src dst e none 0 0 hs he hd)
    · rename_i l he
      simp only [V] at hx
      obtain ⟨em, cap, a, hem, rfl, hcl, hcap, ha⟩ := hx
      split at hc
      · cases hc
        exact zero (some a) cap (run_convert_bytes_string w src dst e (some a) 0 cap hs he hd)
      · rename_i m
        split at hc
        · rename_i xs hr
          split at hc
          · rename_i ns hns
            cases hc
            have ha' : a = ⟨em.blk, em.off + l.off, none⟩ := ha.resolve_right fun hh => by have := hh.1; omega
            subst ha'
            obtain ⟨e', vs, he', hv, hlen, hcell⟩ := read_cells hR hr
            rw [hem] at he'; cases he'
            have hvs := unbytes_V hns hv
            subst hvs
            have hlen' : ns.length = m + 1 := by simpa using hlen
            have := run_convert_bytes_arg (P := P) w src e hs he em.blk (em.off + l.off) (m + 1) cap ns hlen' (fun i hi => by
              have := hcell i (.int .u8 (ns.getD i 0)) (by simp [List.getD, List.getElem?_eq_getElem (show i < ns.length by omega)])
              rwa [Addr.add_lit] at this) dst hd
            exact ⟨_, φ, w, this, Up.refl _, hR, by simp only [V]; rw [strOfNums_mk]⟩
          · cases hc
        · cases hc
    · cases hc
  · rename_i t l hs hd
    split at hc
    · rename_i xs hsz hr
      cases hc
      have hx2 := hx
      simp only [V] at hx2
      obtain ⟨em, hem, rfl⟩ := hx2
      obtain ⟨e', vs, he', hv, hlen, hcell⟩ := read_cells hR hr
      rw [hem] at he'; cases he'
      match vs, hlen with
      | [v], _ =>
        have hc0 := hcell 0 v rfl
        rw [Addr.add_lit, Nat.add_zero] at hc0
        exact ⟨_, φ, w, run_convert_to_unsafe hs hd hsz hc0, Up.refl _, hR, hx⟩
    · cases hc
  · cases hc

/-! ### Interfaces, functions -/

def makeInterfaceA (P : Program) (t : TypeId) (x : AV) : Option AV :=
  match P.underlying t with
  | some (.interface _) => none
  | some _ => some (.iface t x)
  | none => none
theorem makeInterfaceA_run {P : Program} {φ : List Emb} {w : World} {t : TypeId} {x r : AV} (h : makeInterfaceA P t x = some r) {x' : Value} (hx : V φ x x') : ∃ r', (Instr.makeInterface t x').run P w = .ok r' w ∧ V φ r r' := by
  unfold makeInterfaceA at h
  split at h
  · cases h
  · rename_i d hd hno
    cases h
    refine ⟨.iface t x', ?_, by simp only [V]; exact ⟨x', rfl, hx⟩⟩
    simp only [Instr.makeInterface, Sem.run_bind, run_underlying hno, Result.andThen_ok]
    cases d <;> first | rfl | exact absurd rfl (hd _)
  · cases h

def nilCheckA : AV → Option AV
  | .ptr (some l) => some (.ptr (some l))
  | .func (.func f) a b => some (.func (.func f) a b)
  | .iface t v => some (.iface t v)
  | _ => none

def typeAssertA (P : Program) (x : AV) (asserted : TypeId) (ok : Bool) : Option AV :=
  match P.underlying asserted, x with
  | some (.interface want), .iface t v =>
    (match P.info? t with
    | some i => (match Instr.missingMethod want i.methods with | none => some (if ok then .tuple [.iface t v, .bool true] else .iface t v) | some _ => if ok then (zeroA P asserted).map (fun z => .tuple [z, .bool false]) else none)
    | none => none)
  | some (.interface _), .nilIface => if ok then (zeroA P asserted).map (fun z => .tuple [z, .bool false]) else none
  | some (.interface _), _ => none
  | some _, .iface t v => if t = asserted then some (if ok then .tuple [v, .bool true] else v) else if ok then (zeroA P asserted).map (fun z => .tuple [z, .bool false]) else none
  | some _, .nilIface => if ok then (zeroA P asserted).map (fun z => .tuple [z, .bool false]) else none
  | _, _ => none

theorem typeAssertA_run {P : Program} {φ : List Emb} {w : World} {x r : AV} {xt asserted : TypeId} {ok : Bool} (h : typeAssertA P x asserted ok = some r) {x' : Value} (hx : V φ x x') : ∃ r', (Instr.typeAssert x' xt asserted ok).run P w = .ok r' w ∧ V φ r r' := by
  have fails : ∀ (s d : Option TypeId) (m : String), (if ok then (zeroA P asserted).map (fun z => AV.tuple [z, .bool false]) else none) = some r →
      ∃ r', (if ok then do pure (.tuple #[← zeroValue asserted, .bool false]) else runtimePanic (.typeAssertion s d asserted m) : Sem Value).run P w = .ok r' w ∧ V φ r r' := by
    intro s d m hh
    cases ok with
    | false => cases hh
    | true =>
      simp only [if_true, Option.map_eq_some_iff] at hh
      obtain ⟨z, hz, rfl⟩ := hh
      obtain ⟨z', hz', hv⟩ := run_zeroA hz w
      exact ⟨.tuple #[z', .bool false], by simp [hz'], by simp only [V]; exact ⟨_, rfl, by simp [Vs_cons, Vs_nil, hv, V]⟩⟩
  have holds : ∀ (a : AV) (v : Value), V φ a v → some (if ok then AV.tuple [a, .bool true] else a) = some r → ∃ r', (pure (if ok then .tuple #[v, .bool true] else v) : Sem Value).run P w = .ok r' w ∧ V φ r r' := by
    intro a v hv hh
    cases hh
    cases ok with
    | false => exact ⟨v, rfl, hv⟩
    | true => exact ⟨_, rfl, by simp only [if_true, V]; exact ⟨_, rfl, by simp [Vs_cons, Vs_nil, hv, V]⟩⟩
  unfold typeAssertA at h
  split at h
  · rename_i want t v hu
    simp only [V] at hx
    obtain ⟨y, rfl, hy⟩ := hx
    split at h
    · rename_i i hi
      split at h
      · rename_i hm
        have := holds (.iface t v) (.iface t y) (by simp only [V]; exact ⟨y, rfl, hy⟩) h
        simpa [Instr.typeAssert, run_underlying hu, typeInfo, hi, hm] using this
      · rename_i m hm
        have := fails none (some t) m h
        simpa [Instr.typeAssert, run_underlying hu, typeInfo, hi, hm] using this
    · cases h
  · rename_i hu
    simp only [V] at hx
    subst hx
    have := fails none none "" h
    simpa [Instr.typeAssert, run_underlying hu] using this
  · cases h
  · rename_i d t v hno hu
    simp only [V] at hx
    obtain ⟨y, rfl, hy⟩ := hx
    split at h
    · rename_i ht
      have := holds v y hy h
      cases d <;> first | (exact absurd rfl (hno _)) | simpa [Instr.typeAssert, run_underlying hu, ht] using this
    · rename_i ht
      have := fails (some xt) (some t) "" h
      cases d <;> first | (exact absurd rfl (hno _)) | simpa [Instr.typeAssert, run_underlying hu, ht] using this
  · rename_i d hno hu
    simp only [V] at hx
    subst hx
    have := fails (some xt) none "" h
    cases d <;> first | (exact absurd rfl (hno _)) | simpa [Instr.typeAssert, run_underlying hu] using this
  · cases h

/-! ### Lengths; the greatest, the least -/

def lenA (P : Program) (h : Heap) (t : TypeId) (x : AV) : Option AV :=
  match P.underlying t, x with
  | some .string, .str s => some (.int .i64 s.length)
  | some (.slice _), .slice _ n _ => some (.int .i64 n)
  | some (.array n _), _ => some (.int .i64 n)
  | some (.map _ _), .map none => some (.int .i64 0)
  | some (.map _ _), .map (some i) => (match h.get i with | some (.map es _) => some (.int .i64 es.length) | _ => none)
  | _, _ => none

theorem Entries.length {φ : List Emb} : ∀ {es : List (AV × AV × Nat)} {l : List MapEntry}, Entries φ es l → l.length = es.length
  | [], _, h => by simp [Entries] at h; simp [h]
  | x :: xs, _, h => by
    simp only [Entries] at h
    obtain ⟨y, ys, rfl, _, h⟩ := h
    simp [h.length]

theorem lenA_run {P : Program} {φ : List Emb} {h : Heap} {w0 w : World} (hR : R P φ h w0 w) {t ty : TypeId} {x r : AV} (hl : lenA P h t x = some r) {x' : Value} (hx : V φ x x') : ∃ r', (Builtin.len_ #[t] ty #[x']).run P w = .ok r' w ∧ V φ r r' := by
  unfold lenA at hl
  split at hl
  · rename_i s hu
    cases hl
    simp only [V] at hx; subst hx
    have hsz : (⟨s.toArray⟩ : ByteArray).size = s.length := by simp [ByteArray.size]
    refine ⟨goInt s.length, ?_, by simp [V, goInt]⟩
    simp only [Builtin.len_, List.getElem?_toArray, List.getElem?_cons_zero, Sem.run_bind, run_underlying hu, Result.andThen_ok, hsz, Sem.run_pure]
  · rename_i e l n c hu
    cases hl
    refine ⟨goInt n, ?_, by simp [V, goInt]⟩
    cases l with
    | none => simp only [V] at hx; obtain ⟨rfl, rfl, _⟩ := hx; simp [Builtin.len_, run_underlying hu]
    | some l => simp only [V] at hx; obtain ⟨_, _, _, _, rfl, _⟩ := hx; simp [Builtin.len_, run_underlying hu]
  · rename_i n e hu
    cases hl
    exact ⟨goInt n, by simp [Builtin.len_, run_underlying hu], by simp [V, goInt]⟩
  · rename_i k e hu
    cases hl
    simp only [V] at hx; subst hx
    exact ⟨goInt 0, by simp [Builtin.len_, run_underlying hu], by simp [V, goInt]⟩
  · rename_i k e i hu
    split at hl
    · rename_i es clock hg
      cases hl
      simp only [V] at hx
      obtain ⟨em, he, rfl⟩ := hx
      obtain ⟨e', he', ⟨ES, h1, h2⟩, _⟩ := hR.objs _ _ hg
      rw [he] at he'; cases he'
      have hgo : (getObj em.blk).run P w = .ok (.map ES clock) w := by simp [getObj, Sem.run, h1]
      refine ⟨goInt ES.size, by simp [Builtin.len_, run_underlying hu, hgo], ?_⟩
      simp only [V, goInt]
      rw [← Array.length_toList, h2.length]
    · cases hl
  · cases hl

def maxA : AV → List AV → Option AV
  | a, [] => some a
  | .int k x, .int _ y :: rest => maxA (.int k (if y > x then y else x)) rest
  | _, _ => none
def minA : AV → List AV → Option AV
  | a, [] => some a
  | .int k x, .int _ y :: rest => minA (.int k (if y < x then y else x)) rest
  | _, _ => none

theorem maxA_run {P : Program} {φ : List Emb} {w : World} : ∀ {as : List AV} {a r : AV} {vs : List Value} {v : Value}, maxA a as = some r → V φ a v → Vs φ as vs → ∃ r', (vs.foldlM Builtin.max2 v).run P w = .ok r' w ∧ V φ r r'
  | [], a, r, vs, v, h, ha, hs => by
    simp only [maxA, Option.some.injEq] at h
    subst h
    rw [Vs_nil] at hs; subst hs
    exact ⟨v, rfl, ha⟩
  | b :: as, a, r, vs, v, h, ha, hs => by
    unfold maxA at h
    split at h
    · rename_i heq; cases heq
    · rename_i k x k' y rest heq
      cases heq
      simp only [Vs] at hs
      obtain ⟨u, us, rfl, hu, hus⟩ := hs
      simp only [V] at ha hu
      subst ha hu
      obtain ⟨r', h1, h2⟩ := maxA_run (P := P) (w := w) h (v := .int k (if y > x then y else x)) (by simp [V]) hus
      exact ⟨r', by simp only [List.foldlM_cons, Builtin.max2, Sem.run_bind, Sem.run_pure, Result.andThen_ok]; exact h1, h2⟩
    · cases h
theorem minA_run {P : Program} {φ : List Emb} {w : World} : ∀ {as : List AV} {a r : AV} {vs : List Value} {v : Value}, minA a as = some r → V φ a v → Vs φ as vs → ∃ r', (vs.foldlM Builtin.min2 v).run P w = .ok r' w ∧ V φ r r'
  | [], a, r, vs, v, h, ha, hs => by
    simp only [minA, Option.some.injEq] at h
    subst h
    rw [Vs_nil] at hs; subst hs
    exact ⟨v, rfl, ha⟩
  | b :: as, a, r, vs, v, h, ha, hs => by
    unfold minA at h
    split at h
    · rename_i heq; cases heq
    · rename_i k x k' y rest heq
      cases heq
      simp only [Vs] at hs
      obtain ⟨u, us, rfl, hu, hus⟩ := hs
      simp only [V] at ha hu
      subst ha hu
      obtain ⟨r', h1, h2⟩ := minA_run (P := P) (w := w) h (v := .int k (if y < x then y else x)) (by simp [V]) hus
      exact ⟨r', by simp only [List.foldlM_cons, Builtin.min2, Sem.run_bind, Sem.run_pure, Result.andThen_ok]; exact h1, h2⟩
    · cases h
end Go.Am

namespace Go.Am
open Go.RowKit

inductive CRes where
  | ret (v : AV) (h : Heap)
  | pan (v : AV) (h : Heap)

abbrev CallF := FuncId → List AV → Heap → Option CRes

def evals (P : Program) (env : List AV) (xs : List Operand) : List AV := xs.map (evalA P env)
def evalParts (P : Program) (env : List AV) (xs : List (Nat × Operand)) : List (Nat × AV) := xs.map fun x => (x.1, evalA P env x.2)
def evalO (P : Program) (env : List AV) (x : Option Operand) : Option AV := x.map (evalA P env)

def withH (h : Heap) : Option AV → Option (AV × Heap)
  | some v => some (v, h)
  | none => none

def builtinA (P : Program) (h : Heap) (b : Builtin) (ts : List TypeId) (args : List AV) : Option (AV × Heap) :=
  match b, ts, args with
  | .len, [t], [x] => withH h (lenA P h t x)
  | .append, [t, u], [s, x] => appendA P h t u s x
  | .copy, [t, _], [d, s] => copyA P h t d s
  | .max, _, x :: rest => withH h (maxA x rest)
  | .min, _, x :: rest => withH h (minA x rest)
  | .close, _, [.chan (some i)] => closeA h i
  | _, _, _ => none

/-- The array that a slice's places are. -/
def arrayAtA (P : Program) (arr : TypeId) (x : AV) : Option AV :=
  match P.underlying arr, x with
  | some (.array n _), .slice (some l) (m + 1) _ => bif Nat.ble n (m + 1) then some (.ptr (some l)) else none
  | _, _ => none
theorem arrayAtA_run {P : Program} {φ : List Emb} {w : World} {arr : TypeId} {x r : AV} (h : arrayAtA P arr x = some r) {x' : Value} (hx : V φ x x') : ∃ r', (Instr.arrayAt arr x').run P w = .ok r' w ∧ V φ r r' := by
  unfold arrayAtA at h
  split at h
  · rename_i n e l m c hu
    cases hb : Nat.ble n (m + 1) with
    | false => rw [hb] at h; cases h
    | true =>
      rw [hb, cond_true, Option.some.injEq] at h
      subst h
      have hle := (ble_iff _ _).1 hb
      simp only [V] at hx
      obtain ⟨em, cap, a, he, rfl, _, _, ha⟩ := hx
      have ha : a = ⟨em.blk, em.off + l.off, none⟩ := ha.resolve_right (by omega)
      subst ha
      refine ⟨.pointer (some ⟨em.blk, em.off + l.off, none⟩), ?_, ?_⟩
      · unfold Instr.arrayAt
        simp only [Sem.run_bind, run_underlying hu, Result.andThen_ok]
        rw [if_neg (by omega)]
        rfl
      · simp only [V]; exact ⟨em, he, rfl⟩
  · cases h

/-- An operation that is no call of a Go function. -/
def aop (P : Program) (env : List AV) (h : Heap) (op : Op) : Option (AV × Heap) :=
  match op with
  | .move x | .assign x => some (evalA P env x, h)
  | .pick c a b => (match evalA P env c with | .bool t => some (bif t then evalA P env a else evalA P env b, h) | _ => none)
  | .alloc t => allocA P h t
  | .box _ x => boxA h (evalA P env x)
  | .build t parts => withH h (buildA P t (evalParts P env parts.toList))
  | .buildSlice t len parts => buildSliceA P h t len (evalParts P env parts.toList)
  | .load t a => (match evalA P env a with | .ptr (some l) => withH h (loadA P h t l) | _ => none)
  | .store t a x => (match evalA P env a with | .ptr (some l) => (match storeA P h t l (evalA P env x) with | some h' => some (.tuple [], h') | none => none) | _ => none)
  | .nilCheck x => withH h (nilCheckA (evalA P env x))
  | .binOp op t x y _ => withH h (binA P h op t x y (evalA P env x) (evalA P env y))
  | .unOp op _ x => withH h (unA op (evalA P env x))
  | .convert src dst x => convertA P h src dst (evalA P env x)
  | .sliceToArrayPointer arr x => withH h (arrayAtA P arr (evalA P env x))
  | .makeInterface t x => withH h (makeInterfaceA P t (evalA P env x))
  | .makeFunc fn first captured => some (.func fn (evals P env first.toList) (evals P env captured.toList), h)
  | .makeSlice t l c => makeSliceA P h t (evalA P env l) (evalA P env c)
  | .makeChan t n => makeChanA P h t (evalA P env n)
  | .slice t x lo hi mx => withH h (sliceA P t (evalA P env x) (evalO P env lo) (evalO P env hi) (evalO P env mx))
  | .fieldAddr s x f => withH h (fieldAddrA P s (evalA P env x) f)
  | .field t x f => withH h (fieldA P t (evalA P env x) f)
  | .indexAddr t x i => withH h (indexAddrA P t (evalA P env x) (evalA P env i))
  | .index t x i => withH h (indexA P t (evalA P env x) (evalA P env i))
  | .typeAssert x _ asserted ok => withH h (typeAssertA P (evalA P env x) asserted ok)
  | .extract x i => withH h (extractA (evalA P env x) i)
  | .call c => (match c.callee with | .builtin b => builtinA P h b c.argTypes.toList (evals P env c.args.toList) | _ => none)
  | _ => none

theorem evals_V {P : Program} {φ : List Emb} {env : List AV} {ρ : Operand → Value} (hρ : ∀ x, V φ (evalA P env x) (ρ x)) : ∀ xs : List Operand, Vs φ (evals P env xs) (xs.map ρ)
  | [] => by simp [evals, Vs]
  | x :: xs => by simp only [evals, List.map_cons, Vs_cons]; exact ⟨hρ x, evals_V hρ xs⟩
theorem evalParts_V {P : Program} {φ : List Emb} {env : List AV} {ρ : Operand → Value} (hρ : ∀ x, V φ (evalA P env x) (ρ x)) : ∀ xs : List (Nat × Operand), Parts φ (evalParts P env xs) (xs.map fun (i, x) => (i, ρ x))
  | [] => by simp only [evalParts, List.map_nil]; exact .nil
  | x :: xs => by simp only [evalParts, List.map_cons]; exact .cons (hρ x.2) (evalParts_V hρ xs)
theorem evalO_V {P : Program} {φ : List Emb} {env : List AV} {ρ : Operand → Value} (hρ : ∀ x, V φ (evalA P env x) (ρ x)) (x : Option Operand) : VO φ (evalO P env x) (x.map ρ) := by
  cases x with
  | none => simp [evalO, VO]
  | some x => simp only [evalO, VO, Option.map_some]; exact ⟨_, rfl, hρ x⟩

theorem withH_some {h h' : Heap} {x : Option AV} {v : AV} (e : withH h x = some (v, h')) : x = some v ∧ h' = h := by
  cases x with
  | none => simp [withH] at e
  | some y => simp only [withH, Option.some.injEq, Prod.mk.injEq] at e; exact ⟨by rw [e.1], e.2.symm⟩

/-- No number, no string, no struct. -/
def Plainly (v : Value) : Prop := (∀ k a, v ≠ .int k a) ∧ (∀ k a, v ≠ .float k a) ∧ (∀ k a b, v ≠ .complex k a b) ∧ (∀ a, v ≠ .string a) ∧ (∀ cs, v ≠ .agg cs)

theorem plainly_of {φ : List Emb} {a : AV} {v : Value} (ha : (match a with | .unk | .int _ _ | .str _ | .agg _ => false | _ => true) = true) (hv : V φ a v) : Plainly v := by
  cases a with
  | unk => cases ha
  | int _ _ => cases ha
  | str _ => cases ha
  | agg _ => cases ha
  | ptr l => cases l <;> simp only [V] at hv <;> first | (subst hv; simp [Plainly]; done) | (obtain ⟨_, _, rfl⟩ := hv; simp [Plainly])
  | map l => cases l <;> simp only [V] at hv <;> first | (subst hv; simp [Plainly]; done) | (obtain ⟨_, _, rfl⟩ := hv; simp [Plainly])
  | chan l => cases l <;> simp only [V] at hv <;> first | (subst hv; simp [Plainly]; done) | (obtain ⟨_, _, rfl⟩ := hv; simp [Plainly])
  | slice l n c => cases l <;> simp only [V] at hv <;> first | (obtain ⟨_, rfl, _⟩ := hv; simp [Plainly]; done) | (obtain ⟨_, _, _, _, rfl, _⟩ := hv; simp [Plainly])
  | func fn x y => simp only [V] at hv; obtain ⟨_, _, rfl, _⟩ := hv; simp [Plainly]
  | iface t x => simp only [V] at hv; obtain ⟨_, rfl, _⟩ := hv; simp [Plainly]
  | tuple x => simp only [V] at hv; obtain ⟨_, rfl, _⟩ := hv; simp [Plainly]
  | _ => simp only [V] at hv; subst hv; simp [Plainly]

theorem eqA_shape {P : Program} {φ : List Emb} {h : Heap} {t : TypeId} {x y : AV} {b : Bool} (he : eqA P h t x y = some b) {x' : Value} (hx : V φ x x') : (∃ k a k' b, x = .int k a ∧ y = .int k' b) ∨ (∃ a b, x = .str a ∧ y = .str b) ∨ Plainly x' := by
  cases x with
  | int k a =>
    cases y with
    | int k' b => exact .inl ⟨_, _, _, _, rfl, rfl⟩
    | _ => unfold eqA at he; split at he <;> first | (cases he; done) | simp_all
  | str a =>
    cases y with
    | str b => exact .inr (.inl ⟨_, _, rfl, rfl⟩)
    | _ => unfold eqA at he; split at he <;> first | (cases he; done) | simp_all
  | agg a => unfold eqA at he; split at he <;> first | (cases he; done) | simp_all
  | unk => unfold eqA at he; split at he <;> first | (cases he; done) | simp_all
  | _ => exact .inr (.inr (plainly_of (by rfl) hx))

theorem eqGuard_run {P : Program} {w : World} {op : BinOp} {t : TypeId} {xo yo : Operand} {x y : Value} (h1 : ∀ cs, x ≠ .agg cs) (h2 : x = .nilIface → y = .nilIface → (isConst xo || isConst yo) = true) : (eqGuard op t xo yo x y).run P w = .ok () w := by
  unfold eqGuard
  cases op <;> first
    | rfl
    | (simp only [Bool.not_true, Bool.false_eq_true, if_false]
       split
       · have := h2 rfl rfl
         rw [if_pos (by revert this; cases xo <;> cases yo <;> simp [isConst])]
         rfl
       · exact absurd rfl (h1 _)
       · rfl)

theorem binA_run {P : Program} {φ : List Emb} {h : Heap} {w0 w : World} (hR : R P φ h w0 w) {op : BinOp} {t : TypeId} {xo yo : Operand} {x y r : AV} (hb : binA P h op t xo yo x y = some r) {x' y' : Value} (hx : V φ x x') (hy : V φ y y') :
    ∃ r', (do eqGuard op t xo yo x' y'; binOp op t x' y' : Sem Value).run P w = .ok r' w ∧ V φ r r' := by
  have general : Plainly x' → (x' = .nilIface → y' = .nilIface → (isConst xo || isConst yo) = true) → ∀ b, eqA P h t x y = some b → (op = .eql ∧ r = .bool b ∨ op = .neq ∧ r = .bool !b) →
      ∃ r', (do eqGuard op t xo yo x' y'; binOp op t x' y' : Sem Value).run P w = .ok r' w ∧ V φ r r' := by
    intro hp hg b hb hr
    have heq := eqA_run hR hb hx hy
    have hgr := eqGuard_run (P := P) (w := w) (op := op) (t := t) hp.2.2.2.2 hg
    obtain ⟨h1, h2, h3, h4, h5⟩ := hp
    rcases hr with ⟨rfl, rfl⟩ | ⟨rfl, rfl⟩
    · refine ⟨.bool b, ?_, by simp [V]⟩
      simp only [Sem.run_bind, hgr, Result.andThen_ok]
      cases x' <;> first | (exact absurd rfl (h1 _ _)) | (exact absurd rfl (h2 _ _)) | (exact absurd rfl (h3 _ _ _)) | (exact absurd rfl (h4 _)) | (simp [binOp, heq])
    · refine ⟨.bool !b, ?_, by simp [V]⟩
      simp only [Sem.run_bind, hgr, Result.andThen_ok]
      cases x' <;> first | (exact absurd rfl (h1 _ _)) | (exact absurd rfl (h2 _ _)) | (exact absurd rfl (h3 _ _ _)) | (exact absurd rfl (h4 _)) | (simp [binOp, heq])
  unfold binA at hb
  split at hb
  · rename_i k a k' b
    simp only [V] at hx hy
    subst hx hy
    have hgr := eqGuard_run (P := P) (w := w) (op := op) (t := t) (xo := xo) (yo := yo) (x := .int k a) (y := .int k' b) (by simp) (by simp)
    simp only [Sem.run_bind, hgr, Result.andThen_ok]
    split at hb
    · obtain ⟨v, h1, h2⟩ := shiftA_run (P := P) (w := w) (k' := k') hb t; exact ⟨v, h1, h2 φ⟩
    · obtain ⟨v, h1, h2⟩ := shiftA_run (P := P) (w := w) (k' := k') hb t; exact ⟨v, h1, h2 φ⟩
    · rename_i hn1 hn2
      split at hb
      · rename_i hk
        subst hk
        obtain ⟨v, h1, h2⟩ := intA_run (P := P) (w := w) hb t (fun h => hn1 h) (fun h => hn2 h); exact ⟨v, h1, h2 φ⟩
      · cases hb
  · rename_i a b
    simp only [V] at hx hy
    subst hx hy
    have hgr := eqGuard_run (P := P) (w := w) (op := op) (t := t) (xo := xo) (yo := yo) (x := .string ⟨a.toArray⟩) (y := .string ⟨b.toArray⟩) (by simp) (by simp)
    simp only [Sem.run_bind, hgr, Result.andThen_ok]
    obtain ⟨v, h1, h2⟩ := strA_run (P := P) (w := w) hb t
    exact ⟨v, h1, h2 φ⟩
  · split at hb
    · rename_i hconst
      have hp : Plainly x' := by simp only [V] at hx; subst hx; simp [Plainly]
      split at hb
      · simp only [Option.map_eq_some_iff] at hb
        obtain ⟨b, hb, rfl⟩ := hb
        exact general hp (fun _ _ => hconst) b hb (.inl ⟨rfl, rfl⟩)
      · simp only [Option.map_eq_some_iff] at hb
        obtain ⟨b, hb, rfl⟩ := hb
        exact general hp (fun _ _ => hconst) b hb (.inr ⟨rfl, rfl⟩)
      · cases hb
    · cases hb
  · rename_i xs ys
    simp only [V] at hx hy
    obtain ⟨X, rfl, hX⟩ := hx
    obtain ⟨Y, rfl, hY⟩ := hy
    have agg : ∀ b, eqAggA P t xs ys = some b → (op = .eql ∧ r = .bool b ∨ op = .neq ∧ r = .bool !b) → ∃ r', (do eqGuard op t xo yo (.agg X) (.agg Y); binOp op t (.agg X) (.agg Y) : Sem Value).run P w = .ok r' w ∧ V φ r r' := by
      intro b hb hr
      obtain ⟨hg, he⟩ := eqAggA_run (w := w) hb hX hY
      rcases hr with ⟨rfl, rfl⟩ | ⟨rfl, rfl⟩
      · refine ⟨.bool b, ?_, by simp [V]⟩
        simp only [Sem.run_bind, eqGuard, run_program, Result.andThen_ok, hg, Bool.not_false, if_true, Bool.not_true, Bool.false_eq_true, if_false, Sem.run_pure, run_eql_struct, he]
      · refine ⟨.bool !b, ?_, by simp [V]⟩
        simp only [Sem.run_bind, eqGuard, run_program, Result.andThen_ok, hg, Bool.not_false, if_true, Bool.not_true, Bool.false_eq_true, if_false, Sem.run_pure, run_neq_struct, he]
    split at hb
    · simp only [Option.map_eq_some_iff] at hb
      obtain ⟨b, hb, rfl⟩ := hb
      exact agg b hb (.inl ⟨rfl, rfl⟩)
    · simp only [Option.map_eq_some_iff] at hb
      obtain ⟨b, hb, rfl⟩ := hb
      exact agg b hb (.inr ⟨rfl, rfl⟩)
    · cases hb
  · cases hb
  · rename_i hn1 hn2 hn3 hn4 hn5
    have fin : ∀ b, eqA P h t x y = some b → Plainly x' ∧ (x' = .nilIface → y' = .nilIface → (isConst xo || isConst yo) = true) := by
      intro b hb
      rcases eqA_shape hb hx with ⟨k, a, k', b', rfl, rfl⟩ | ⟨a, b', rfl, rfl⟩ | hp
      · exact (hn2 _ _ _ _ rfl rfl).elim
      · exact (hn3 _ _ rfl rfl).elim
      · refine ⟨hp, fun e1 e2 => ?_⟩
        subst e1 e2
        unfold eqA at hb
        split at hb
        case h_7 => exact (hn4 rfl rfl).elim
        case h_17 => cases hb
        all_goals first | (simp [V] at hx; done) | (simp [V] at hy; done)
    split at hb
    · simp only [Option.map_eq_some_iff] at hb
      obtain ⟨b, hb, rfl⟩ := hb
      exact general (fin b hb).1 (fin b hb).2 b hb (.inl ⟨rfl, rfl⟩)
    · simp only [Option.map_eq_some_iff] at hb
      obtain ⟨b, hb, rfl⟩ := hb
      exact general (fin b hb).1 (fin b hb).2 b hb (.inr ⟨rfl, rfl⟩)
    · cases hb
end Go.Am

namespace Go.Am
open Go.RowKit

def Done (P : Program) (φ : List Emb) (w0 : World) (v : AV) (h' : Heap) (s : Sem Next) (w : World) : Prop :=
  ∃ nx φ' w', s.run P w = .ok nx w' ∧ (∃ v', (nx = .value v' ∨ (nx = .skip ∧ v' = undef)) ∧ V φ' v v') ∧ Up φ φ' ∧ R P φ' h' w0 w'

theorem Done.val {P : Program} {φ φ' : List Emb} {w0 w w' : World} {v : AV} {h' : Heap} {s : Sem Value} {v' : Value} (h : s.run P w = .ok v' w') (hu : Up φ φ') (hR : R P φ' h' w0 w') (hv : V φ' v v') : Done P φ w0 v h' (do pure (.value (← s))) w :=
  ⟨.value v', φ', w', by simp [h], ⟨v', .inl rfl, hv⟩, hu, hR⟩
theorem Done.quiet {P : Program} {φ : List Emb} {w0 w : World} {v : AV} {h : Heap} {s : Sem Value} {v' : Value} (hR : R P φ h w0 w) (hs : s.run P w = .ok v' w) (hv : V φ v v') : Done P φ w0 v h (do pure (.value (← s))) w :=
  Done.val hs (Up.refl _) hR hv

theorem builtinA_run {P : Program} {φ : List Emb} {h h' : Heap} {w0 w : World} (hR : R P φ h w0 w) {b : Builtin} {ts : Array TypeId} {ty : TypeId} {cs : Array Bool} {args : List AV} {r : AV} (hb : builtinA P h b ts.toList args = some (r, h')) {vs : Array Value} (hv : Vs φ args vs.toList) :
    Done P φ w0 r h' (builtin b ts ty cs vs) w := by
  obtain ⟨ts⟩ := ts
  obtain ⟨vs⟩ := vs
  simp only at hb hv
  unfold builtinA at hb
  split at hb
  · rename_i t x
    obtain ⟨h1, rfl⟩ := withH_some hb
    simp only [Vs] at hv
    obtain ⟨y, ys, rfl, hy, rfl⟩ := hv
    obtain ⟨r', h2, h3⟩ := lenA_run (ty := ty) hR h1 hy
    exact Done.quiet hR h2 h3
  · rename_i t u s x
    simp only [Vs] at hv
    obtain ⟨y, ys, rfl, hy, z, zs, rfl, hz, rfl⟩ := hv
    obtain ⟨r', φ', w', h1, h2, h3, h4⟩ := appendA_run (ty := ty) hR hb hy hz
    exact Done.val h1 h2 h3 h4
  · rename_i t u d s
    simp only [Vs] at hv
    obtain ⟨y, ys, rfl, hy, z, zs, rfl, hz, rfl⟩ := hv
    obtain ⟨r', w', h1, h2, h3⟩ := copyA_run (sT := u) (ty := ty) hR hb hy hz
    exact Done.val h1 (Up.refl _) h2 h3
  · rename_i x rest
    obtain ⟨h1, rfl⟩ := withH_some hb
    simp only [Vs] at hv
    obtain ⟨y, ys, rfl, hy, hys⟩ := hv
    obtain ⟨r', h2, h3⟩ := maxA_run (P := P) (w := w) h1 hy hys
    exact Done.quiet hR (s := Builtin.max_ ⟨ts⟩ ty ⟨y :: ys⟩) h2 h3
  · rename_i x rest
    obtain ⟨h1, rfl⟩ := withH_some hb
    simp only [Vs] at hv
    obtain ⟨y, ys, rfl, hy, hys⟩ := hv
    obtain ⟨r', h2, h3⟩ := minA_run (P := P) (w := w) h1 hy hys
    exact Done.quiet hR (s := Builtin.min_ ⟨ts⟩ ty ⟨y :: ys⟩) h2 h3
  · rename_i i
    simp only [Vs] at hv
    obtain ⟨y, ys, rfl, hy, rfl⟩ := hv
    obtain ⟨r', w', h1, h2, h3⟩ := closeA_run hR hb hy ⟨ts⟩ ty
    exact Done.val h1 (Up.refl _) h2 h3
  · cases hb

theorem unA_run {P : Program} {φ : List Emb} {w : World} {op : UnOp} {x r : AV} (h : unA op x = some r) {x' : Value} (hx : V φ x x') : ∃ r', (Op.unary op x').run P w = .ok r' w ∧ V φ r r' := by
  unfold unA at h
  split at h
  · cases h; simp only [V] at hx; subst hx; exact ⟨_, rfl, by simp [V]⟩
  · cases h; simp only [V] at hx; subst hx; exact ⟨_, rfl, by simp [V]⟩
  · cases h; simp only [V] at hx; subst hx; exact ⟨_, rfl, by simp [V]⟩
  · cases h

theorem execOp_bi (ρ : Operand → Value) (dst : Option Tmp) (b : Builtin) (xs : Array Operand) (ats : Array TypeId) (ty : TypeId) (pos : String) (after : Array Edge) (guard : Option (Nat × Bool)) :
    execOp ρ ⟨dst, .call ⟨.builtin b, xs, ats⟩, ty, pos, after, guard⟩ = builtin b ats ty (xs.map fun | .const _ => true | _ => false) (xs.map ρ) := rfl

theorem aop_run {P : Program} {φ : List Emb} {h h' : Heap} {w0 w : World} (hR : R P φ h w0 w) {env : List AV} {ρ : Operand → Value} (hρ : ∀ x, V φ (evalA P env x) (ρ x)) {o : Oper} {r : AV} (ho : aop P env h o.op = some (r, h')) :
    Done P φ w0 r h' (execOp ρ o) w := by
  obtain ⟨dst, op, type, pos, after, guard⟩ := o
  simp only at ho
  cases op <;> simp only [aop] at ho <;> try (cases ho; done)
  case move x =>
    simp only [Option.some.injEq, Prod.mk.injEq] at ho
    obtain ⟨rfl, rfl⟩ := ho
    exact ⟨.value (ρ x), φ, w, rfl, ⟨_, .inl rfl, hρ x⟩, Up.refl _, hR⟩
  case assign x =>
    simp only [Option.some.injEq, Prod.mk.injEq] at ho
    obtain ⟨rfl, rfl⟩ := ho
    exact ⟨.value (ρ x), φ, w, rfl, ⟨_, .inl rfl, hρ x⟩, Up.refl _, hR⟩
  case pick c a b =>
    split at ho
    · rename_i t ht
      simp only [Option.some.injEq, Prod.mk.injEq] at ho
      obtain ⟨rfl, rfl⟩ := ho
      have hc := hρ c
      rw [ht] at hc
      simp only [V] at hc
      refine ⟨.value (if t then ρ a else ρ b), φ, w, by simp [execOp, hc, asBool], ⟨_, .inl rfl, ?_⟩, Up.refl _, hR⟩
      cases t
      · exact hρ b
      · exact hρ a
    · cases ho
  case alloc t =>
    obtain ⟨r', φ', w', h1, h2, h3, h4⟩ := allocA_run hR ho
    exact Done.val h1 h2 h3 h4
  case box t x =>
    obtain ⟨r', φ', w', h1, h2, h3, h4⟩ := boxA_run (t := t) hR ho (hρ x)
    exact Done.val h1 h2 h3 h4
  case build t parts =>
    obtain ⟨h1, rfl⟩ := withH_some ho
    have hp := evalParts_V hρ parts.toList
    obtain ⟨r', h2, h3⟩ := buildA_run (w := w) (qs := parts.map fun (i, x) => (i, ρ x)) h1 (by simpa using hp)
    exact Done.quiet hR h2 h3
  case buildSlice t len parts =>
    have hp := evalParts_V hρ parts.toList
    obtain ⟨r', φ', w', h1, h2, h3, h4⟩ := buildSliceA_run (qs := parts.map fun (i, x) => (i, ρ x)) hR ho (by simpa using hp)
    exact Done.val h1 h2 h3 h4
  case load t a =>
    split at ho
    · rename_i l hl
      obtain ⟨h1, rfl⟩ := withH_some ho
      have ha := hρ a
      rw [hl] at ha
      obtain ⟨r', h2, h3⟩ := loadA_run hR h1 ha
      exact Done.quiet hR h2 h3
    · cases ho
  case store t a x =>
    split at ho
    · rename_i l hl
      split at ho
      · rename_i h2 hs
        simp only [Option.some.injEq, Prod.mk.injEq] at ho
        obtain ⟨rfl, rfl⟩ := ho
        have ha := hρ a
        rw [hl] at ha
        obtain ⟨w', h3, h4⟩ := storeA_run hR hs ha (hρ x)
        exact ⟨.skip, φ, w', by simp [execOp, h3], ⟨undef, .inr ⟨rfl, rfl⟩, by simp only [V]; exact ⟨#[], rfl, by simp [Vs]⟩⟩, Up.refl _, h4⟩
      · cases ho
    · cases ho
  case nilCheck x =>
    obtain ⟨h1, rfl⟩ := withH_some ho
    have hx := hρ x
    unfold nilCheckA at h1
    split at h1
    · rename_i l hl
      cases h1
      rw [hl] at hx
      have hx2 := hx
      simp only [V] at hx2
      obtain ⟨e, _, hv⟩ := hx2
      exact ⟨.value (ρ x), φ, w, by simp only [execOp, hv, Sem.run_pure], ⟨_, .inl rfl, hx⟩, Up.refl _, hR⟩
    · rename_i f a b hl
      cases h1
      rw [hl] at hx
      have hx2 := hx
      simp only [V] at hx2
      obtain ⟨y, z, hv, _⟩ := hx2
      exact ⟨.value (ρ x), φ, w, by simp only [execOp, hv, Sem.run_pure], ⟨_, .inl rfl, hx⟩, Up.refl _, hR⟩
    · rename_i t v hl
      cases h1
      rw [hl] at hx
      have hx2 := hx
      simp only [V] at hx2
      obtain ⟨y, hv, _⟩ := hx2
      exact ⟨.value (ρ x), φ, w, by simp only [execOp, hv, Sem.run_pure], ⟨_, .inl rfl, hx⟩, Up.refl _, hR⟩
    · cases h1
  case binOp op t x y yt =>
    obtain ⟨h1, rfl⟩ := withH_some ho
    obtain ⟨r', h2, h3⟩ := binA_run hR h1 (hρ x) (hρ y)
    exact Done.quiet hR h2 h3
  case unOp op t x =>
    obtain ⟨h1, rfl⟩ := withH_some ho
    obtain ⟨r', h2, h3⟩ := unA_run (P := P) (w := w) h1 (hρ x)
    exact Done.quiet hR h2 h3
  case convert src dst x =>
    obtain ⟨r', φ', w', h1, h2, h3, h4⟩ := convertA_run hR ho (hρ x)
    exact Done.val h1 h2 h3 h4
  case sliceToArrayPointer arr x =>
    obtain ⟨h1, rfl⟩ := withH_some ho
    obtain ⟨r', h2, h3⟩ := arrayAtA_run (w := w) h1 (hρ x)
    exact Done.quiet hR h2 h3
  case makeInterface t x =>
    obtain ⟨h1, rfl⟩ := withH_some ho
    obtain ⟨r', h2, h3⟩ := makeInterfaceA_run (w := w) h1 (hρ x)
    exact Done.quiet hR h2 h3
  case makeFunc fn first captured =>
    simp only [Option.some.injEq, Prod.mk.injEq] at ho
    obtain ⟨rfl, rfl⟩ := ho
    refine Done.quiet hR (v' := .func fn (first.map ρ) (captured.map ρ)) rfl ?_
    simp only [V]
    exact ⟨_, _, rfl, by simpa using evals_V hρ first.toList, by simpa using evals_V hρ captured.toList⟩
  case makeSlice t l c =>
    obtain ⟨r', φ', w', h1, h2, h3, h4⟩ := makeSliceA_run hR ho (hρ l) (hρ c)
    exact Done.val h1 h2 h3 h4
  case makeChan t n =>
    obtain ⟨r', φ', w', h1, h2, h3, h4⟩ := makeChanA_run hR ho (hρ n)
    exact Done.val h1 h2 h3 h4
  case slice t x lo hi mx =>
    obtain ⟨h1, rfl⟩ := withH_some ho
    obtain ⟨r', h2, h3⟩ := sliceA_run (w := w) h1 (hρ x) (evalO_V hρ lo) (evalO_V hρ hi) (evalO_V hρ mx)
    exact Done.quiet hR h2 h3
  case fieldAddr s x f =>
    obtain ⟨h1, rfl⟩ := withH_some ho
    obtain ⟨r', h2, h3⟩ := fieldAddrA_run (w := w) h1 (hρ x)
    exact Done.quiet hR h2 h3
  case field t x f =>
    obtain ⟨h1, rfl⟩ := withH_some ho
    obtain ⟨r', h2, h3⟩ := fieldA_run (w := w) h1 (hρ x)
    exact Done.quiet hR h2 h3
  case indexAddr t x i =>
    obtain ⟨h1, rfl⟩ := withH_some ho
    obtain ⟨r', h2, h3⟩ := indexAddrA_run (w := w) h1 (hρ x) (hρ i)
    exact Done.quiet hR h2 h3
  case index t x i =>
    obtain ⟨h1, rfl⟩ := withH_some ho
    obtain ⟨r', h2, h3⟩ := indexA_run (w := w) h1 (hρ x) (hρ i)
    exact Done.quiet hR h2 h3
  case typeAssert x xt asserted ok =>
    obtain ⟨h1, rfl⟩ := withH_some ho
    obtain ⟨r', h2, h3⟩ := typeAssertA_run (w := w) (xt := xt) h1 (hρ x)
    exact Done.quiet hR h2 h3
  case extract x i =>
    obtain ⟨h1, rfl⟩ := withH_some ho
    obtain ⟨r', h2, h3⟩ := extractA_run (P := P) (w := w) h1 (hρ x)
    exact Done.quiet hR h2 h3
  case call c =>
    obtain ⟨callee, args, argTypes⟩ := c
    cases callee with
    | builtin b =>
      simp only at ho
      have hv := evals_V hρ args.toList
      rw [execOp_bi]
      exact builtinA_run hR ho (by simpa using hv)
    | value f => cases ho
    | invoke r m => cases ho
end Go.Am

namespace Go.Am
open Go.RowKit

inductive Out where
  | normal
  | exit (id : Nat)
  | ret
  | pan (v : AV)

/-- Every function with a body is entered by a call. -/
def Fns (P : Program) : Prop := ∀ (f : Nat) (fn : Func), P.funcs[f]? = some fn → fn.body.isSome = true → (fn.name == "runtime.NumGoroutine") = false

def methodA (P : Program) (t : TypeId) (name : String) : Option FuncId :=
  match P.info? t with
  | none => none
  | some i =>
    match i.methods.find? (·.name == name) with
    | none => none
    | some m =>
      match m.path.isEmpty, m.func, P.underlying t with
      | true, some (f, true), some (.pointer _) => some f
      | true, some (_, false), some (.pointer _) => none
      | true, some (f, false), some _ => some f
      | _, _, _ => none

def callA (call : CallF) (P : Program) (h : Heap) (f : FuncId) (args : List AV) : Option CRes := have _ := P; call f args h

def toRet : Option (AV × Heap) → Option CRes
  | some (v, h) => some (.ret v h)
  | none => none

def panA (h : Heap) (x : AV) : Option CRes :=
  match x with
  | .iface t v => some (.pan (.iface t v) h)
  | _ => none

def biA (P : Program) (h : Heap) (b : Builtin) (ts : List TypeId) (args : List AV) : Option CRes :=
  match b, args with
  | .panic, [x] => panA h x
  | _, args => toRet (builtinA P h b ts args)

def opA (call : CallF) (P : Program) (env : List AV) (h : Heap) (op : Op) : Option CRes :=
  match op with
  | .call c =>
    (match c.callee with
    | .builtin b => biA P h b c.argTypes.toList (evals P env c.args.toList)
    | .value f => (match evalA P env f with
      | .func (.func g) first captured => callA call P h g ((first ++ evals P env c.args.toList) ++ captured)
      | _ => none)
    | .invoke recv name => (match evalA P env recv with
      | .iface t v => (match methodA P t name with
        | some g => callA call P h g (v :: evals P env c.args.toList)
        | none => none)
      | _ => none))
  | .panic x => panA h (evalA P env x)
  | op => toRet (aop P env h op)

def PostC (P : Program) (φ : List Emb) (w0 : World) : CRes → Ending → World → Prop
  | .ret v h', e, w' => ∃ φ' v', e = .returned v' ∧ Up φ φ' ∧ R P φ' h' w0 w' ∧ V φ' v v'
  | .pan v h', e, w' => ∃ φ' v', e = .panicked [{ v := v', recovered := false }] ∧ Up φ φ' ∧ R P φ' h' w0 w' ∧ V φ' v v'

/-- A call, whether it enters a body or not. -/
def Goes (P : Program) (f : FuncId) (args : Array Value) (w : World) (Post : Ending → World → Prop) : Prop :=
  ((callFunc f args).run P w = .ok (.enter f args) w ∧ Calls P f args w Post) ∨ ∃ v w', (callFunc f args).run P w = .ok (.value v) w' ∧ Post (.returned v) w'
theorem Goes.mono {P : Program} {f : FuncId} {args : Array Value} {w : World} {R R' : Ending → World → Prop} (h : Goes P f args w R) (hr : ∀ e w', R e w' → R' e w') : Goes P f args w R' := by
  rcases h with ⟨h1, h2⟩ | ⟨v, w', h1, h2⟩
  · exact .inl ⟨h1, h2.mono hr⟩
  · exact .inr ⟨v, w', h1, hr _ _ h2⟩
def CallOk (P : Program) (f : FuncId) (args : List AV) (h : Heap) (r : CRes) : Prop :=
  ∀ φ w0 w (args' : Array Value), R P φ h w0 w → Vs φ args args'.toList → Goes P f args' w (PostC P φ w0 r)

def CallsOk (P : Program) (call : CallF) : Prop := ∀ f args h r, call f args h = some r → CallOk P f args h r

def OpPost (P : Program) (φ : List Emb) (w0 : World) (dst : Option Tmp) (a : Act) (K : Act → World → Prop) (Q : Exit → Act → World → Prop) : CRes → Prop
  | .ret v h' => ∀ φ' w' v', Up φ φ' → R P φ' h' w0 w' → V φ' v v' → K (a.put dst v') w'
  | .pan v h' => ∀ φ' w' v', Up φ φ' → R P φ' h' w0 w' → V φ' v v' → Q (.panic [{ v := v', recovered := false }]) a w'

theorem execOp_value (ρ : Operand → Value) (dst : Option Tmp) (f : Operand) (xs : Array Operand) (ats : Array TypeId) (ty : TypeId) (pos : String) (after : Array Edge) (guard : Option (Nat × Bool)) :
    execOp ρ ⟨dst, .call ⟨.value f, xs, ats⟩, ty, pos, after, guard⟩ = (do let d ← Deferred.ofValue (ρ f) (xs.map ρ); invoke d.target d.args) := rfl
theorem execOp_invoke (ρ : Operand → Value) (dst : Option Tmp) (r : Operand) (name : String) (xs : Array Operand) (ats : Array TypeId) (ty : TypeId) (pos : String) (after : Array Edge) (guard : Option (Nat × Bool)) :
    execOp ρ ⟨dst, .call ⟨.invoke r name, xs, ats⟩, ty, pos, after, guard⟩ = invoke (.fn (.method name) #[]) (#[ρ r] ++ xs.map ρ) := rfl
theorem execOp_panic (ρ : Operand → Value) (dst : Option Tmp) (x : Operand) (ty : TypeId) (pos : String) (after : Array Edge) (guard : Option (Nat × Bool)) :
    execOp ρ ⟨dst, .panic x, ty, pos, after, guard⟩ = (do pure (.value (← Instr.panic (ρ x)))) := rfl

theorem callFunc_run {P : Program} (hF : Fns P) {f : FuncId} {fn : Func} {c : Code} (hf : P.funcs[f]? = some fn) (hb : fn.body = some c) (args : Array Value) (w : World) : (callFunc f args).run P w = .ok (.enter f args) w := by
  have h1 := hF f fn hf (by rw [hb]; rfl)
  unfold callFunc
  simp only [Sem.run_bind, run_program, Result.andThen_ok, hf]
  rw [if_neg (by rw [h1]; simp), if_neg (by rw [hb]; simp)]
  rfl

theorem methodA_run {P : Program} {t : TypeId} {name : String} {f : FuncId} (h : methodA P t name = some f) (v : Value) (w : World) (n : Nat) : (method (n + 1) t v name).run P w = .ok (f, v) w := by
  unfold methodA at h
  split at h
  · cases h
  · rename_i i hi
    split at h
    · cases h
    · rename_i m hm
      have hpath : m.path.isEmpty = true → m.path.toList = [] := by
        intro hp; simpa using hp
      split at h
      · rename_i hp hf hu
        cases h
        simp only [method, Sem.run_bind, typeInfo, run_program, Result.andThen_ok, hi, Sem.run_pure, hm, hpath hp, follow, hf, receiverAt, run_underlying hu, Place.get]
      · cases h
      · rename_i d hno hp hf hu
        cases h
        simp only [method, Sem.run_bind, typeInfo, run_program, Result.andThen_ok, hi, Sem.run_pure, hm, hpath hp, follow, hf, receiverAt, run_underlying hu, Place.get]
      · cases h

theorem wp_enter {P : Program} {o : Oper} {a : Act} {w : World} {K : Act → World → Prop} {Q : Exit → Act → World → Prop} {f : FuncId} {args : Array Value} (hrun : (execOp a.eval o).run P w = .ok (.enter f args) w) {φ : List Emb} {w0 : World} {r : CRes}
    (hc : Calls P f args w (PostC P φ w0 r)) (hp : OpPost P φ w0 o.dst a K Q r) : o.wp P a w K Q := by
  unfold Oper.wp
  rw [hrun, Oper.upon_enter]
  refine hc.mono ?_
  intro e w' h
  cases r with
  | ret v h' =>
    obtain ⟨φ', v', rfl, hu, hR, hv⟩ := h
    exact hp φ' w' v' hu hR hv
  | pan v h' =>
    obtain ⟨φ', v', rfl, hu, hR, hv⟩ := h
    exact hp φ' w' v' hu hR hv

theorem wp_goes {P : Program} {o : Oper} {a : Act} {w : World} {K : Act → World → Prop} {Q : Exit → Act → World → Prop} {f : FuncId} {args : Array Value} (hrun : (execOp a.eval o).run P w = (callFunc f args).run P w) {φ : List Emb} {w0 : World} {r : CRes}
    (hc : Goes P f args w (PostC P φ w0 r)) (hp : OpPost P φ w0 o.dst a K Q r) : o.wp P a w K Q := by
  rcases hc with ⟨h1, h2⟩ | ⟨v, w', h1, h2⟩
  · exact wp_enter (hrun.trans h1) h2 hp
  · unfold Oper.wp
    rw [hrun, h1, Oper.upon_value]
    cases r with
    | ret v' h' =>
      obtain ⟨φ', v'', he, hu, hR, hv⟩ := h2
      cases he
      exact hp φ' w' v hu hR hv
    | pan v' h' =>
      obtain ⟨φ', v'', he, hu, hR, hv⟩ := h2
      cases he

theorem wp_done {P : Program} {o : Oper} {a : Act} {w : World} {K : Act → World → Prop} {Q : Exit → Act → World → Prop} {φ : List Emb} {w0 : World} {v : AV} {h' : Heap} (hd : Done P φ w0 v h' (execOp a.eval o) w) (hp : OpPost P φ w0 o.dst a K Q (.ret v h')) : o.wp P a w K Q := by
  obtain ⟨nx, φ', w', hrun, ⟨v', hnx, hv⟩, hu, hR⟩ := hd
  unfold Oper.wp
  rw [hrun]
  rcases hnx with rfl | ⟨rfl, rfl⟩
  · exact hp φ' w' v' hu hR hv
  · exact hp φ' w' undef hu hR hv

theorem wp_panics {P : Program} {o : Oper} {a : Act} {w : World} {K : Act → World → Prop} {Q : Exit → Act → World → Prop} {φ : List Emb} {h : Heap} {w0 : World} (hR : R P φ h w0 w) {x : AV} {x' : Value} (hx : V φ x x') {r : CRes} (hr : panA h x = some r)
    (hrun : execOp a.eval o = (do pure (.value (← Instr.panic x')))) (hp : OpPost P φ w0 o.dst a K Q r) : o.wp P a w K Q := by
  unfold panA at hr
  split at hr
  · rename_i t v
    cases hr
    have hx2 := hx
    simp only [V] at hx2
    obtain ⟨y, rfl, _⟩ := hx2
    unfold Oper.wp
    rw [hrun]
    simp only [Sem.run_bind, Instr.panic, run_goPanic, Result.andThen_halt, Oper.upon_panic]
    exact hp φ w _ (Up.refl _) hR hx
  · cases hr

theorem toRet_some {x : Option (AV × Heap)} {r : CRes} (h : toRet x = some r) : ∃ v h', x = some (v, h') ∧ r = .ret v h' := by
  cases x with
  | none => simp [toRet] at h
  | some y => obtain ⟨v, h'⟩ := y; simp only [toRet, Option.some.injEq] at h; exact ⟨v, h', rfl, h.symm⟩

theorem arr_head {α : Type} (x : α) (B : Array α) : (#[x] ++ B)[0]? = some x := by
  rw [Array.getElem?_append_left (by simp)]; rfl
theorem arr_rest {α : Type} (x : α) (B : Array α) : (#[x] ++ B).extract 1 (#[x] ++ B).size = B := by
  obtain ⟨l⟩ := B
  simp

theorem opA_wp {P : Program} (_hF : Fns P) {call : CallF} (hcall : CallsOk P call) {φ : List Emb} {h : Heap} {w0 w : World} (hR : R P φ h w0 w) {env : List AV} {a : Act} (hρ : ∀ x, V φ (evalA P env x) (a.eval x)) {o : Oper} {r : CRes} (ho : opA call P env h o.op = some r)
    {K : Act → World → Prop} {Q : Exit → Act → World → Prop} (hp : OpPost P φ w0 o.dst a K Q r) : o.wp P a w K Q := by
  have plain : ∀ v h', aop P env h o.op = some (v, h') → r = .ret v h' → o.wp P a w K Q := by
    intro v h' h1 hr
    subst hr
    exact wp_done (aop_run hR hρ h1) hp
  obtain ⟨dst, op, type, pos, after, guard⟩ := o
  simp only at ho plain
  unfold opA at ho
  split at ho
  · rename_i c
    obtain ⟨callee, args, argTypes⟩ := c
    cases callee with
    | builtin b =>
      simp only [biA] at ho
      split at ho
      · rename_i x hx
        have hv := evals_V hρ args.toList
        rw [hx] at hv
        simp only [Vs] at hv
        obtain ⟨y, ys, hys, hy, rfl⟩ := hv
        refine wp_panics hR hy ho ?_ hp
        rw [execOp_bi]
        have hm : args.map a.eval = #[y] := by
          apply Array.ext'
          simpa using hys
        simp only [builtin, hm]
        rfl
      · obtain ⟨v, h', h1, h2⟩ := toRet_some ho
        refine plain v h' ?_ h2
        simpa [aop] using h1
    | value f =>
      simp only at ho
      split at ho
      · rename_i g first captured hf
        have hc : call g _ h = some r := ho
        have hfv := hρ f
        rw [hf] at hfv
        simp only [V] at hfv
        obtain ⟨x, y, hxy, hx, hy⟩ := hfv
        have hv := evals_V hρ args.toList
        have hall : Vs φ ((first ++ evals P env args.toList) ++ captured) ((x ++ args.map a.eval) ++ y).toList := by
          simp only [Array.toList_append, Array.toList_map]
          exact (hx.append hv).append hy
        refine wp_goes ?_ (hcall g _ h r hc φ w0 w _ hR hall) hp
        rw [execOp_value, hxy]
        simp only [Deferred.ofValue, Sem.run_bind, Sem.run_pure, Result.andThen_ok, invoke]
      · cases ho
    | invoke recv name =>
      simp only at ho
      split at ho
      · rename_i t v hrv
        split at ho
        · rename_i g hg
          have hc : call g _ h = some r := ho
          have hfv := hρ recv
          rw [hrv] at hfv
          simp only [V] at hfv
          obtain ⟨y, hy1, hy⟩ := hfv
          have hv := evals_V hρ args.toList
          have hall : Vs φ (v :: evals P env args.toList) (#[y] ++ args.map a.eval).toList := by
            simp only [Array.toList_append, Array.toList_map, List.singleton_append, Vs_cons]
            exact ⟨hy, hv⟩
          refine wp_goes ?_ (hcall g _ h r hc φ w0 w _ hR hall) hp
          rw [execOp_invoke, hy1]
          have hdep : 0 < Made.depth := by decide
          obtain ⟨n, hn⟩ : ∃ n, P.types.size + Made.depth = n + 1 := ⟨P.types.size + Made.depth - 1, by omega⟩
          have hm := methodA_run hg y w n
          rw [← hn] at hm
          have hx : (#[Value.iface t y] ++ args.map a.eval)[0]? = some (.iface t y) := arr_head _ _
          have hex : (#[Value.iface t y] ++ args.map a.eval).extract 1 (#[Value.iface t y] ++ args.map a.eval).size = args.map a.eval := arr_rest _ _
          simp only [invoke, hx, hex, callMethod, Sem.run_bind, run_program, Result.andThen_ok, hm]
        · cases ho
      · cases ho
  · rename_i x
    exact wp_panics hR (hρ x) ho (execOp_panic _ _ _ _ _ _ _) hp
  · obtain ⟨v, h', h1, h2⟩ := toRet_some ho
    exact plain v h' h1 h2
end Go.Am
