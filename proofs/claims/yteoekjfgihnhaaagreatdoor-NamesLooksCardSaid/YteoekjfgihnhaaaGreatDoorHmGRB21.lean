/- Functions without a body: the marks of internal/race, sync/atomic's words, internal/bytealg's looks at strings. -/
import Derived.Test.YteoekjfgihnhaaaGreatDoorHmGRB13
import Derived.Test.YteoekjfgihnhaaaGreatDoorHmGRB12
import Derived.Laws.LoneSync
import Derived.Lib.Bytealg
import Derived.Lib.MakeNoZero
set_option linter.all false
noncomputable section
namespace Go.Am
open Go.RowKit

inductive NK where
  | mark0
  | marked
  | load (k : IntKind)
  | store
  | cas (k : IntKind)
  | add (k : IntKind)
  | loadP
  | storeP
  | noEscape
  | idxStr
  | cntStr
  | cmpStr
  | noZero (t e : TypeId)

def readI (h : Heap) (l : Loc) (k : IntKind) : Option Int :=
  match readA h l 1 with
  | some [.int k' n] => if k' = k then some n else none
  | _ => none
theorem readI_some {h : Heap} {l : Loc} {k : IntKind} {n : Int} (hr : readI h l k = some n) : readA h l 1 = some [.int k n] := by
  unfold readI at hr
  split at hr
  · rename_i k' m hx
    split at hr
    · rename_i hk; cases hr; rw [hx, hk]
    · cases hr
  · cases hr

def idxB (c : UInt8) (l : List UInt8) : Nat → Int := List.rec (motive := fun _ => Nat → Int) (fun _ => -1) (fun b _ ih k => Bool.rec (ih (Nat.succ k)) (Int.ofNat k) (Nat.beq b.toNat c.toNat)) l
theorem toNat_beq (b c : UInt8) : Nat.beq b.toNat c.toNat = (b == c) := by
  rw [beq1]
  by_cases h : b = c
  · subst h; simp
  · rw [show (b == c) = false by simpa using h]
    simp only [decide_eq_false_iff_not]
    exact fun e => h (UInt8.toNat_inj.1 e)
theorem idxB_eq (c : UInt8) : ∀ (l : List UInt8) (k : Nat), idxB c l k = if Lib.indexByte l c = -1 then -1 else Lib.indexByte l c + k
  | [], k => by simp [Lib.indexByte, idxB]
  | b :: l, k => by
    show (Bool.rec (idxB c l (Nat.succ k)) (Int.ofNat k) (Nat.beq b.toNat c.toNat) : Int) = _
    rw [toNat_beq]
    have hge := Lib.indexByte_ge l c
    unfold Lib.indexByte
    cases hb : (b == c) with
    | true => simp
    | false =>
      simp only [Bool.false_eq_true, if_false]
      rw [idxB_eq c l (k + 1)]
      by_cases h1 : Lib.indexByte l c = -1
      · simp [h1]
      · have h2 : ¬ (Lib.indexByte l c + 1 = -1) := by omega
        simp only [h1, if_false, beq_iff_eq, h2]
        omega
def cntB (c : UInt8) (l : List UInt8) : Nat → Nat := List.rec (motive := fun _ => Nat → Nat) (fun k => k) (fun b _ ih k => Bool.rec (ih k) (ih (Nat.succ k)) (Nat.beq b.toNat c.toNat)) l
theorem cntB_eq (c : UInt8) : ∀ (l : List UInt8) (k : Nat), cntB c l k = Lib.countByte l c + k
  | [], k => by simp [Lib.countByte, cntB]
  | b :: l, k => by
    show (Bool.rec (cntB c l k) (cntB c l (Nat.succ k)) (Nat.beq b.toNat c.toNat) : Nat) = _
    rw [toNat_beq]
    unfold Lib.countByte
    rw [List.count_cons]
    cases hb : (b == c) with
    | true => simp only [if_true]; rw [cntB_eq c l]; unfold Lib.countByte; omega
    | false => simp only [Bool.false_eq_true, if_false]; rw [cntB_eq c l]; unfold Lib.countByte; omega
def unkRow (n : Nat) : List AV := List.replicate n .unk

def natA (h : Heap) (k : NK) (args : List AV) : Option CRes :=
  match k, args with
  | .mark0, [] => some (.ret (.tuple []) h)
  | .marked, [.ptr (some _)] => some (.ret (.tuple []) h)
  | .load k, [.ptr (some l)] => (match readI h l k with | some n => some (.ret (.int k n) h) | none => none)
  | .store, [.ptr (some l), .int k n] => (match readA h l 1, writeA h l [.int k n] with | some _, some h' => some (.ret (.tuple []) h') | _, _ => none)
  | .cas k, [.ptr (some l), .int k1 old, .int k2 new] => if k1 = k ∧ k2 = k then
      (match readI h l k, writeA h l [.int k new] with
      | some n, some h' => if n = old then some (.ret (.bool true) h') else some (.ret (.bool false) h)
      | _, _ => none) else none
  | .add k, [.ptr (some l), .int k2 y] => if k2 = k then
      (match readI h l k with
      | some n => (match writeA h l [.int k (k.wrap (n + y))] with | some h' => some (.ret (.int k (k.wrap (n + y))) h') | none => none)
      | none => none) else none
  | .loadP, [.ptr (some l)] => (match readA h l 1 with | some [.ptr p] => some (.ret (.ptr p) h) | _ => none)
  | .storeP, [.ptr (some l), .ptr p] => (match readA h l 1, writeA h l [.ptr p] with | some _, some h' => some (.ret (.tuple []) h') | _, _ => none)
  | .noEscape, [x] => some (.ret x h)
  | .idxStr, [.str s, .int .u8 c] => some (.ret (.int .i64 (idxB c.toNat.toUInt8 s 0)) h)
  | .cntStr, [.str s, .int .u8 c] => some (.ret (.int .i64 (Int.ofNat (cntB c.toNat.toUInt8 s 0))) h)
  | .cmpStr, [.str a, .str b] => some (.ret (.int .i64 (Lib.compareBytes a b)) h)
  | .noZero _ e, [.int .i64 (.ofNat n)] => bif Nat.ble n 281474976710656 && Nat.ble 1 n then some (.ret (.slice (some ⟨h.next, 0⟩) n (.tip 1)) (h.alloc (.cells (unkRow n) (.own (some e))))) else none
  | _, _ => none

def NatOk (P : Program) (f : FuncId) (k : NK) : Prop :=
  ∃ fn, P.funcs[f]? = some fn ∧ (fn.name == "runtime.NumGoroutine") = false ∧ fn.body.isNone = true ∧ Extern.findNext fn = none ∧
    (match k with
    | .mark0 => ∃ m, Extern.find fn = some (fun _ => do mark m; pure Extern.Race.none_)
    | .marked => ∃ m, Extern.find fn = some (Extern.Race.marked m)
    | .load k => Extern.find fn = some (Extern.Atomic.loadT (.int k))
    | .store => Extern.find fn = some Extern.Atomic.storeT
    | .cas k => Extern.find fn = some (Extern.Atomic.casT (.int k))
    | .add k => Extern.find fn = some (Extern.Atomic.update (Op.intArith .add) k true)
    | .loadP => Extern.find fn = some (Extern.Atomic.loadT .ptr)
    | .storeP => Extern.find fn = some Extern.Atomic.storeT
    | .noEscape => Extern.find fn = some Extern.AbiNoEscape.same
    | .idxStr => Extern.find fn = some Extern.BytealgIndexByte.indexByte
    | .cntStr => Extern.find fn = some Extern.BytealgCount.count
    | .cmpStr => Extern.find fn = some Extern.BytealgCompare.compare
    | .noZero t e => P.underlying t = some (.slice e) ∧ ∃ ps, Extern.find fn = some (Extern.BytealgMakeNoZero.makeNoZero ps #[t]))

section
variable {P : Program} {φ : List Emb} {h : Heap} {w0 w : World}

theorem readA_one (hR : R P φ h w0 w) {l : Loc} {k : IntKind} {n : Int} (hr : readA h l 1 = some [.int k n]) : ∃ e, φ[l.id]? = some e ∧ w.cell? ⟨e.blk, e.off + l.off, none⟩ = some (.int k n) := by
  obtain ⟨e, vs, he, hv, hl, hc⟩ := read_cells hR hr
  refine ⟨e, he, ?_⟩
  match vs, hl, hv with
  | [v], _, hv =>
    rw [Vs_cons] at hv
    have h0 := hc 0 v rfl
    have h1 : v = .int k n := by simpa [V] using hv.1
    rw [h1] at h0
    simpa [Addr.add_lit] using h0
theorem writeA_one (hR : R P φ h w0 w) {l : Loc} {v : AV} {h' : Heap} (hw : writeA h l [v] = some h') {v' : Value} (hv : V φ v v') : ∃ e, φ[l.id]? = some e ∧ (w.cell? ⟨e.blk, e.off + l.off, none⟩).isSome = true ∧ w.frozen? ⟨e.blk, e.off + l.off, none⟩ = false ∧ R P φ h' w0 (w.setCell ⟨e.blk, e.off + l.off, none⟩ v') := by
  obtain ⟨e, w', he, _, hR', rfl, h1, h2, _⟩ := write_run (vs := [v']) hR hw (by rw [Vs_cons]; exact ⟨hv, by simp [Vs]⟩)
  refine ⟨e, he, by simpa using h1 0 (by simp), by simpa using h2 0 (by simp), ?_⟩
  simpa [World.setCells] using hR'

theorem natA_ok {f : FuncId} {k : NK} (hk : NatOk P f k) {args : List AV} {r : CRes} (hr : natA h k args = some r) : CallOk P f args h r := by
  obtain ⟨fn, hf, hname, hb, hn, he⟩ := hk
  intro φ w0 w args' hR hV
  rw [if_pos (Array.getElem?_eq_some_iff.1 hf).1]
  right
  unfold natA at hr
  split at hr
  · cases hr
    obtain ⟨m, he⟩ := he
    have ha : args' = #[] := by rw [Vs_nil] at hV; exact Array.ext' (by simpa using hV)
    subst ha
    exact ⟨_, _, run_call_mark0 hf hname hb hn m he w, φ, _, rfl, Up.refl _, hR, undef_V φ⟩
  · cases hr
    obtain ⟨m, he⟩ := he
    simp only [Vs] at hV
    obtain ⟨y, ys, h1, h2, rfl⟩ := hV
    simp only [V] at h2
    obtain ⟨e, _, rfl⟩ := h2
    have ha : args' = #[Value.pointer (some ⟨e.blk, _, none⟩)] := Array.ext' (by simpa using h1)
    subst ha
    exact ⟨_, _, run_call_marked hf hname hb hn m he _ w, φ, _, rfl, Up.refl _, hR, undef_V φ⟩
  · rename_i k l
    split at hr
    · rename_i n hx
      cases hr
      simp only [Vs] at hV
      obtain ⟨y, ys, h1, h2, rfl⟩ := hV
      simp only [V] at h2
      obtain ⟨e, hel, rfl⟩ := h2
      have ha : args' = #[Value.pointer (some ⟨e.blk, e.off + l.off, none⟩)] := Array.ext' (by simpa using h1)
      subst ha
      obtain ⟨e', he', hc⟩ := readA_one hR (readI_some hx)
      rw [hel] at he'; cases he'
      exact ⟨_, _, run_call_load hf hname hb hn k he hc, φ, _, rfl, Up.refl _, hR, by simp [V]⟩
    · cases hr
  · rename_i l k n
    split at hr
    · rename_i x h' hx hw
      cases hr
      simp only [Vs] at hV
      obtain ⟨y, ys, h1, h2, y2, ys2, rfl, h3, rfl⟩ := hV
      simp only [V] at h2 h3
      obtain ⟨e, hel, rfl⟩ := h2
      subst h3
      have ha : args' = #[Value.pointer (some ⟨e.blk, e.off + l.off, none⟩), .int k n] := Array.ext' (by simpa using h1)
      subst ha
      obtain ⟨e', he', hc, hz, hR'⟩ := writeA_one hR hw (v' := .int k n) (by simp [V])
      rw [hel] at he'; cases he'
      obtain ⟨u, hu⟩ := Option.isSome_iff_exists.1 hc
      exact ⟨_, _, run_call_store hf hname hb hn he hu hz, φ, _, rfl, Up.refl _, hR', undef_V φ⟩
    · cases hr
  · rename_i k l k1 old k2 new
    split at hr
    · rename_i hkk
      obtain ⟨rfl, rfl⟩ := hkk
      split at hr
      · rename_i n h' hx hw
        simp only [Vs] at hV
        obtain ⟨y, ys, h1, h2, y2, ys2, rfl, h3, y4, ys4, rfl, h5, rfl⟩ := hV
        simp only [V] at h2 h3 h5
        obtain ⟨e, hel, rfl⟩ := h2
        subst h3 h5
        have ha : args' = #[Value.pointer (some ⟨e.blk, e.off + l.off, none⟩), .int k2 old, .int k2 new] := Array.ext' (by simpa using h1)
        subst ha
        obtain ⟨e', he', hc, hz, hR'⟩ := writeA_one hR hw (v' := .int k2 new) (by simp [V])
        rw [hel] at he'; cases he'
        obtain ⟨e', he', hc2⟩ := readA_one hR (readI_some hx)
        rw [hel] at he'; cases he'
        split at hr
        · rename_i hno
          subst hno
          cases hr
          exact ⟨_, _, run_call_cas_hit hf hname hb hn _ he hc2 hz, φ, _, rfl, Up.refl _, hR', by simp [V]⟩
        · rename_i hno
          cases hr
          exact ⟨_, _, run_call_cas_miss hf hname hb hn _ he hc2 hz hno, φ, _, rfl, Up.refl _, hR, by simp [V]⟩
      · cases hr
    · cases hr
  · rename_i k l k2 y
    split at hr
    · rename_i hkk
      subst hkk
      split at hr
      · rename_i n hx
        split at hr
        · rename_i h' hw
          cases hr
          simp only [Vs] at hV
          obtain ⟨y1, ys, h1, h2, y2, ys2, rfl, h3, rfl⟩ := hV
          simp only [V] at h2 h3
          obtain ⟨e, hel, rfl⟩ := h2
          subst h3
          have ha : args' = #[Value.pointer (some ⟨e.blk, e.off + l.off, none⟩), .int k2 y] := Array.ext' (by simpa using h1)
          subst ha
          obtain ⟨e', he', hc, hz, hR'⟩ := writeA_one hR hw (v' := .int k2 (k2.wrap (n + y))) (by simp [V])
          rw [hel] at he'; cases he'
          obtain ⟨e', he', hc2⟩ := readA_one hR (readI_some hx)
          rw [hel] at he'; cases he'
          exact ⟨_, _, run_call_add hf hname hb hn _ he hc2 hz (by rfl), φ, _, rfl, Up.refl _, hR', by simp [V]⟩
        · cases hr
      · cases hr
    · cases hr
  · rename_i l
    split at hr
    · rename_i p hx
      cases hr
      simp only [Vs] at hV
      obtain ⟨y, ys, h1, h2, rfl⟩ := hV
      simp only [V] at h2
      obtain ⟨e, hel, rfl⟩ := h2
      have ha : args' = #[Value.pointer (some ⟨e.blk, e.off + l.off, none⟩)] := Array.ext' (by simpa using h1)
      subst ha
      obtain ⟨e', vs, he', hv, hl, hc⟩ := read_cells hR hx
      rw [hel] at he'; cases he'
      match vs, hl, hv, hc with
      | [v], _, hv, hc =>
        rw [Vs_cons] at hv
        have h0 : w.cell? ⟨e.blk, e.off + l.off, none⟩ = some v := by simpa [Addr.add_lit] using hc 0 v rfl
        have hvp : ∃ q, v = .pointer q := by
          cases p with
          | none => exact ⟨none, by simpa [V] using hv.1⟩
          | some p => have := hv.1; simp only [V] at this; obtain ⟨_, _, rfl⟩ := this; exact ⟨_, rfl⟩
        obtain ⟨q, rfl⟩ := hvp
        refine ⟨.pointer q, w, ?_, φ, _, rfl, Up.refl _, hR, hv.1⟩
        rw [run_callFunc_extern hf hname hb hn he]
        change (Sem.run P (do Extern.Atomic.read .ptr (← asAddr (.pointer (some ⟨e.blk, e.off + l.off, none⟩)))) w).andThen _ = _
        simp [Extern.Atomic.read, asAddr, h0, Result.andThen]
    · cases hr
  · rename_i l p
    split at hr
    · rename_i x h' hx hw
      cases hr
      simp only [Vs] at hV
      obtain ⟨y, ys, h1, h2, y2, ys2, rfl, h3, rfl⟩ := hV
      have h3' := h3
      have hvp : ∃ q, y2 = .pointer q := by
        cases p with
        | none => exact ⟨none, by simpa [V] using h3⟩
        | some p => simp only [V] at h3; obtain ⟨_, _, rfl⟩ := h3; exact ⟨_, rfl⟩
      obtain ⟨q, rfl⟩ := hvp
      simp only [V] at h2
      obtain ⟨e, hel, rfl⟩ := h2
      have ha : args' = #[Value.pointer (some ⟨e.blk, e.off + l.off, none⟩), .pointer q] := Array.ext' (by simpa using h1)
      subst ha
      obtain ⟨e', he', hc, hz, hR'⟩ := writeA_one hR hw (v' := .pointer q) h3'
      rw [hel] at he'; cases he'
      obtain ⟨u, hu⟩ := Option.isSome_iff_exists.1 hc
      refine ⟨.tuple #[], _, ?_, φ, _, rfl, Up.refl _, hR', undef_V φ⟩
      rw [run_callFunc_extern hf hname hb hn he]
      change (Sem.run P (do
        store (← asAddr (.pointer (some ⟨e.blk, e.off + l.off, none⟩))) (.pointer q) .atomic
        pure Extern.Atomic.none_) w).andThen _ = _
      simp [asAddr, hu, hz, run_store P w _ (.pointer q) .atomic rfl, Result.andThen, Extern.Atomic.none_]
    · cases hr
  · rename_i x
    cases hr
    simp only [Vs] at hV
    obtain ⟨y, ys, h1, h2, rfl⟩ := hV
    have ha : args' = #[y] := Array.ext' (by simpa using h1)
    subst ha
    refine ⟨y, w, ?_, φ, _, rfl, Up.refl _, hR, h2⟩
    rw [run_callFunc_extern hf hname hb hn he, Lib.run_noEscape]
    rfl
  · rename_i s c
    cases hr
    simp only [Vs] at hV
    obtain ⟨y, ys, h1, h2, y2, ys2, rfl, h3, rfl⟩ := hV
    simp only [V] at h2 h3
    subst h2 h3
    have ha : args' = #[Value.string ⟨s.toArray⟩, .int .u8 c] := Array.ext' (by simpa using h1)
    subst ha
    refine ⟨.int .i64 (Lib.indexByte s c.toNat.toUInt8), w, ?_, φ, _, rfl, Up.refl _, hR, ?_⟩
    · rw [run_callFunc_extern hf hname hb hn he, Lib.run_indexByteString]
      rfl
    · simp only [V]
      rw [idxB_eq]
      congr 1
      split
      · rename_i h; exact h
      · simp
  · rename_i s c
    cases hr
    simp only [Vs] at hV
    obtain ⟨y, ys, h1, h2, y2, ys2, rfl, h3, rfl⟩ := hV
    simp only [V] at h2 h3
    subst h2 h3
    have ha : args' = #[Value.string ⟨s.toArray⟩, .int .u8 c] := Array.ext' (by simpa using h1)
    subst ha
    refine ⟨.int .i64 (Lib.countByte s c.toNat.toUInt8 : Nat), w, ?_, φ, _, rfl, Up.refl _, hR, ?_⟩
    · rw [run_callFunc_extern hf hname hb hn he, Lib.run_countString]
      rfl
    · simp only [V]
      rw [cntB_eq]
      rfl
  · rename_i a b
    cases hr
    simp only [Vs] at hV
    obtain ⟨y, ys, h1, h2, y2, ys2, rfl, h3, rfl⟩ := hV
    simp only [V] at h2 h3
    subst h2 h3
    have ha : args' = #[Value.string ⟨a.toArray⟩, .string ⟨b.toArray⟩] := Array.ext' (by simpa using h1)
    subst ha
    refine ⟨.int .i64 (Lib.compareBytes a b), w, ?_, φ, _, rfl, Up.refl _, hR, by simp [V]⟩
    rw [run_callFunc_extern hf hname hb hn he, Lib.run_compareString]
    rfl
  · rename_i t e n
    cases hbb : (Nat.ble n 281474976710656 && Nat.ble 1 n) with
    | false => rw [hbb] at hr; cases hr
    | true =>
      rw [hbb, cond_true] at hr
      cases hr
      rw [Bool.and_eq_true] at hbb
      have b1 := Nat.le_of_ble_eq_true hbb.1
      have b2 := Nat.le_of_ble_eq_true hbb.2
      obtain ⟨ht, ps, he⟩ := he
      simp only [Vs] at hV
      obtain ⟨y, ys, h1, h2, rfl⟩ := hV
      simp only [V] at h2
      subst h2
      have ha : args' = #[Value.int .i64 (n : Int)] := Array.ext' (by simpa using h1)
      subst ha
      obtain ⟨cs, hrun, hle, _⟩ := Lib.run_makeNoZero (P := P) w ps t e ht n b1
      have hRd : R P φ h w0 w.drew.drew := (hR.drew (w' := w.drew) rfl rfl rfl rfl).drew rfl rfl rfl rfl
      refine ⟨.slice (some ⟨w.heap.size, 0, none⟩) n cs.size, _, ?_, _, _, rfl, Up.snoc _ _, alloc_cells hRd (w' := w.drew.drew.alloc (.cells cs e)) (C := cs) (t := e) (k := .own (some e)) (OwnOk.mk e _ _ _) (fun hk => by cases hk) rfl rfl rfl rfl ?_ ?_, ?_⟩
      · rw [run_callFunc_extern hf hname hb hn he, hrun]
        rfl
      · simp [unkRow]; exact hle
      · refine Vs.of_get (by simp [unkRow]; omega) fun i a v ha hv => ?_
        simp only [unkRow, List.getElem?_replicate] at ha
        split at ha
        · cases ha; simp [V]
        · cases ha
      · refine V_slice (up_new hRd _) rfl hle ⟨by omega, ?_⟩ (.inl (by simp))
        simp
  · cases hr

def natOf : List (FuncId × NK) → FuncId → Option NK
  | [], _ => none
  | (g, k) :: r, f => bif Nat.beq f g then some k else natOf r f
def natCall (ns : List (FuncId × NK)) : CallF := fun f args h => match natOf ns f with | some k => natA h k args | none => none
def NatsOk (P : Program) (ns : List (FuncId × NK)) : Prop := ∀ x ∈ ns, NatOk P x.1 x.2
theorem natOf_mem {f : FuncId} {k : NK} : ∀ {ns : List (FuncId × NK)}, natOf ns f = some k → (f, k) ∈ ns
  | [], h => by simp [natOf] at h
  | (g, k') :: r, h => by
    simp only [natOf] at h
    cases hb : Nat.beq f g with
    | true => simp only [hb, cond_true, Option.some.injEq] at h; have := Nat.eq_of_beq_eq_true hb; subst this; subst h; exact List.mem_cons_self
    | false => simp only [hb, cond_false] at h; exact List.mem_cons_of_mem _ (natOf_mem h)
theorem natCall_ok {ns : List (FuncId × NK)} (hn : NatsOk P ns) : CallsOk P (natCall ns) := by
  intro f args h r hr
  unfold natCall at hr
  split at hr
  · rename_i k hk; exact natA_ok (hn _ (natOf_mem hk)) hr
  · cases hr

/-- One that knows, else another. -/
def orCall (c d : CallF) : CallF := fun f a h => match c f a h with | some r => some r | none => d f a h
theorem orCall_ok {c d : CallF} (hc : CallsOk P c) (hd : CallsOk P d) : CallsOk P (orCall c d) := by
  intro f a h r hr
  unfold orCall at hr
  split at hr
  · rename_i r' hx; cases hr; exact hc f a h _ hx
  · exact hd f a h r hr
end
section
variable {P : Program} {f : FuncId} {fn : Func}
theorem natMark0 (m : Mark) (hf : P.funcs[f]? = some fn) (h1 : (fn.name == "runtime.NumGoroutine") = false) (h2 : fn.body.isNone = true) (h3 : Extern.findNext fn = none) (h4 : Extern.find fn = some (fun _ => do mark m; pure Extern.Race.none_)) : NatOk P f .mark0 := ⟨fn, hf, h1, h2, h3, m, h4⟩
theorem natMarked (m : Addr → Mark) (hf : P.funcs[f]? = some fn) (h1 : (fn.name == "runtime.NumGoroutine") = false) (h2 : fn.body.isNone = true) (h3 : Extern.findNext fn = none) (h4 : Extern.find fn = some (Extern.Race.marked m)) : NatOk P f .marked := ⟨fn, hf, h1, h2, h3, m, h4⟩
theorem natLoad {k : IntKind} (hf : P.funcs[f]? = some fn) (h1 : (fn.name == "runtime.NumGoroutine") = false) (h2 : fn.body.isNone = true) (h3 : Extern.findNext fn = none) (h4 : Extern.find fn = some (Extern.Atomic.loadT (.int k))) : NatOk P f (.load k) := ⟨fn, hf, h1, h2, h3, h4⟩
theorem natStore (hf : P.funcs[f]? = some fn) (h1 : (fn.name == "runtime.NumGoroutine") = false) (h2 : fn.body.isNone = true) (h3 : Extern.findNext fn = none) (h4 : Extern.find fn = some Extern.Atomic.storeT) : NatOk P f .store := ⟨fn, hf, h1, h2, h3, h4⟩
theorem natCas {k : IntKind} (hf : P.funcs[f]? = some fn) (h1 : (fn.name == "runtime.NumGoroutine") = false) (h2 : fn.body.isNone = true) (h3 : Extern.findNext fn = none) (h4 : Extern.find fn = some (Extern.Atomic.casT (.int k))) : NatOk P f (.cas k) := ⟨fn, hf, h1, h2, h3, h4⟩
theorem natAdd {k : IntKind} (hf : P.funcs[f]? = some fn) (h1 : (fn.name == "runtime.NumGoroutine") = false) (h2 : fn.body.isNone = true) (h3 : Extern.findNext fn = none) (h4 : Extern.find fn = some (Extern.Atomic.update (Op.intArith .add) k true)) : NatOk P f (.add k) := ⟨fn, hf, h1, h2, h3, h4⟩
end
end Go.Am
