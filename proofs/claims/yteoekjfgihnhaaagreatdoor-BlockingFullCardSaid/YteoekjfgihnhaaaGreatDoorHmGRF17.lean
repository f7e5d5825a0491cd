/- Parts of the proof by the abstract machine: NatB, Grow, ExS, ExR, ExD, ExF, ExG, ExL, ExC, ExW, ExM. -/
import Derived.Test.YteoekjfgihnhaaaGreatDoorHmGRF13
import Derived.Test.YteoekjfgihnhaaaGreatDoorHmGRF12
import Derived.Laws.LoneSync
import Derived.Lib.Bytealg
import Derived.Lib.MakeNoZero
import Derived.Test.YteoekjfgihnhaaaGreatDoorHmGRF14
set_option linter.all false
noncomputable section
namespace Go.Am
open Go.RowKit

inductive NK where
  | mark0
  | marked
  | load (k : IntKind)
  | store
  | cas (k : IntKind)
  | add (k : IntKind)
  | loadP
  | storeP
  | noEscape
  | idxStr
  | cntStr
  | cmpStr
  | noZero (t e : TypeId)

def readI (h : Heap) (l : Loc) (k : IntKind) : Option Int :=
  match readA h l 1 with
  | some [.int k' n] => if k' = k then some n else none
  | _ => none
theorem readI_some {h : Heap} {l : Loc} {k : IntKind} {n : Int} (hr : readI h l k = some n) : readA h l 1 = some [.int k n] := by
  unfold readI at hr
  split at hr
  · rename_i k' m hx
    split at hr
    · rename_i hk; cases hr; rw [hx, hk]
    · cases hr
  · cases hr

def idxB (c : UInt8) (l : List UInt8) : Nat → Int := List.rec (motive := fun _ => Nat → Int) (fun _ => -1) (fun b _ ih k => Bool.rec (ih (Nat.succ k)) (Int.ofNat k) (Nat.beq b.toNat c.toNat)) l
theorem toNat_beq (b c : UInt8) : Nat.beq b.toNat c.toNat = (b == c) := by
  rw [beq1]
  by_cases h : b = c
  · subst h; simp
  · rw [show (b == c) = false by simpa using h]
    simp only [decide_eq_false_iff_not]
    exact fun e => h (UInt8.toNat_inj.1 e)
theorem idxB_eq (c : UInt8) : ∀ (l : List UInt8) (k : Nat), idxB c l k = if Lib.indexByte l c = -1 then -1 else Lib.indexByte l c + k
  | [], k => by simp [Lib.indexByte, idxB]
  | b :: l, k => by
    show (Bool.rec (idxB c l (Nat.succ k)) (Int.ofNat k) (Nat.beq b.toNat c.toNat) : Int) = _
    rw [toNat_beq]
    have hge := Lib.indexByte_ge l c
    unfold Lib.indexByte
    cases hb : (b == c) with
    | true => simp
    | false =>
      simp only [Bool.false_eq_true, if_false]
      rw [idxB_eq c l (k + 1)]
      by_cases h1 : Lib.indexByte l c = -1
      · simp [h1]
      · have h2 : ¬ (Lib.indexByte l c + 1 = -1) := by omega
        simp only [h1, if_false, beq_iff_eq, h2]
        omega
def cntB (c : UInt8) (l : List UInt8) : Nat → Nat := List.rec (motive := fun _ => Nat → Nat) (fun k => k) (fun b _ ih k => Bool.rec (ih k) (ih (Nat.succ k)) (Nat.beq b.toNat c.toNat)) l
theorem cntB_eq (c : UInt8) : ∀ (l : List UInt8) (k : Nat), cntB c l k = Lib.countByte l c + k
  | [], k => by simp [Lib.countByte, cntB]
  | b :: l, k => by
    show (Bool.rec (cntB c l k) (cntB c l (Nat.succ k)) (Nat.beq b.toNat c.toNat) : Nat) = _
    rw [toNat_beq]
    unfold Lib.countByte
    rw [List.count_cons]
    cases hb : (b == c) with
    | true => simp only [if_true]; rw [cntB_eq c l]; unfold Lib.countByte; omega
    | false => simp only [Bool.false_eq_true, if_false]; rw [cntB_eq c l]; unfold Lib.countByte; omega
def unkRow (n : Nat) : List AV := List.replicate n .unk

def natA (h : Heap) (k : NK) (args : List AV) : Option CRes :=
  match k, args with
  | .mark0, [] => some (.ret (.tuple []) h)
  | .marked, [.ptr (some _)] => some (.ret (.tuple []) h)
  | .load k, [.ptr (some l)] => (match readI h l k with | some n => some (.ret (.int k n) h) | none => none)
  | .store, [.ptr (some l), .int k n] => (match readA h l 1, writeA h l [.int k n] with | some _, some h' => some (.ret (.tuple []) h') | _, _ => none)
  | .cas k, [.ptr (some l), .int k1 old, .int k2 new] => if k1 = k ∧ k2 = k then
      (match readI h l k, writeA h l [.int k new] with
      | some n, some h' => if n = old then some (.ret (.bool true) h') else some (.ret (.bool false) h)
      | _, _ => none) else none
  | .add k, [.ptr (some l), .int k2 y] => if k2 = k then
      (match readI h l k with
      | some n => (match writeA h l [.int k (k.wrap (n + y))] with | some h' => some (.ret (.int k (k.wrap (n + y))) h') | none => none)
      | none => none) else none
  | .loadP, [.ptr (some l)] => (match readA h l 1 with | some [.ptr p] => some (.ret (.ptr p) h) | _ => none)
  | .storeP, [.ptr (some l), .ptr p] => (match readA h l 1, writeA h l [.ptr p] with | some _, some h' => some (.ret (.tuple []) h') | _, _ => none)
  | .noEscape, [x] => some (.ret x h)
  | .idxStr, [.str s, .int .u8 c] => some (.ret (.int .i64 (idxB c.toNat.toUInt8 s 0)) h)
  | .cntStr, [.str s, .int .u8 c] => some (.ret (.int .i64 (Int.ofNat (cntB c.toNat.toUInt8 s 0))) h)
  | .cmpStr, [.str a, .str b] => some (.ret (.int .i64 (Lib.compareBytes a b)) h)
  | .noZero _ e, [.int .i64 (.ofNat n)] => bif Nat.ble n 281474976710656 && Nat.ble 1 n then some (.ret (.slice (some ⟨h.next, 0⟩) n (.tip 1)) (h.alloc (.cells (unkRow n) (.own (some e))))) else none
  | _, _ => none

def NatOk (P : Program) (f : FuncId) (k : NK) : Prop :=
  ∃ fn, P.funcs[f]? = some fn ∧ (fn.name == "runtime.NumGoroutine") = false ∧ fn.body.isNone = true ∧ Extern.findNext fn = none ∧
    (match k with
    | .mark0 => ∃ m, Extern.find fn = some (fun _ => do mark m; pure Extern.Race.none_)
    | .marked => ∃ m, Extern.find fn = some (Extern.Race.marked m)
    | .load k => Extern.find fn = some (Extern.Atomic.loadT (.int k))
    | .store => Extern.find fn = some Extern.Atomic.storeT
    | .cas k => Extern.find fn = some (Extern.Atomic.casT (.int k))
    | .add k => Extern.find fn = some (Extern.Atomic.update (Op.intArith .add) k true)
    | .loadP => Extern.find fn = some (Extern.Atomic.loadT .ptr)
    | .storeP => Extern.find fn = some Extern.Atomic.storeT
    | .noEscape => Extern.find fn = some Extern.AbiNoEscape.same
    | .idxStr => Extern.find fn = some Extern.BytealgIndexByte.indexByte
    | .cntStr => Extern.find fn = some Extern.BytealgCount.count
    | .cmpStr => Extern.find fn = some Extern.BytealgCompare.compare
    | .noZero t e => P.underlying t = some (.slice e) ∧ ∃ ps, Extern.find fn = some (Extern.BytealgMakeNoZero.makeNoZero ps #[t]))

section
variable {P : Program} {φ : List Emb} {h : Heap} {w0 w : World}

theorem readA_one (hR : R P φ h w0 w) {l : Loc} {k : IntKind} {n : Int} (hr : readA h l 1 = some [.int k n]) : ∃ e, φ[l.id]? = some e ∧ w.cell? ⟨e.blk, e.off + l.off, none⟩ = some (.int k n) := by
  obtain ⟨e, vs, he, hv, hl, hc⟩ := read_cells hR hr
  refine ⟨e, he, ?_⟩
  match vs, hl, hv with
  | [v], _, hv =>
    rw [Vs_cons] at hv
    have h0 := hc 0 v rfl
    have h1 : v = .int k n := by simpa [V] using hv.1
    rw [h1] at h0
    simpa [Addr.add_lit] using h0
theorem writeA_one (hR : R P φ h w0 w) {l : Loc} {v : AV} {h' : Heap} (hw : writeA h l [v] = some h') {v' : Value} (hv : V φ v v') : ∃ e, φ[l.id]? = some e ∧ (w.cell? ⟨e.blk, e.off + l.off, none⟩).isSome = true ∧ w.frozen? ⟨e.blk, e.off + l.off, none⟩ = false ∧ R P φ h' w0 (w.setCell ⟨e.blk, e.off + l.off, none⟩ v') := by
  obtain ⟨e, w', he, _, hR', rfl, h1, h2, _⟩ := write_run (vs := [v']) hR hw (by rw [Vs_cons]; exact ⟨hv, by simp [Vs]⟩)
  refine ⟨e, he, by simpa using h1 0 (by simp), by simpa using h2 0 (by simp), ?_⟩
  simpa [World.setCells] using hR'

theorem natA_ok {f : FuncId} {k : NK} (hk : NatOk P f k) {args : List AV} {r : CRes} (hr : natA h k args = some r) : CallOk P f args h r := by
  obtain ⟨fn, hf, hname, hb, hn, he⟩ := hk
  intro φ w0 w args' hR hV
  rw [if_pos (Array.getElem?_eq_some_iff.1 hf).1]
  right
  unfold natA at hr
  split at hr
  · cases hr
    obtain ⟨m, he⟩ := he
    have ha : args' = #[] := by rw [Vs_nil] at hV; exact Array.ext' (by simpa using hV)
    subst ha
    exact ⟨_, _, run_call_mark0 hf hname hb hn m he w, φ, _, rfl, Up.refl _, hR, undef_V φ⟩
  · cases hr
    obtain ⟨m, he⟩ := he
    simp only [Vs] at hV
    obtain ⟨y, ys, h1, h2, rfl⟩ := hV
    simp only [V] at h2
    obtain ⟨e, _, rfl⟩ := h2
    have ha : args' = #[Value.pointer (some ⟨e.blk, _, none⟩)] := Array.ext' (by simpa using h1)
    subst ha
    exact ⟨_, _, run_call_marked hf hname hb hn m he _ w, φ, _, rfl, Up.refl _, hR, undef_V φ⟩
  · rename_i k l
    split at hr
    · rename_i n hx
      cases hr
      simp only [Vs] at hV
      obtain ⟨y, ys, h1, h2, rfl⟩ := hV
      simp only [V] at h2
      obtain ⟨e, hel, rfl⟩ := h2
      have ha : args' = #[Value.pointer (some ⟨e.blk, e.off + l.off, none⟩)] := Array.ext' (by simpa using h1)
      subst ha
      obtain ⟨e', he', hc⟩ := readA_one hR (readI_some hx)
      rw [hel] at he'; cases he'
      exact ⟨_, _, run_call_load hf hname hb hn k he hc, φ, _, rfl, Up.refl _, hR, by simp [V]⟩
    · cases hr
  · rename_i l k n
    split at hr
    · rename_i x h' hx hw
      cases hr
      simp only [Vs] at hV
      obtain ⟨y, ys, h1, h2, y2, ys2, rfl, h3, rfl⟩ := hV
      simp only [V] at h2 h3
      obtain ⟨e, hel, rfl⟩ := h2
      subst h3
      have ha : args' = #[Value.pointer (some ⟨e.blk, e.off + l.off, none⟩), .int k n] := Array.ext' (by simpa using h1)
      subst ha
      obtain ⟨e', he', hc, hz, hR'⟩ := writeA_one hR hw (v' := .int k n) (by simp [V])
      rw [hel] at he'; cases he'
      obtain ⟨u, hu⟩ := Option.isSome_iff_exists.1 hc
      exact ⟨_, _, run_call_store hf hname hb hn he hu hz, φ, _, rfl, Up.refl _, hR', undef_V φ⟩
    · cases hr
  · rename_i k l k1 old k2 new
    split at hr
    · rename_i hkk
      obtain ⟨rfl, rfl⟩ := hkk
      split at hr
      · rename_i n h' hx hw
        simp only [Vs] at hV
        obtain ⟨y, ys, h1, h2, y2, ys2, rfl, h3, y4, ys4, rfl, h5, rfl⟩ := hV
        simp only [V] at h2 h3 h5
        obtain ⟨e, hel, rfl⟩ := h2
        subst h3 h5
        have ha : args' = #[Value.pointer (some ⟨e.blk, e.off + l.off, none⟩), .int k2 old, .int k2 new] := Array.ext' (by simpa using h1)
        subst ha
        obtain ⟨e', he', hc, hz, hR'⟩ := writeA_one hR hw (v' := .int k2 new) (by simp [V])
        rw [hel] at he'; cases he'
        obtain ⟨e', he', hc2⟩ := readA_one hR (readI_some hx)
        rw [hel] at he'; cases he'
        split at hr
        · rename_i hno
          subst hno
          cases hr
          exact ⟨_, _, run_call_cas_hit hf hname hb hn _ he hc2 hz, φ, _, rfl, Up.refl _, hR', by simp [V]⟩
        · rename_i hno
          cases hr
          exact ⟨_, _, run_call_cas_miss hf hname hb hn _ he hc2 hz hno, φ, _, rfl, Up.refl _, hR, by simp [V]⟩
      · cases hr
    · cases hr
  · rename_i k l k2 y
    split at hr
    · rename_i hkk
      subst hkk
      split at hr
      · rename_i n hx
        split at hr
        · rename_i h' hw
          cases hr
          simp only [Vs] at hV
          obtain ⟨y1, ys, h1, h2, y2, ys2, rfl, h3, rfl⟩ := hV
          simp only [V] at h2 h3
          obtain ⟨e, hel, rfl⟩ := h2
          subst h3
          have ha : args' = #[Value.pointer (some ⟨e.blk, e.off + l.off, none⟩), .int k2 y] := Array.ext' (by simpa using h1)
          subst ha
          obtain ⟨e', he', hc, hz, hR'⟩ := writeA_one hR hw (v' := .int k2 (k2.wrap (n + y))) (by simp [V])
          rw [hel] at he'; cases he'
          obtain ⟨e', he', hc2⟩ := readA_one hR (readI_some hx)
          rw [hel] at he'; cases he'
          exact ⟨_, _, run_call_add hf hname hb hn _ he hc2 hz (by rfl), φ, _, rfl, Up.refl _, hR', by simp [V]⟩
        · cases hr
      · cases hr
    · cases hr
  · rename_i l
    split at hr
    · rename_i p hx
      cases hr
      simp only [Vs] at hV
      obtain ⟨y, ys, h1, h2, rfl⟩ := hV
      simp only [V] at h2
      obtain ⟨e, hel, rfl⟩ := h2
      have ha : args' = #[Value.pointer (some ⟨e.blk, e.off + l.off, none⟩)] := Array.ext' (by simpa using h1)
      subst ha
      obtain ⟨e', vs, he', hv, hl, hc⟩ := read_cells hR hx
      rw [hel] at he'; cases he'
      match vs, hl, hv, hc with
      | [v], _, hv, hc =>
        rw [Vs_cons] at hv
        have h0 : w.cell? ⟨e.blk, e.off + l.off, none⟩ = some v := by simpa [Addr.add_lit] using hc 0 v rfl
        have hvp : ∃ q, v = .pointer q := by
          cases p with
          | none => exact ⟨none, by simpa [V] using hv.1⟩
          | some p => have := hv.1; simp only [V] at this; obtain ⟨_, _, rfl⟩ := this; exact ⟨_, rfl⟩
        obtain ⟨q, rfl⟩ := hvp
        refine ⟨.pointer q, w, ?_, φ, _, rfl, Up.refl _, hR, hv.1⟩
        rw [run_callFunc_extern hf hname hb hn he]
        change (Sem.run P (do Extern.Atomic.read .ptr (← asAddr (.pointer (some ⟨e.blk, e.off + l.off, none⟩)))) w).andThen _ = _
        simp [Extern.Atomic.read, asAddr, h0, Result.andThen]
    · cases hr
  · rename_i l p
    split at hr
    · rename_i x h' hx hw
      cases hr
      simp only [Vs] at hV
      obtain ⟨y, ys, h1, h2, y2, ys2, rfl, h3, rfl⟩ := hV
      have h3' := h3
      have hvp : ∃ q, y2 = .pointer q := by
        cases p with
        | none => exact ⟨none, by simpa [V] using h3⟩
        | some p => simp only [V] at h3; obtain ⟨_, _, rfl⟩ := h3; exact ⟨_, rfl⟩
      obtain ⟨q, rfl⟩ := hvp
      simp only [V] at h2
      obtain ⟨e, hel, rfl⟩ := h2
      have ha : args' = #[Value.pointer (some ⟨e.blk, e.off + l.off, none⟩), .pointer q] := Array.ext' (by simpa using h1)
      subst ha
      obtain ⟨e', he', hc, hz, hR'⟩ := writeA_one hR hw (v' := .pointer q) h3'
      rw [hel] at he'; cases he'
      obtain ⟨u, hu⟩ := Option.isSome_iff_exists.1 hc
      refine ⟨.tuple #[], _, ?_, φ, _, rfl, Up.refl _, hR', undef_V φ⟩
      rw [run_callFunc_extern hf hname hb hn he]
      change (Sem.run P (do
        store (← asAddr (.pointer (some ⟨e.blk, e.off + l.off, none⟩))) (.pointer q) .atomic
        pure Extern.Atomic.none_) w).andThen _ = _
      simp [asAddr, hu, hz, run_store P w _ (.pointer q) .atomic rfl, Result.andThen, Extern.Atomic.none_]
    · cases hr
  · rename_i x
    cases hr
    simp only [Vs] at hV
    obtain ⟨y, ys, h1, h2, rfl⟩ := hV
    have ha : args' = #[y] := Array.ext' (by simpa using h1)
    subst ha
    refine ⟨y, w, ?_, φ, _, rfl, Up.refl _, hR, h2⟩
    rw [run_callFunc_extern hf hname hb hn he, Lib.run_noEscape]
    rfl
  · rename_i s c
    cases hr
    simp only [Vs] at hV
    obtain ⟨y, ys, h1, h2, y2, ys2, rfl, h3, rfl⟩ := hV
    simp only [V] at h2 h3
    subst h2 h3
    have ha : args' = #[Value.string ⟨s.toArray⟩, .int .u8 c] := Array.ext' (by simpa using h1)
    subst ha
    refine ⟨.int .i64 (Lib.indexByte s c.toNat.toUInt8), w, ?_, φ, _, rfl, Up.refl _, hR, ?_⟩
    · rw [run_callFunc_extern hf hname hb hn he, Lib.run_indexByteString]
      rfl
    · simp only [V]
      rw [idxB_eq]
      congr 1
      split
      · rename_i h; exact h
      · simp
  · rename_i s c
    cases hr
    simp only [Vs] at hV
    obtain ⟨y, ys, h1, h2, y2, ys2, rfl, h3, rfl⟩ := hV
    simp only [V] at h2 h3
    subst h2 h3
    have ha : args' = #[Value.string ⟨s.toArray⟩, .int .u8 c] := Array.ext' (by simpa using h1)
    subst ha
    refine ⟨.int .i64 (Lib.countByte s c.toNat.toUInt8 : Nat), w, ?_, φ, _, rfl, Up.refl _, hR, ?_⟩
    · rw [run_callFunc_extern hf hname hb hn he, Lib.run_countString]
      rfl
    · simp only [V]
      rw [cntB_eq]
      rfl
  · rename_i a b
    cases hr
    simp only [Vs] at hV
    obtain ⟨y, ys, h1, h2, y2, ys2, rfl, h3, rfl⟩ := hV
    simp only [V] at h2 h3
    subst h2 h3
    have ha : args' = #[Value.string ⟨a.toArray⟩, .string ⟨b.toArray⟩] := Array.ext' (by simpa using h1)
    subst ha
    refine ⟨.int .i64 (Lib.compareBytes a b), w, ?_, φ, _, rfl, Up.refl _, hR, by simp [V]⟩
    rw [run_callFunc_extern hf hname hb hn he, Lib.run_compareString]
    rfl
  · rename_i t e n
    cases hbb : (Nat.ble n 281474976710656 && Nat.ble 1 n) with
    | false => rw [hbb] at hr; cases hr
    | true =>
      rw [hbb, cond_true] at hr
      cases hr
      rw [Bool.and_eq_true] at hbb
      have b1 := Nat.le_of_ble_eq_true hbb.1
      have b2 := Nat.le_of_ble_eq_true hbb.2
      obtain ⟨ht, ps, he⟩ := he
      simp only [Vs] at hV
      obtain ⟨y, ys, h1, h2, rfl⟩ := hV
      simp only [V] at h2
      subst h2
      have ha : args' = #[Value.int .i64 (n : Int)] := Array.ext' (by simpa using h1)
      subst ha
      obtain ⟨cs, hrun, hle, _⟩ := Lib.run_makeNoZero (P := P) w ps t e ht n b1
      have hRd : R P φ h w0 w.drew.drew := (hR.drew (w' := w.drew) rfl rfl rfl rfl).drew rfl rfl rfl rfl
      refine ⟨.slice (some ⟨w.heap.size, 0, none⟩) n cs.size, _, ?_, _, _, rfl, Up.snoc _ _, alloc_cells hRd (w' := w.drew.drew.alloc (.cells cs e)) (C := cs) (t := e) (k := .own (some e)) (OwnOk.mk e _ _ _) (fun hk => by cases hk) rfl rfl rfl rfl ?_ ?_, ?_⟩
      · rw [run_callFunc_extern hf hname hb hn he, hrun]
        rfl
      · simp [unkRow]; exact hle
      · refine Vs.of_get (by simp [unkRow]; omega) fun i a v ha hv => ?_
        simp only [unkRow, List.getElem?_replicate] at ha
        split at ha
        · cases ha; simp [V]
        · cases ha
      · refine V_slice (up_new hRd _) rfl hle ⟨by omega, ?_⟩ (.inl (by simp))
        simp
  · cases hr

def natOf : List (FuncId × NK) → FuncId → Option NK
  | [], _ => none
  | (g, k) :: r, f => bif Nat.beq f g then some k else natOf r f
def natCall (ns : List (FuncId × NK)) : CallF := fun f args h => match natOf ns f with | some k => natA h k args | none => none
def NatsOk (P : Program) (ns : List (FuncId × NK)) : Prop := ∀ x ∈ ns, NatOk P x.1 x.2
theorem natOf_mem {f : FuncId} {k : NK} : ∀ {ns : List (FuncId × NK)}, natOf ns f = some k → (f, k) ∈ ns
  | [], h => by simp [natOf] at h
  | (g, k') :: r, h => by
    simp only [natOf] at h
    cases hb : Nat.beq f g with
    | true => simp only [hb, cond_true, Option.some.injEq] at h; have := Nat.eq_of_beq_eq_true hb; subst this; subst h; exact List.mem_cons_self
    | false => simp only [hb, cond_false] at h; exact List.mem_cons_of_mem _ (natOf_mem h)
theorem natCall_ok {ns : List (FuncId × NK)} (hn : NatsOk P ns) : CallsOk P (natCall ns) := by
  intro f args h r hr
  unfold natCall at hr
  split at hr
  · rename_i k hk; exact natA_ok (hn _ (natOf_mem hk)) hr
  · cases hr

/-- One that knows, else another. -/
def orCall (c d : CallF) : CallF := fun f a h => match c f a h with | some r => some r | none => d f a h
theorem orCall_ok {c d : CallF} (hc : CallsOk P c) (hd : CallsOk P d) : CallsOk P (orCall c d) := by
  intro f a h r hr
  unfold orCall at hr
  split at hr
  · rename_i r' hx; cases hr; exact hc f a h _ hx
  · exact hd f a h r hr
end
section
variable {P : Program} {f : FuncId} {fn : Func}
theorem natMark0 (m : Mark) (hf : P.funcs[f]? = some fn) (h1 : (fn.name == "runtime.NumGoroutine") = false) (h2 : fn.body.isNone = true) (h3 : Extern.findNext fn = none) (h4 : Extern.find fn = some (fun _ => do mark m; pure Extern.Race.none_)) : NatOk P f .mark0 := ⟨fn, hf, h1, h2, h3, m, h4⟩
theorem natMarked (m : Addr → Mark) (hf : P.funcs[f]? = some fn) (h1 : (fn.name == "runtime.NumGoroutine") = false) (h2 : fn.body.isNone = true) (h3 : Extern.findNext fn = none) (h4 : Extern.find fn = some (Extern.Race.marked m)) : NatOk P f .marked := ⟨fn, hf, h1, h2, h3, m, h4⟩
theorem natLoad {k : IntKind} (hf : P.funcs[f]? = some fn) (h1 : (fn.name == "runtime.NumGoroutine") = false) (h2 : fn.body.isNone = true) (h3 : Extern.findNext fn = none) (h4 : Extern.find fn = some (Extern.Atomic.loadT (.int k))) : NatOk P f (.load k) := ⟨fn, hf, h1, h2, h3, h4⟩
theorem natStore (hf : P.funcs[f]? = some fn) (h1 : (fn.name == "runtime.NumGoroutine") = false) (h2 : fn.body.isNone = true) (h3 : Extern.findNext fn = none) (h4 : Extern.find fn = some Extern.Atomic.storeT) : NatOk P f .store := ⟨fn, hf, h1, h2, h3, h4⟩
theorem natCas {k : IntKind} (hf : P.funcs[f]? = some fn) (h1 : (fn.name == "runtime.NumGoroutine") = false) (h2 : fn.body.isNone = true) (h3 : Extern.findNext fn = none) (h4 : Extern.find fn = some (Extern.Atomic.casT (.int k))) : NatOk P f (.cas k) := ⟨fn, hf, h1, h2, h3, h4⟩
theorem natAdd {k : IntKind} (hf : P.funcs[f]? = some fn) (h1 : (fn.name == "runtime.NumGoroutine") = false) (h2 : fn.body.isNone = true) (h3 : Extern.findNext fn = none) (h4 : Extern.find fn = some (Extern.Atomic.update (Op.intArith .add) k true)) : NatOk P f (.add k) := ⟨fn, hf, h1, h2, h3, h4⟩
end
end Go.Am

noncomputable section
namespace Go.Am
open Go.RowKit

section
variable {P : Program} {h h' : Heap} {v : AV}
theorem withH_grows {x : Option AV} (hx : withH h x = some (v, h')) : Grows h h' := by rw [(withH_some hx).2]; exact Grows.refl _
theorem writeA_grows {l : Loc} {vs : List AV} (hw : writeA h l vs = some h') : Grows h h' := by
  unfold writeA at hw
  simp only [cond_eq_ite] at hw
  repeat' split at hw
  all_goals first | (cases hw; done) | (cases hw; exact Grows.set (by assumption))
theorem storeA_grows {t : TypeId} {l : Loc} {x : AV} (hw : storeA P h t l x = some h') : Grows h h' := by
  unfold storeA at hw
  simp only [cond_eq_ite] at hw
  repeat' split at hw
  all_goals first | (cases hw; done) | exact writeA_grows hw
theorem boxA_grows {t : TypeId} {x : AV} (hw : boxA t h x = some (v, h')) : Grows h h' := by
  unfold boxA newA at hw
  split at hw
  · cases hw; exact Grows.alloc _ _
  · cases hw
theorem allocA_grows {t : TypeId} (hw : allocA P h t = some (v, h')) : Grows h h' := by
  unfold allocA at hw
  split at hw
  · exact boxA_grows hw
  · cases hw
theorem buildSliceA_grows {t : TypeId} {n : Nat} {ps : List (Nat × AV)} (hw : buildSliceA P h t n ps = some (v, h')) : Grows h h' := by
  unfold buildSliceA at hw
  simp only [cond_eq_ite] at hw
  repeat' split at hw
  all_goals first | (cases hw; done) | (cases hw; exact Grows.alloc _ _)
theorem convA_grows {s d : TypeId} {x : AV} (hw : convA P h s d x = some (v, h')) : Grows h h' := by
  unfold convA at hw
  split at hw
  · rename_i r hc
    cases hw
    unfold convertA at hc
    repeat' split at hc
    all_goals first | (cases hc; done) | (cases hc; first | exact Grows.refl _ | exact Grows.alloc _ _)
  · split at hw
    · rename_i r hc
      cases hw
      unfold convSlA at hc
      simp only [cond_eq_ite] at hc
      repeat' split at hc
      all_goals first | (cases hc; done) | (cases hc; exact Grows.set (by assumption))
    · exact withH_grows hw
theorem clearSA_grows {t : TypeId} {x : AV} (hw : clearSA P h t x = some h') : Grows h h' := by
  unfold clearSA at hw
  simp only [cond_eq_ite] at hw
  repeat' split at hw
  all_goals first | (cases hw; done) | exact writeA_grows hw
theorem makeSliceA_grows {t : TypeId} {x y : AV} (hw : makeSliceA P h t x y = some (v, h')) : Grows h h' := by
  unfold makeSliceA at hw
  repeat' split at hw
  all_goals first | (cases hw; done) | (cases hw; exact Grows.alloc _ _)
theorem makeChanA_grows {t : TypeId} {x : AV} (hw : makeChanA P h t x = some (v, h')) : Grows h h' := by
  unfold makeChanA at hw
  repeat' split at hw
  all_goals first | (cases hw; done) | (cases hw; exact Grows.alloc _ _)
theorem appendCore_grows {e : TypeId} {size n : Nat} {news : List AV} {s : AV} (hw : appendCore P h e size n news s = some (v, h')) : Grows h h' := by
  unfold appendCore at hw
  simp only [cond_eq_ite] at hw
  repeat' split at hw
  all_goals first | (cases hw; done) | (cases hw; first | exact Grows.refl _ | exact Grows.alloc _ _ | exact (Grows.del _ _).trans (Grows.alloc _ _) | (apply writeA_grows; assumption))
theorem appendA_grows {t u : TypeId} {s x : AV} (hw : appendA P h t u s x = some (v, h')) : Grows h h' := by
  unfold appendA at hw
  repeat' split at hw
  all_goals first | (cases hw; done) | exact appendCore_grows hw
theorem appendZA_grows {t u : TypeId} {s x : AV} (hw : appendZA P h t u s x = some (v, h')) : Grows h h' := by
  unfold appendZA at hw
  simp only [cond_eq_ite] at hw
  repeat' split at hw
  all_goals first | (cases hw; done) | exact appendCore_grows hw
theorem copyA_grows {t : TypeId} {s x : AV} (hw : copyA P h t s x = some (v, h')) : Grows h h' := by
  unfold copyA at hw
  simp only [cond_eq_ite] at hw
  repeat' split at hw
  all_goals first | (cases hw; done) | (cases hw; first | exact Grows.refl _ | (apply writeA_grows; assumption))
theorem closeA_grows {i : Nat} (hw : closeA h i = some (v, h')) : Grows h h' := by
  unfold closeA at hw
  split at hw
  · cases hw; exact Grows.set (by assumption)
  · cases hw
theorem ustrA_grows {t : TypeId} {s x : AV} (hw : ustrA P h t s x = some (v, h')) : Grows h h' := by
  unfold ustrA ustr1A at hw
  simp only [cond_eq_ite] at hw
  repeat' split at hw
  all_goals first | (cases hw; done) | (cases hw; first | exact Grows.refl _ | exact Grows.set (by assumption))
theorem mapUpdateA_grows {t : TypeId} {m k x : AV} (hw : mapUpdateA P h t m k x = some h') : Grows h h' := by
  unfold mapUpdateA at hw
  repeat' split at hw
  all_goals first | (cases hw; done) | (cases hw; exact Grows.set (by assumption))
theorem mapUpdateB_grows {t : TypeId} {m k x : AV} (hw : mapUpdateB P h t m k x = some h') : Grows h h' := by
  unfold mapUpdateB at hw
  simp only [cond_eq_ite] at hw
  repeat' split at hw
  all_goals first | (cases hw; done) | (cases hw; exact Grows.set (by assumption))
theorem mapEntryA_grows {t : TypeId} {m k : AV} (hw : mapEntryA P h t m k = some (v, h')) : Grows h h' := by
  unfold mapEntryA at hw
  repeat' split at hw
  all_goals first | (cases hw; done) | (cases hw; exact Grows.set (by assumption))
theorem entryStoreA_grows {m k x : AV} (hw : entryStoreA h m k x = some h') : Grows h h' := by
  unfold entryStoreA at hw
  repeat' split at hw
  all_goals first | (cases hw; done) | (cases hw; exact Grows.set (by assumption))
theorem deleteA_grows {t : TypeId} {m k : AV} (hw : deleteA P h t m k = some (v, h')) : Grows h h' := by
  unfold deleteA at hw
  repeat' split at hw
  all_goals first | (cases hw; done) | (cases hw; first | exact Grows.refl _ | exact Grows.set (by assumption))
theorem mapUpdateG_grows {t : TypeId} {m k x : AV} (hw : mapUpdateG P h t m k x = some h') : Grows h h' := by
  unfold mapUpdateG at hw
  repeat' split at hw
  all_goals first | (cases hw; done) | (cases hw; exact Grows.set (by assumption))
theorem mapUpdateM_grows {t : TypeId} {m k x : AV} (hw : mapUpdateM P h t m k x = some h') : Grows h h' := by
  unfold mapUpdateM at hw
  split at hw
  · cases hw; exact mapUpdateA_grows (by assumption)
  · split at hw
    · cases hw; exact mapUpdateB_grows (by assumption)
    · exact mapUpdateG_grows hw
theorem rangeA_grows {t : TypeId} {x : AV} (hw : rangeA P h t x = some (v, h')) : Grows h h' := by
  unfold rangeA at hw
  repeat' split at hw
  all_goals first | (cases hw; done) | (cases hw; exact Grows.alloc _ _)
theorem builtinA_grows {b : Builtin} {ts : List TypeId} {args : List AV} (hw : builtinA P h b ts args = some (v, h')) : Grows h h' := by
  unfold builtinA at hw
  repeat' split at hw
  all_goals first
    | (cases hw; done)
    | exact withH_grows hw
    | (cases hw; exact Grows.refl _)
    | (rename_i hx; cases hw; first | exact appendA_grows hx | exact clearSA_grows hx)
    | exact appendZA_grows hw
    | exact copyA_grows hw
    | exact closeA_grows hw
    | exact ustrA_grows hw
    | exact deleteA_grows hw
theorem aop_grows {env : List AV} {op : Op} (hw : aop P env h op = some (v, h')) : Grows h h' := by
  cases op <;> simp only [aop] at hw
  case call c =>
    split at hw
    · exact builtinA_grows hw
    · cases hw
  case makeMap t r =>
    cases r with
    | none => simp only [makeMapA] at hw; cases hw; exact Grows.alloc _ _
    | some x => cases hw
  all_goals first
    | (cases hw; done)
    | exact withH_grows hw
    | (cases hw; exact Grows.refl _)
    | exact allocA_grows hw
    | exact boxA_grows hw
    | exact buildSliceA_grows hw
    | exact convA_grows hw
    | exact makeSliceA_grows hw
    | exact makeChanA_grows hw
    | exact rangeA_grows hw
    | exact mapEntryA_grows hw
    | (repeat' split at hw
       all_goals first | (cases hw; done) | (cases hw; exact Grows.refl _) | exact withH_grows hw | (rename_i hx; cases hw; first | exact storeA_grows hx | exact mapUpdateM_grows hx | exact entryStoreA_grows hx))
theorem natA_grows {k : NK} {args : List AV} (hw : natA h k args = some (.ret v h')) : Grows h h' := by
  unfold natA at hw
  simp only [cond_eq_ite] at hw
  repeat' split at hw
  all_goals first | (cases hw; done) | (cases hw; first | exact Grows.refl _ | exact Grows.alloc _ _ | (apply writeA_grows; assumption))
theorem nextS_grows {it : AV} (hw : nextS h it = some (v, h')) : Grows h h' := by
  unfold nextS at hw
  simp only [cond_eq_ite] at hw
  repeat' split at hw
  all_goals first | (cases hw; done) | (cases hw; first | exact Grows.refl _ | exact Grows.set (by assumption))
theorem nextM_grows {it : AV} {L : List (AV × Heap)} (hw : nextM h it = some L) : ∀ p ∈ L, Grows h p.2 := by
  unfold nextM at hw
  simp only [cond_eq_ite] at hw
  repeat' split at hw
  all_goals first
    | (cases hw; done)
    | (cases hw; intro p hp; rw [List.mem_singleton] at hp; subst hp; exact Grows.refl _)
    | (cases hw; intro p hp; obtain ⟨x, _, rfl⟩ := List.mem_map.1 hp; exact Grows.set (by assumption))
end
end Go.Am

noncomputable section
namespace Go.Am
open Go.RowKit

/-! ### What is said of calls, of what is deferred -/

def LPost (P : Program) (φ : List Emb) (w0 : World) (L : List (AV × Heap)) (e : Ending) (w' : World) : Prop := ∃ p ∈ L, PostC P φ w0 (.ret p.1 p.2) e w'
structure CallMOk (P : Program) (call : CallM) : Prop where
  post : ∀ f args h L, call f args h = some L → CallPost P f args h fun φ w0 => LPost P φ w0 L
  grow : ∀ f args h L, call f args h = some L → ∀ p ∈ L, Grows h p.2

def DS (φ : List Emb) : List DVM → List Deferred → Prop
  | [], l => l = []
  | .call f args :: ds, l => ∃ as cap xs, l = ⟨.fn (.func f) cap, as⟩ :: xs ∧ Vs φ args (as ++ cap).toList ∧ DS φ ds xs
  | .mark k :: ds, l => ∃ e xs, φ[k]? = some e ∧ l = ⟨.collected e.blk, #[]⟩ :: xs ∧ DS φ ds xs
theorem DS.up {φ φ' : List Emb} (hu : Up φ φ') : ∀ {ds : List DVM} {l : List Deferred}, DS φ ds l → DS φ' ds l
  | [], _, h => h
  | .call f args :: ds, l, h => by
    obtain ⟨as, cap, xs, h1, h2, h3⟩ := h
    exact ⟨as, cap, xs, h1, Vs.up hu _ _ h2, DS.up hu h3⟩
  | .mark k :: ds, l, h => by
    obtain ⟨e, xs, h1, h2, h3⟩ := h
    exact ⟨e, xs, hu.get h1, h2, DS.up hu h3⟩

def QO (Q : Exit → Act → World → Prop) (o : Out) (a : Act) (w : World) : Prop :=
  match o with
  | .normal => Q .normal a w
  | .exit i => Q (.exit i) a w
  | .ret => Q .ret a w
  | .pan _ => True
/-- What a continuation comes to is what is asked. -/
def SX (P : Program) (φ : List Emb) (w0 : World) (n : Nat) (L : List Res) (K : Act → World → Prop) (k : KX) : Prop :=
  ∀ e h ds L', k e h ds = some L' → (∀ r ∈ L', r ∈ L) → ∀ φ' w a, Up φ φ' → R P φ' h w0 w → Vs φ' (envL n e) a.tmps.toList → DS φ' ds a.defers → K a w
theorem SX.up {P : Program} {φ φ' : List Emb} {w0 : World} {n : Nat} {L : List Res} {K : Act → World → Prop} {k : KX} (h : SX P φ w0 n L K k) (hu : Up φ φ') : SX P φ' w0 n L K k :=
  fun e h' ds L' hk hs φ'' w a hu' => h e h' ds L' hk hs φ'' w a (hu.trans hu')
/-- Every end comes from the continuation, memory having gone on. -/
def From (h0 : Heap) (k : KX) (L : List Res) : Prop := ∀ r ∈ L, ∃ e h ds L', k e h ds = some L' ∧ r ∈ L' ∧ Grows h0 h

/-! ### Lists of outcomes -/

theorem joinR_some {a b : RX} {L : List Res} (h : joinR a b = some L) : ∃ x y, a = some x ∧ b = some y ∧ L = x ++ y := by
  cases a with
  | none => cases h
  | some x =>
    cases b with
    | none => cases h
    | some y => cases h; exact ⟨x, y, rfl, rfl, appF_eq x y⟩
def OutsL {α : Type} (l : List α) (kk : α → RX) (L : List Res) : Prop :=
  (∀ x ∈ l, ∃ L', kk x = some L' ∧ ∀ r ∈ L', r ∈ L) ∧ ∀ r ∈ L, ∃ x ∈ l, ∃ L', kk x = some L' ∧ r ∈ L'
theorem fanAll_some {kk : AV → Heap → RX} : ∀ {l : List (AV × Heap)} {L : List Res}, fanAll l kk = some L → OutsL l (fun p => kk p.1 p.2) L
  | [], L, h => by cases h; exact ⟨by simp, by simp⟩
  | p :: l, L, h => by
    obtain ⟨x, y, h1, h2, rfl⟩ := joinR_some h
    have ih := fanAll_some h2
    refine ⟨fun q hq => ?_, fun r hr => ?_⟩
    · rcases List.mem_cons.1 hq with rfl | hq
      · exact ⟨x, h1, fun r hr => List.mem_append.2 (.inl hr)⟩
      · obtain ⟨L', h3, h4⟩ := ih.1 q hq
        exact ⟨L', h3, fun r hr => List.mem_append.2 (.inr (h4 r hr))⟩
    · rcases List.mem_append.1 hr with hr | hr
      · exact ⟨p, List.mem_cons_self, x, h1, hr⟩
      · obtain ⟨q, h3, L', h4, h5⟩ := ih.2 r hr
        exact ⟨q, List.mem_cons_of_mem _ h3, L', h4, h5⟩
theorem fan_some {kk : AV → Heap → RX} {l : Option (List (AV × Heap))} {L : List Res} (h : fan l kk = some L) : ∃ l0, l = some l0 ∧ OutsL l0 (fun p => kk p.1 p.2) L := by
  cases l with
  | none => cases h
  | some l0 =>
    refine ⟨l0, rfl, ?_⟩
    match l0, h with
    | [], h => cases h
    | [p], h => exact ⟨fun q hq => by rw [List.mem_singleton] at hq; subst hq; exact ⟨L, h, fun _ hr => hr⟩, fun r hr => ⟨p, List.mem_cons_self, L, h, hr⟩⟩
    | p :: q :: ps, h => exact fanAll_some h
theorem OutsL.one {α : Type} {x : α} {kk : α → RX} {L : List Res} (h : kk x = some L) : OutsL [x] kk L :=
  ⟨fun q hq => by rw [List.mem_singleton] at hq; subst hq; exact ⟨L, h, fun _ hr => hr⟩, fun r hr => ⟨x, List.mem_cons_self, L, h, hr⟩⟩
theorem OutsL.map {α β : Type} {f : α → β} {l : List α} {kk : β → RX} {L : List Res} (h : OutsL l (fun x => kk (f x)) L) : OutsL (l.map f) kk L := by
  refine ⟨fun q hq => ?_, fun r hr => ?_⟩
  · obtain ⟨x, hx, rfl⟩ := List.mem_map.1 hq
    exact h.1 x hx
  · obtain ⟨x, hx, L', h1, h2⟩ := h.2 r hr
    exact ⟨f x, List.mem_map.2 ⟨x, hx, rfl⟩, L', h1, h2⟩

/-! ### What an operation does -/

structure VHD where
  v : AV
  h : Heap
  ds : List DVM
/-- Which function an operation calls, with what. -/
inductive Target0 (P : Program) (env : List AV) (hp : Heap) : Op → FuncId → List AV → Prop
  | fn {f : Operand} {xs : Array Operand} {ats : Array TypeId} {g : FuncId} {first cap : List AV} (h : evalA P env f = .func (.func g) first cap) (hlt : g < P.funcs.size) : Target0 P env hp (.call ⟨.value f, xs, ats⟩) g ((first ++ evals P env xs.toList) ++ cap)
  | yield {f : Operand} {xs : Array Operand} {ats : Array TypeId} {k : Nat} (h : evalA P env f = .yield k) : Target0 P env hp (.call ⟨.value f, xs, ats⟩) (P.funcs.size + k) (evals P env xs.toList)
  | invoke {r : Operand} {name : String} {xs : Array Operand} {ats : Array TypeId} {t : TypeId} {v u : AV} {g : FuncId} (h : evalA P env r = .iface t v) (hm : recvM P hp t v name = some (g, u)) (hlt : g < P.funcs.size) : Target0 P env hp (.call ⟨.invoke r name, xs, ats⟩) g (u :: evals P env xs.toList)
inductive Does (P : Program) (call : CallM) (inR : Bool) (env : List AV) (h : Heap) (ds : List DVM) : Op → List VHD → Prop
  | plain {op : Op} {v : AV} {h' : Heap} (ho : aop P env h op = some (v, h')) : Does P call inR env h ds op [⟨v, h', ds⟩]
  | call {op : Op} {g : FuncId} {args : List AV} {l : List (AV × Heap)} (ht : Target0 P env h op g args) (hc : call g args h = some l) : Does P call inR env h ds op (l.map fun p => ⟨p.1, p.2, ds⟩)
  | nextM {it : Operand} {l : List (AV × Heap)} (hn : nextM h (evalA P env it) = some l) : Does P call inR env h ds (.next it false) (l.map fun p => ⟨p.1, p.2, ds⟩)
  | nextS {it : Operand} {v : AV} {h' : Heap} (hn : nextS h (evalA P env it) = some (v, h')) : Does P call inR env h ds (.next it true) [⟨v, h', ds⟩]
  | defer {f : Operand} {xs : Array Operand} {ats : Array TypeId} {g : FuncId} {first cap : List AV} (hi : inR = false) (hf : evalA P env f = .func (.func g) first cap) :
      Does P call inR env h ds (.defer ⟨.value f, xs, ats⟩) [⟨.tuple [], h, .call g ((first ++ evals P env xs.toList) ++ cap) :: ds⟩]

def CO.run (c : CO) (call : CallM) (k : KX) : KX := CO.rec (fun f => f call k) c

section
variable {P : Program} {call : CallM} {inR : Bool} {n : Nat} {ops : Array Oper}

theorem wantM_some {g : G} {b : Bool} {e : Env} {t : Bool} (h : wantM g b e = some t) : (∃ c, g e = .bool c ∧ t = (c == b)) ∨ ((∃ vs, g e = .tuple vs) ∧ t = false) := by
  unfold wantM at h
  cases hb : asB (g e) with
  | some c =>
    rw [hb] at h
    cases h
    exact .inl ⟨c, asB_some hb, by cases c <;> cases b <;> rfl⟩
  | none =>
    rw [hb] at h
    change isTup (g e) = some t at h
    cases hg : g e <;> rw [hg] at h <;> first | (cases h; done) | skip
    cases h
    exact .inr ⟨⟨_, rfl⟩, rfl⟩
theorem wantG_wanted {o : Oper} {e : Env} {t : Bool} (h : wantG (guardOf n ops o) e = some t) : wantedA ops (envL n e) o = some t := by
  unfold guardOf at h
  unfold wantedA
  split at h
  · rename_i hg
    rw [hg]
    cases h; rfl
  · rename_i j b hg
    rw [hg]
    simp only
    split at h
    · rename_i hd
      rw [hd]
      cases h; rfl
    · rename_i d hd
      rw [hd]
      simp only
      cases hlt : Nat.blt d n with
      | false => rw [hlt] at h; cases h
      | true =>
        rw [hlt] at h
        have hev := tmpS_ev n d e
        cases hs : tmpS n d with
        | mk g =>
          rw [hs] at h hev
          change wantM g b e = some t at h
          change g e = _ at hev
          rw [← hev]
          rcases wantM_some h with ⟨c, h1, rfl⟩ | ⟨⟨vs, h1⟩, rfl⟩
          · rw [h1]
          · rw [h1]
theorem gated_some {gd : GD} {p : Pt} {F : CallM → KX → KX} {k : KX} {e : Env} {h : Heap} {ds : List DVM} {L : List Res} (hr : (gated gd p F).run call k e h ds = some L) :
    (wantG gd e = some true ∧ F call k e h ds = some L) ∨ (wantG gd e = some false ∧ k (p (.tuple []) e) h ds = some L) := by
  cases gd with
  | all => exact .inl ⟨rfl, hr⟩
  | never => exact .inr ⟨rfl, hr⟩
  | bad => cases hr
  | when g b =>
    change Option.rec none (fun t => Bool.rec (skipK p k e h ds) (F call k e h ds) t) (wantM g b e) = some L at hr
    change (wantM g b e = some true ∧ _) ∨ (wantM g b e = some false ∧ _)
    cases hw : wantM g b e with
    | none => rw [hw] at hr; cases hr
    | some t =>
      rw [hw] at hr
      cases t with
      | true => exact .inl ⟨rfl, hr⟩
      | false => exact .inr ⟨rfl, hr⟩

/-- What is done goes to the continuation. -/
def Goes1 (n : Nat) (o : Oper) (k : KX) (e : Env) (l : List VHD) (L : List Res) : Prop := OutsL l (fun x => k ((dstOf n o.dst).put x.v e) x.h x.ds) L

theorem compO_run {o : Oper} {k : KX} {e : Env} {h : Heap} {ds : List DVM} {L : List Res} (hr : (compO P inR n ops o).run call k e h ds = some L) :
    (wantedA ops (envL n e) o = some true ∧ ∃ l, Does P call inR (envL n e) h ds o.op l ∧ Goes1 n o k e l L) ∨
    (wantedA ops (envL n e) o = some false ∧ k ((dstOf n o.dst).put (.tuple []) e) h ds = some L) := by
  have hput : ∀ v, (dstOf n o.dst).put v e = Dst.rec (fun p => p v e) (dstOf n o.dst) := fun v => rfl
  unfold Goes1
  unfold compO at hr
  cases hd : dstOf n o.dst with
  | mk p =>
  rw [hd] at hr
  simp only at hr
  have fin : ∀ {F : CallM → KX → KX}, (gated (guardOf n ops o) p F).run call k e h ds = some L → (F call k e h ds = some L → ∃ l, Does P call inR (envL n e) h ds o.op l ∧ OutsL l (fun x => k ((Dst.mk p).put x.v e) x.h x.ds) L) →
      (wantedA ops (envL n e) o = some true ∧ ∃ l, Does P call inR (envL n e) h ds o.op l ∧ OutsL l (fun x => k ((Dst.mk p).put x.v e) x.h x.ds) L) ∨ (wantedA ops (envL n e) o = some false ∧ k ((Dst.mk p).put (.tuple []) e) h ds = some L) := by
    intro F hg hF
    rcases gated_some hg with ⟨h1, h2⟩ | ⟨h1, h2⟩
    · exact .inl ⟨wantG_wanted h1, hF h2⟩
    · exact .inr ⟨wantG_wanted h1, h2⟩
  have opk : ∀ {op : Op}, o.op = op → (CI.rec (fun f => gated (guardOf n ops o) p (opK p f)) (compOp P n op) : CO).run call k e h ds = some L →
      (wantedA ops (envL n e) o = some true ∧ ∃ l, Does P call inR (envL n e) h ds o.op l ∧ OutsL l (fun x => k ((Dst.mk p).put x.v e) x.h x.ds) L) ∨ (wantedA ops (envL n e) o = some false ∧ k ((Dst.mk p).put (.tuple []) e) h ds = some L) := by
    intro op hop hg
    cases hc : compOp P n op with
    | op f =>
      rw [hc] at hg
      refine fin hg fun hF => ?_
      change R1.rec none (fun v h' => k (p v e) h' ds) (f e h) = some L at hF
      cases hf : f e h with
      | no => rw [hf] at hF; cases hF
      | ok v h' =>
        rw [hf] at hF
        have h1 : (compOp P n op).run e h = .ok v h' := by rw [hc]; exact hf
        exact ⟨_, .plain (by rw [hop]; exact compOp_run h1), OutsL.one hF⟩
  have mov : ∀ {x : Operand}, (∀ env, aop P env h o.op = some (evalA P env x, h)) → (Src.rec (fun g => gated (guardOf n ops o) p (moveK p g)) (srcOf P n x) : CO).run call k e h ds = some L →
      (wantedA ops (envL n e) o = some true ∧ ∃ l, Does P call inR (envL n e) h ds o.op l ∧ OutsL l (fun x => k ((Dst.mk p).put x.v e) x.h x.ds) L) ∨ (wantedA ops (envL n e) o = some false ∧ k ((Dst.mk p).put (.tuple []) e) h ds = some L) := by
    intro x hx hg
    have hev := srcOf_ev P n x e
    cases hs : srcOf P n x with
    | mk g =>
      rw [hs] at hg hev
      change g e = _ at hev
      refine fin hg fun hF => ?_
      change k (p (g e) e) h ds = some L at hF
      rw [hev] at hF
      exact ⟨_, .plain (hx _), OutsL.one hF⟩
  obtain ⟨dst, op, ty, pos, after, guard⟩ := o
  simp only at hr opk mov ⊢
  cases op
  case move x => exact mov (fun env => rfl) hr
  case assign x => exact mov (fun env => rfl) hr
  case call c =>
    obtain ⟨callee, args, ats⟩ := c
    cases callee with
    | builtin b => exact opk rfl hr
    | invoke r name =>
      simp only at hr
      have hev := srcOf_ev P n r e
      cases hs : srcOf P n r with
      | mk g =>
        rw [hs] at hr hev
        change g e = _ at hev
        refine fin hr fun hF => ?_
        unfold invK at hF
        cases hi : asIface (g e) with
        | none => rw [hi] at hF; cases hF
        | some i =>
          rw [hi] at hF
          change Option.rec none (fun q => Prod.rec (fun g u => Bool.rec none (fan (call g (u :: evM e (srcsOf P n args.toList)) h) fun v h' => k (p v e) h' ds) (Nat.blt g P.funcs.size)) q) (recvM P h i.t i.v name) = some L at hF
          cases hm : recvM P h i.t i.v name with
          | none => rw [hm] at hF; cases hF
          | some qu =>
            obtain ⟨q, u⟩ := qu
            rw [hm] at hF
            change Bool.rec none (fan (call q (u :: evM e (srcsOf P n args.toList)) h) fun v h' => k (p v e) h' ds) (Nat.blt q P.funcs.size) = some L at hF
            cases hb : Nat.blt q P.funcs.size with
            | false => rw [hb] at hF; cases hF
            | true =>
              rw [hb, evM_eq] at hF
              obtain ⟨l0, h1, h2⟩ := fan_some hF
              have hif := asIface_some hi
              rw [hev] at hif
              exact ⟨_, .call (.invoke hif hm ((blt_iff _ _).1 hb)) h1, OutsL.map h2⟩
    | value f =>
      simp only at hr
      refine fin hr fun hF => ?_
      have gen : ∀ g : G, g e = evalA P (envL n e) f → callK P p g (srcsOf P n args.toList) call k e h ds = some L → ∃ l, Does P call inR (envL n e) h ds (.call ⟨.value f, args, ats⟩) l ∧ OutsL l (fun x => k ((Dst.mk p).put x.v e) x.h x.ds) L := by
        intro g hev hF
        unfold callK at hF
        cases hfv : asFn (g e) with
        | no => rw [hfv] at hF; cases hF
        | fn q first cap =>
          rw [hfv] at hF
          change Bool.rec none (fan (call q (appF (appF first (evM e (srcsOf P n args.toList))) cap) h) fun v h' => k (p v e) h' ds) (Nat.blt q P.funcs.size) = some L at hF
          cases hb : Nat.blt q P.funcs.size with
          | false => rw [hb] at hF; cases hF
          | true =>
            rw [hb, evM_eq, appF_eq, appF_eq] at hF
            obtain ⟨l0, h1, h2⟩ := fan_some hF
            have hif := asFn_fn hfv
            rw [hev] at hif
            exact ⟨_, .call (.fn hif ((blt_iff _ _).1 hb)) h1, OutsL.map h2⟩
        | yield y =>
          rw [hfv] at hF
          change fan (call (Nat.add P.funcs.size y) (evM e (srcsOf P n args.toList)) h) (fun v h' => k (p v e) h' ds) = some L at hF
          rw [evM_eq] at hF
          obtain ⟨l0, h1, h2⟩ := fan_some hF
          have hif := asFn_yield hfv
          rw [hev] at hif
          exact ⟨_, .call (.yield hif) h1, OutsL.map h2⟩
      cases f with
      | func g =>
        change Bool.rec noC (callFnK P p g (srcsOf P n args.toList)) (Nat.blt g P.funcs.size) call k e h ds = some L at hF
        cases hb : Nat.blt g P.funcs.size with
        | false => rw [hb] at hF; cases hF
        | true =>
          rw [hb] at hF
          change fan (call g (evM e (srcsOf P n args.toList)) h) (fun v h' => k (p v e) h' ds) = some L at hF
          rw [evM_eq] at hF
          obtain ⟨l0, h1, h2⟩ := fan_some hF
          have ht : Target0 P (envL n e) h (.call ⟨.value (.func g), args, ats⟩) g (([] ++ evals P (envL n e) args.toList) ++ []) := .fn (by rfl) ((blt_iff _ _).1 hb)
          rw [List.nil_append, List.append_nil] at ht
          exact ⟨_, .call ht h1, OutsL.map h2⟩
      | tmp t =>
        have hev := srcOf_ev P n (.tmp t) e
        change Src.rec (fun gf => callK P p gf (srcsOf P n args.toList)) (srcOf P n (.tmp t)) call k e h ds = some L at hF
        cases hs : srcOf P n (.tmp t) with
        | mk g => rw [hs] at hF hev; exact gen g hev hF
      | const v =>
        have hev := srcOf_ev P n (.const v) e
        change Src.rec (fun gf => callK P p gf (srcsOf P n args.toList)) (srcOf P n (.const v)) call k e h ds = some L at hF
        cases hs : srcOf P n (.const v) with
        | mk g => rw [hs] at hF hev; exact gen g hev hF
      | global v =>
        have hev := srcOf_ev P n (.global v) e
        change Src.rec (fun gf => callK P p gf (srcsOf P n args.toList)) (srcOf P n (.global v)) call k e h ds = some L at hF
        cases hs : srcOf P n (.global v) with
        | mk g => rw [hs] at hF hev; exact gen g hev hF
  case next it isS =>
    simp only at hr
    have hev := srcOf_ev P n it e
    cases hs : srcOf P n it with
    | mk g =>
      rw [hs] at hr hev
      change g e = _ at hev
      refine fin hr fun hF => ?_
      cases isS with
      | false =>
        change fan (nextM h (g e)) (fun v h' => k (p v e) h' ds) = some L at hF
        rw [hev] at hF
        obtain ⟨l0, h1, h2⟩ := fan_some hF
        exact ⟨_, .nextM h1, OutsL.map h2⟩
      | true =>
        change Option.rec none (fun q => Prod.rec (fun v h' => k (p v e) h' ds) q) (nextS h (g e)) = some L at hF
        rw [hev] at hF
        cases hn : nextS h (evalA P (envL n e) it) with
        | none => rw [hn] at hF; cases hF
        | some q =>
          obtain ⟨v, h'⟩ := q
          rw [hn] at hF
          exact ⟨_, .nextS hn, OutsL.one hF⟩
  case defer c =>
    obtain ⟨callee, args, ats⟩ := c
    cases inR with
    | true => cases callee <;> cases hr
    | false =>
      cases callee with
      | builtin b => cases hr
      | invoke r m => cases hr
      | value f =>
        have hev := srcOf_ev P n f e
        cases hs : srcOf P n f with
        | mk g =>
          simp only at hr
          rw [hs] at hr hev
          change g e = _ at hev
          refine fin hr fun hF => ?_
          unfold deferK at hF
          cases hfv : asFn (g e) with
          | no => rw [hfv] at hF; cases hF
          | fn q first cap =>
            rw [hfv] at hF
            change k (p (.tuple []) e) h (.call q (appF (appF first (evM e (srcsOf P n args.toList))) cap) :: ds) = some L at hF
            rw [evM_eq, appF_eq, appF_eq] at hF
            have hif := asFn_fn hfv
            rw [hev] at hif
            exact ⟨_, .defer rfl hif, OutsL.one hF⟩
          | yield y => rw [hfv] at hF; cases hF
  all_goals exact opk rfl hr
end
end Go.Am

noncomputable section
namespace Go.Am
open Go.RowKit

section
variable {P : Program} {call : CallM} {inR : Bool} {n : Nat} {ops : Array Oper}

/-! ### Memory goes on -/

theorem Does.grows (hcall : CallMOk P call) {env : List AV} {h : Heap} {ds : List DVM} {op : Op} {l : List VHD} (hd : Does P call inR env h ds op l) : ∀ x ∈ l, Grows h x.h := by
  cases hd with
  | plain ho => intro x hx; rw [List.mem_singleton] at hx; subst hx; exact aop_grows ho
  | call ht hc => intro x hx; obtain ⟨p, hp, rfl⟩ := List.mem_map.1 hx; exact hcall.grow _ _ _ _ hc p hp
  | nextM hn => intro x hx; obtain ⟨p, hp, rfl⟩ := List.mem_map.1 hx; exact nextM_grows hn p hp
  | nextS hn => intro x hx; rw [List.mem_singleton] at hx; subst hx; exact nextS_grows hn
  | defer hi hf => intro x hx; rw [List.mem_singleton] at hx; subst hx; exact Grows.refl _
theorem compO_from (hcall : CallMOk P call) {o : Oper} {k : KX} {e : Env} {h : Heap} {ds : List DVM} {L : List Res} (hr : (compO P inR n ops o).run call k e h ds = some L) : From h k L := by
  intro r hrL
  rcases compO_run hr with ⟨_, l, hd, hg⟩ | ⟨_, hk⟩
  · obtain ⟨x, hx, L', h1, h2⟩ := hg.2 r hrL
    exact ⟨_, _, _, L', h1, h2, hd.grows hcall x hx⟩
  · exact ⟨_, _, _, L, hk, hrL, Grows.refl _⟩
theorem From.trans {h0 : Heap} {k k' : KX} {L : List Res} (h : From h0 k L) (hk : ∀ e h ds L', k e h ds = some L' → From h k' L') : From h0 k' L := by
  intro r hr
  obtain ⟨e, h1, ds, L', h2, h3, h4⟩ := h r hr
  obtain ⟨e', h1', ds', L'', h5, h6, h7⟩ := hk e h1 ds L' h2 r h3
  exact ⟨e', h1', ds', L'', h5, h6, h4.trans h7⟩
theorem From.self {h : Heap} {k : KX} {e : Env} {ds : List DVM} {L : List Res} (hk : k e h ds = some L) : From h k L := fun _ hr => ⟨e, h, ds, L, hk, hr, Grows.refl _⟩
theorem opsM_from (hcall : CallMOk P call) {k : KX} : ∀ (l : List Oper) (e : Env) (h : Heap) (ds : List DVM) (L : List Res), opsM call (l.map (compO P inR n ops)) k e h ds = some L → From h k L
  | [], e, h, ds, L, hr => From.self hr
  | o :: l, e, h, ds, L, hr => (compO_from (k := opsM call (l.map (compO P inR n ops)) k) hcall hr).trans fun e' h' ds' L' hk => opsM_from hcall l e' h' ds' L' hk

/-! ### What an operation does, the model does -/

theorem target_wp {ρ' : Option Nat} (hF : Fns P) {φ : List Emb} {h : Heap} {w0 w : World} (hR : R P φ h w0 w) {env : List AV} {a : Act} (hρ : ∀ x, V φ (evalA P env x) (a.eval x)) {o : Oper} {g : FuncId} {args : List AV} (ht : Target0 P env h o.op g args)
    {K : Act → World → Prop} {Q : Exit → Act → World → Prop} {Post : List Emb → World → Ending → World → Prop} (hc : CallPost P g args h Post) (hp : ∀ e w', Post φ w0 e w' → KPost o.dst a K Q e w') : opWp ρ' P o a w K Q := by
  have _ := hF
  obtain ⟨dst, op, type, pos, after, guard⟩ := o
  simp only at ht hp
  have hd : ∀ c, op ≠ .defer c := by
    intro c hc
    subst hc
    cases ht
  cases ht with
  | @fn f xs ats g first cap hf hlt =>
    have hfv := hρ f
    rw [hf] at hfv
    simp only [V] at hfv
    obtain ⟨x, y, hxy, hx, hy⟩ := hfv
    have hv := evals_V hρ xs.toList
    have hall : Vs φ ((first ++ evals P env xs.toList) ++ cap) ((x ++ xs.map a.eval) ++ y).toList := by
      simp only [Array.toList_append, Array.toList_map]
      exact (hx.append hv).append hy
    have hgo := hc φ w0 w _ hR hall
    rw [if_pos hlt] at hgo
    refine wp_goes hd ?_ (hgo.mono hp)
    rw [execOp_value, hxy]
    simp only [Deferred.ofValue, Sem.run_bind, Sem.run_pure, Result.andThen_ok, invoke]
  | @yield f xs ats k hf =>
    have hfv := hρ f
    rw [hf] at hfv
    simp only [V] at hfv
    obtain ⟨e, he, hxy⟩ := hfv
    have hv := evals_V hρ xs.toList
    have hgo := hc φ w0 w (xs.map a.eval) hR (by simpa using hv)
    rw [if_neg (Nat.not_lt.2 (Nat.le_add_right _ _)), Nat.add_sub_cancel_left] at hgo
    refine wp_goesY hd ?_ ((hgo e he).mono hp)
    rw [execOp_value, hxy]
    simp only [Deferred.ofValue, Sem.run_bind, Sem.run_pure, Result.andThen_ok, invoke, Array.empty_append]
  | @invoke r name xs ats t v u g hrv hm hlt =>
    have hfv := hρ r
    rw [hrv] at hfv
    simp only [V] at hfv
    obtain ⟨y, hy1, hy⟩ := hfv
    have hv := evals_V hρ xs.toList
    obtain ⟨m, hmm⟩ : ∃ m, P.types.size + Made.depth = m + 1 := ⟨P.types.size + Made.depth - 1, by have hdep : 0 < Made.depth := (by decide); omega⟩
    obtain ⟨z, hmr, hz⟩ := recvM_run hR hm hy m
    rw [← hmm] at hmr
    have hall : Vs φ (u :: evals P env xs.toList) (#[z] ++ xs.map a.eval).toList := by
      simp only [Array.toList_append, Array.toList_map, List.singleton_append, Vs_cons]
      exact ⟨hz, hv⟩
    have hgo := hc φ w0 w _ hR hall
    rw [if_pos hlt] at hgo
    refine wp_goes hd ?_ (hgo.mono hp)
    rw [execOp_invoke, hy1]
    have hx : (#[Value.iface t y] ++ xs.map a.eval)[0]? = some (.iface t y) := arr_head _ _
    have hex : (#[Value.iface t y] ++ xs.map a.eval).extract 1 (#[Value.iface t y] ++ xs.map a.eval).size = xs.map a.eval := arr_rest _ _
    simp only [invoke, hx, hex, callMethod, Sem.run_bind, run_program, Result.andThen_ok, hmr]

theorem execOp_next (ρ : Operand → Value) (dst : Option Tmp) (it : Operand) (isS : Bool) (ty : TypeId) (pos : String) (after : Array Edge) (guard : Option (Nat × Bool)) :
    execOp ρ ⟨dst, .next it isS, ty, pos, after, guard⟩ = (do pure (.value (← Instr.next (ρ it) isS ty))) := rfl

theorem does_wp {ρ' : Option Nat} (hF : Fns P) (hcall : CallMOk P call) (hro : inR = false → ρ' = none) {φ : List Emb} {h : Heap} {w0 w : World} (hR : R P φ h w0 w) {env : List AV} {a : Act} (he : Vs φ env a.tmps.toList) {ds : List DVM} (hds : DS φ ds a.defers) {o : Oper} {l : List VHD} (hd : Does P call inR env h ds o.op l)
    {K : Act → World → Prop} {Q : Exit → Act → World → Prop} (hK : ∀ x ∈ l, ∀ φ' w' a', Up φ φ' → R P φ' x.h w0 w' → Vs φ' (putA env o.dst x.v) a'.tmps.toList → DS φ' x.ds a'.defers → K a' w') : opWp ρ' P o a w K Q := by
  have hρ := fun x => evalA_V hR he x
  have put : ∀ x ∈ l, x.ds = ds → ∀ φ' w' v', Up φ φ' → R P φ' x.h w0 w' → V φ' x.v v' → K (a.put o.dst v') w' := fun x hx hxd φ' w' v' hu hR' hv =>
    hK x hx φ' w' _ hu hR' (putA_V (Vs.up hu _ _ he) o.dst hv) (by rw [put_defers', hxd]; exact hds.up hu)
  generalize hop : o.op = op at hd
  cases hd with
  | @plain _ v h' ho =>
    have hnd : ∀ c, o.op ≠ .defer c := by
      intro c hc
      rw [hop] at hc; subst hc
      cases ho
    rw [← hop] at ho
    exact wp_done hnd (aop_run hR hρ ho) (fun φ' w' v' hu hR' hv => put _ (List.mem_singleton.2 rfl) rfl φ' w' v' hu hR' hv)
  | @call _ g args l0 ht hc =>
    rw [← hop] at ht
    refine target_wp hF hR hρ ht (hcall.post _ _ _ _ hc) ?_
    rintro e w' ⟨p, hp, hpost⟩
    exact KPost_of (r := .ret p.1 p.2) (fun φ' w' v' hu hR' hv => put ⟨p.1, p.2, ds⟩ (List.mem_map.2 ⟨p, hp, rfl⟩) rfl φ' w' v' hu hR' hv) hpost
  | @nextM it l0 hn =>
    have hnd : ∀ c, o.op ≠ .defer c := by intro c hc; rw [hop] at hc; cases hc
    obtain ⟨dst, op', type, pos, after, guard⟩ := o
    simp only at hop put hnd
    subst hop
    obtain ⟨p, hp, r', w', hrun, hR', hv⟩ := nextM_run hR hn (hρ it) type
    refine wp_of_run hnd ?_
    rw [execOp_next]
    simp only [Sem.run_bind, hrun, Result.andThen_ok, Sem.run_pure, Oper.uponIn_value]
    exact put ⟨p.1, p.2, ds⟩ (List.mem_map.2 ⟨p, hp, rfl⟩) rfl φ w' r' (Up.refl _) hR' hv
  | @nextS it v h' hn =>
    have hnd : ∀ c, o.op ≠ .defer c := by intro c hc; rw [hop] at hc; cases hc
    obtain ⟨dst, op', type, pos, after, guard⟩ := o
    simp only at hop put hnd
    subst hop
    obtain ⟨r', w', hrun, hR', hv⟩ := nextS_run hR hn (hρ it) type
    refine wp_of_run hnd ?_
    rw [execOp_next]
    simp only [Sem.run_bind, hrun, Result.andThen_ok, Sem.run_pure, Oper.uponIn_value]
    exact put ⟨v, h', ds⟩ (List.mem_singleton.2 rfl) rfl φ w' r' (Up.refl _) hR' hv
  | @defer f xs ats g first cap hi hf =>
    have hro := hro hi
    subst hro
    have hfv := hρ f
    rw [hf] at hfv
    simp only [V] at hfv
    obtain ⟨x, y, hxy, hx, hy⟩ := hfv
    have hv := evals_V hρ xs.toList
    obtain ⟨dst, op', type, pos, after, guard⟩ := o
    simp only at hop hK
    subst hop
    refine ⟨fun _ _ => trivial, ?_⟩
    have hrun : (Oper.semAt (wideR none).round a.eval ⟨dst, .defer ⟨.value f, xs, ats⟩, type, pos, after, guard⟩).run P w = .ok (.defer { target := .fn (.func g) y, args := x ++ xs.map a.eval }) w := by
      rw [wideR_none, show Fence.wide.round = none from rfl, Oper.semAt_none]
      have e1 : execOp a.eval ⟨dst, .defer ⟨.value f, xs, ats⟩, type, pos, after, guard⟩ = (do pure (.defer (← resolve a.eval ⟨.value f, xs, ats⟩ type))) := rfl
      rw [e1]
      simp only [resolve, hxy, Deferred.ofValue, Sem.run_bind, Sem.run_pure, Result.andThen_ok]
    rw [hrun, Oper.uponIn_defer]
    refine hK _ (List.mem_singleton.2 rfl) φ w _ (Up.refl _) hR ?_ ?_
    · cases dst with
      | none => exact he
      | some d => simpa [putA, Act.put] using he.set d (undef_V φ)
    · rw [put_defers']
      refine ⟨_, y, a.defers, rfl, ?_, hds⟩
      simp only [Array.toList_append, Array.toList_map]
      exact (hx.append hv).append hy

theorem guard_of {φ : List Emb} {env : List AV} {a : Act} (he : Vs φ env a.tmps.toList) {o : Oper} {t : Bool} (ht : wantedA ops env o = some t) : Region.wanted o (yielded ops a.tmps) = t :=
  wantedA_eq (φ := φ) ht fun j b d _ _ => by
    have := nth_V he d
    simpa [Array.getD_eq_getD_getElem?, List.getD_eq_getElem?_getD] using this

theorem co_wp {ρ' : Option Nat} (hF : Fns P) (hcall : CallMOk P call) (hn : n ≤ 256) (hro : inR = false → ρ' = none) {i : Nat} {o : Oper} (ho : ops[i]? = some o) {k : KX} {e : Env} {h : Heap} {ds : List DVM} {L L' : List Res} (hr : (compO P inR n ops o).run call k e h ds = some L') (hs : ∀ r ∈ L', r ∈ L)
    {φ : List Emb} {w0 w : World} {a : Act} (hR : R P φ h w0 w) (he : Vs φ (envL n e) a.tmps.toList) (hds : DS φ ds a.defers) {K : Act → World → Prop} {Q : Exit → Act → World → Prop} (hk : SX P φ w0 n L K k) : wpOpIn (wideR ρ') 0 P ops Q i K a w := by
  unfold wpOpIn
  rw [ho]
  simp only
  rcases compO_run hr with ⟨hw, l, hd, hg⟩ | ⟨hw, hkk⟩
  · rw [guard_of he hw, if_pos rfl]
    refine does_wp hF hcall hro hR he hds hd fun x hx φ' w' a' hu hR' he' hd' => ?_
    obtain ⟨L'', h1, h2⟩ := hg.1 x hx
    exact hk _ _ _ L'' h1 (fun r hr => hs r (h2 r hr)) φ' w' a' hu hR' (by rw [dstOf_put hn]; exact he') hd'
  · rw [guard_of he hw, if_neg (by simp)]
    refine ⟨fun _ _ => trivial, hk _ _ _ L' hkk hs φ w _ (Up.refl _) hR ?_ (by rw [put_defers']; exact hds)⟩
    rw [dstOf_put hn]
    exact putA_V he o.dst (undef_V φ)

theorem opsM_wp {ρ' : Option Nat} (hF : Fns P) (hcall : CallMOk P call) (hn : n ≤ 256) (hro : inR = false → ρ' = none) {L : List Res} {w0 : World} {Q : Exit → Act → World → Prop} {k : KX} : ∀ (rest : List Oper) (j : Nat), ops.toList.drop j = rest → ∀ (e : Env) (h : Heap) (ds : List DVM) (L' : List Res) (φ : List Emb) (w : World) (a : Act),
    opsM call (rest.map (compO P inR n ops)) k e h ds = some L' → (∀ r ∈ L', r ∈ L) → R P φ h w0 w → Vs φ (envL n e) a.tmps.toList → DS φ ds a.defers → SX P φ w0 n L (Q .normal) k → wpOpsIn (wideR ρ') 0 P ops Q (List.range' j rest.length) a w
  | [], j, hj, e, h, ds, L', φ, w, a, hr, hs, hR, he, hd, hk => hk e h ds L' hr hs φ w a (Up.refl _) hR he hd
  | o :: rest, j, hj, e, h, ds, L', φ, w, a, hr, hs, hR, he, hd, hk => by
    have hok : ops[j]? = some o := by
      have : (ops.toList.drop j)[0]? = some o := by rw [hj]; rfl
      rw [List.getElem?_drop, Nat.add_zero, Array.getElem?_toList] at this
      exact this
    have hj' : ops.toList.drop (j + 1) = rest := by
      rw [← List.drop_drop, hj]; rfl
    simp only [List.length_cons, List.range'_succ]
    rw [wpOpsIn_cons]
    refine co_wp (k := opsM call (rest.map (compO P inR n ops)) k) hF hcall hn hro hok hr hs hR he hd ?_
    intro e' h' ds' L'' hr' hs' φ' w' a' hu hR' he' hd'
    exact opsM_wp hF hcall hn hro rest (j + 1) hj' e' h' ds' L'' φ' w' a' hr' hs' hR' he' hd' (hk.up hu)
end
end Go.Am

noncomputable section
namespace Go.Am
open Go.RowKit

/-- Calls that come to one thing, as the first machine takes them. -/
def callOne (call : CallM) : CallF := fun f a h => match call f a h with | some [p] => some (.ret p.1 p.2) | _ => none
theorem callOne_ok {P : Program} {call : CallM} (hcall : CallMOk P call) : CallsOk P (callOne call) := by
  intro f args h r hr
  unfold callOne at hr
  split at hr
  · rename_i p hp
    cases hr
    have hc := hcall.post _ _ _ _ hp
    intro φ w0 w args' hR hv
    have h1 := hc φ w0 w args' hR hv
    have key : ∀ e w', LPost P φ w0 [p] e w' → PostC P φ w0 (.ret p.1 p.2) e w' := by
      rintro e w' ⟨q, hq, hpost⟩
      rw [List.mem_singleton] at hq
      subst hq
      exact hpost
    split at h1
    · rename_i hlt
      rw [if_pos hlt]
      exact h1.mono key
    · rename_i hlt
      rw [if_neg hlt]
      intro e he
      exact (h1 e he).mono key
  · cases hr
theorem oneM_some {call : CallM} {f : FuncId} {a : List AV} {h : Heap} {l : List (AV × Heap)} (hl : oneM call f a h = some l) : ∃ p, l = [p] ∧ callOne call f a h = some (.ret p.1 p.2) ∧ call f a h = some [p] := by
  unfold oneM at hl
  unfold callOne
  cases hc : call f a h with
  | none => rw [hc] at hl; cases hl
  | some l0 =>
    rw [hc] at hl
    match l0, hl with
    | [], hl => cases hl
    | [p], hl => cases hl; exact ⟨p, rfl, rfl, rfl⟩
    | p :: q :: ps, hl => cases hl
theorem oneM_ok {P : Program} {call : CallM} (hcall : CallMOk P call) : CallMOk P (oneM call) where
  post := fun f args h L hL => by
    obtain ⟨p, rfl, _, h2⟩ := oneM_some hL
    exact hcall.post _ _ _ _ h2
  grow := fun f args h L hL => by
    obtain ⟨p, rfl, _, h2⟩ := oneM_some hL
    exact hcall.grow _ _ _ _ h2

section
variable {P : Program} {call : CallM} {inR : Bool} {n : Nat} {ops : Array Oper}

theorem opA_of_aop {c : CallF} {env : List AV} {h h' : Heap} {op : Op} {v : AV} (ha : aop P env h op = some (v, h')) : opA c P env h op = some (.ret v h') := by
  have plain : toRet (aop P env h op) = some (.ret v h') := by rw [ha]; rfl
  cases op with
  | call c' =>
    obtain ⟨callee, args, ats⟩ := c'
    cases callee with
    | value f => cases ha
    | invoke r m => cases ha
    | builtin b =>
      simp only [opA]
      unfold biA
      split
      · rename_i x hx
        simp only [aop, hx] at ha
        cases hats : ats.toList <;> rw [hats] at ha <;> simp [builtinA] at ha
      · exact plain
  | panic x => cases ha
  | _ => exact plain

theorem does_one {env : List AV} {h : Heap} {ds : List DVM} {op : Op} {l : List VHD} (hp : plainOp op = true) (hd : Does P (oneM call) inR env h ds op l) : ∃ v h', l = [⟨v, h', ds⟩] ∧ opA (callOne call) P env h op = some (.ret v h') := by
  cases hd with
  | plain ho => exact ⟨_, _, rfl, opA_of_aop ho⟩
  | call ht hc =>
    obtain ⟨p, rfl, h1, _⟩ := oneM_some hc
    refine ⟨p.1, p.2, rfl, ?_⟩
    cases ht with
    | fn hf hlt => simp only [opA, hf, callA, (blt_iff _ _).2 hlt, cond_true, h1]
    | yield hf => simp only [opA, hf, callA, h1]
    | invoke hf hm hlt => simp only [opA, hf, hm, callA, (blt_iff _ _).2 hlt, cond_true, h1]
  | nextM hn => cases hp
  | nextS hn => cases hp
  | defer hi hf => cases hp

theorem opsT_const (c : CallM) (k : KX) : ∀ (l : List CO) (acc : List EH), opsT c l acc (fun _ => k) = opsM c l k
  | [], acc => rfl
  | o :: l, acc => by
    funext e h ds
    cases o with
    | mk f =>
      show f c (opsT c l ((e, h) :: acc) (fun _ => k)) e h ds = f c (opsM c l k) e h ds
      rw [opsT_const c k l]

theorem opsT_run (hn : n ≤ 256) {K : List EH → KX} : ∀ (rest : List Oper) (e : Env) (h : Heap) (ds : List DVM) (acc : List EH) (L : List Res), (∀ o ∈ rest, plainOp o.op = true) → opsT (oneM call) (rest.map (compO P inR n ops)) acc K e h ds = some L →
    ∃ (tr : List TR) (ss : List EH) (e' : Env) (h' : Heap) (L' : List Res), ss.length = rest.length + 1 ∧ K (ss.reverse ++ acc) e' h' ds = some L' ∧ (∀ r, r ∈ L' ↔ r ∈ L) ∧ ss[0]? = some (e, h) ∧ ss[rest.length]? = some (e', h') ∧
      (∀ (i : Nat) (s : EH), ss[i]? = some s → ∃ x, tr[i]? = some x ∧ x.env = envL n s.1 ∧ x.heap = s.2) ∧ ∀ (i : Nat) (o : Oper), rest[i]? = some o → ∃ x y, tr[i]? = some x ∧ tr[i + 1]? = some y ∧ TrStep (callOne call) P ops o x y
  | [], e, h, ds, acc, L, hp, hr => by
    refine ⟨[⟨envL n e, h, .unk, false⟩], [(e, h)], e, h, L, rfl, hr, fun _ => Iff.rfl, rfl, rfl, fun i s hs => ?_, fun i o ho => by simp at ho⟩
    cases i with
    | zero => cases hs; exact ⟨_, rfl, rfl, rfl⟩
    | succ i => simp at hs
  | o :: rest, e, h, ds, acc, L, hp, hr => by
    have main : ∀ (v : AV) (h1 : Heap) (on : Bool) (L1 : List Res), TrStep (callOne call) P ops o ⟨envL n e, h, v, on⟩ ⟨putA (envL n e) o.dst v, h1, .unk, false⟩ → opsT (oneM call) (rest.map (compO P inR n ops)) ((e, h) :: acc) K ((dstOf n o.dst).put v e) h1 ds = some L1 → (∀ r, r ∈ L1 ↔ r ∈ L) →
        ∃ (tr : List TR) (ss : List EH) (e' : Env) (h' : Heap) (L' : List Res), ss.length = rest.length + 1 + 1 ∧ K (ss.reverse ++ acc) e' h' ds = some L' ∧ (∀ r, r ∈ L' ↔ r ∈ L) ∧ ss[0]? = some (e, h) ∧ ss[rest.length + 1]? = some (e', h') ∧
          (∀ (i : Nat) (s : EH), ss[i]? = some s → ∃ x, tr[i]? = some x ∧ x.env = envL n s.1 ∧ x.heap = s.2) ∧ ∀ (i : Nat) (o' : Oper), (o :: rest)[i]? = some o' → ∃ x y, tr[i]? = some x ∧ tr[i + 1]? = some y ∧ TrStep (callOne call) P ops o' x y := by
      intro v h1 on L1 hst hr1 hL1
      obtain ⟨tr, ss, e', h', L', g1, g2, gL, g3, g4, g5, g6⟩ := opsT_run hn rest _ _ _ _ _ (fun q hq => hp q (List.mem_cons_of_mem _ hq)) hr1
      obtain ⟨x0, hx0, hx1, hx2⟩ := g5 0 _ g3
      refine ⟨⟨envL n e, h, v, on⟩ :: tr, (e, h) :: ss, e', h', L', by simp [g1], by simpa using g2, fun r => (gL r).trans (hL1 r), rfl, by simpa using g4, fun i s hs => ?_, fun i o' ho' => ?_⟩
      · cases i with
        | zero => cases hs; exact ⟨_, rfl, rfl, rfl⟩
        | succ i => simp at hs; obtain ⟨x, h2, h3⟩ := g5 i s hs; exact ⟨x, by simpa using h2, h3⟩
      · cases i with
        | zero =>
          cases ho'
          refine ⟨_, x0, rfl, by simpa using hx0, ?_⟩
          unfold TrStep at hst ⊢
          rw [hx1, hx2, show envL n (((dstOf n o.dst).put v e, h1) : EH).1 = putA (envL n e) o.dst v from dstOf_put hn _ _ _]
          exact hst
        | succ i =>
          simp at ho'
          obtain ⟨x, y, h2, h3, h4⟩ := g6 i o' ho'
          exact ⟨x, y, by simpa using h2, by simpa using h3, h4⟩
    rcases compO_run (k := opsT (oneM call) (rest.map (compO P inR n ops)) ((e, h) :: acc) K) hr with ⟨hw, l, hd, hg⟩ | ⟨hw, hk⟩
    · obtain ⟨v, h1, rfl, ho⟩ := does_one (hp o List.mem_cons_self) hd
      obtain ⟨L'', h2, h3⟩ := hg.1 _ List.mem_cons_self
      refine main v h1 true L'' (.inl ⟨rfl, hw, ho, rfl⟩) h2 fun r => ⟨h3 r, fun hr => ?_⟩
      obtain ⟨x, hx, L3, h4, h5⟩ := hg.2 r hr
      rw [List.mem_singleton] at hx
      subst hx
      rw [h2] at h4
      cases h4
      exact h5
    · exact main (.tuple []) h false L (.inr ⟨rfl, hw, rfl, rfl, rfl⟩) hk fun _ => Iff.rfl

/-! ### The text's run -/

theorem aop_quiet {env : List AV} {h h' : Heap} {op : Op} {v : AV} (hl : loudA P op = false) (ha : aop P env h op = some (v, h')) : h' = h := by
  obtain ⟨u, h1, _⟩ := quiet_same (call := fun _ _ _ => none) hl (opA_of_aop ha)
  cases h1; rfl
theorem same_quiet {c : CallF} {X : Nat → TR} (step : ∀ (i : Nat) (o : Oper), ops[i]? = some o → TrStep c P ops o (X i) (X (i + 1))) (hd : needNot P (masks ops.toList []) (louds P ops.toList 0) ops.toList 0 = true) :
    ∀ (i : Nat) (o : Oper), ops[i]? = some o → (X i).on = true → readsA P o.op = true → loudA P o.op = false → ∀ p ∈ louds P ops.toList 0, mayAt (masks ops.toList []) i p (louds P ops.toList 0) = true → aop P (X i).env (X p).heap o.op = some ((X i).val, (X p).heap) := by
  intro i o ho hon hrd hl p hp hm
  have hil : i < ops.size := (Array.getElem?_eq_some_iff.1 ho).1
  have hps : p ≤ ops.size := by
    rw [mem_louds] at hp
    rcases hp with hp | ⟨o', _, ho', _⟩
    · simp at hp; omega
    · have := (List.getElem?_eq_some_iff.1 ho').1
      simp at this
      omega
  have text : opA c P (X i).env (X i).heap o.op = some (.ret (X i).val (X (i + 1)).heap) := by
    rcases step i o ho with ⟨_, _, h6, _⟩ | ⟨h6, _⟩
    · exact h6
    · rw [hon] at h6; cases h6
  obtain ⟨v, hv, ha⟩ := quiet_same hl text
  simp only [CRes.ret.injEq] at hv
  rw [← hv.1] at ha
  have h3 := needNot_at hd i o (by rw [Array.getElem?_toList]; exact ho) hrd hl
  rw [Nat.zero_add] at h3
  obtain ⟨h4, h5⟩ := only_at h3 p hp hm
  have : (X p).heap = (X i).heap := by
    refine quiet_between step p (by omega) hps (fun q hq hh => ?_)
    by_cases hqi : q = i
    · subst hqi
      rw [mem_louds] at hq
      rcases hq with hq | ⟨o', _, ho', hlo⟩
      · simp at hq; omega
      · have : o' = o := by
          rw [Nat.sub_zero, Array.getElem?_toList, ho] at ho'
          cases ho'; rfl
        subst this
        rw [hl] at hlo
        cases hlo
    · exact h5 q hq ⟨by omega, hh.2⟩
  rw [this]
  exact ha

theorem timesOf_mem {bs ls : List Nat} {i p : Nat} : ∀ {ps : List Nat}, p ∈ ps → mayAt bs i p ls = true → p ∈ timesOf bs ls i ps
  | [], hp, _ => by cases hp
  | q :: ps, hp, hm => by
    simp only [timesOf]
    rcases List.mem_cons.1 hp with rfl | hp
    · rw [hm, cond_true]; exact List.mem_cons_self
    · cases mayAt bs i q ls with
      | true => exact List.mem_cons_of_mem _ (timesOf_mem hp hm)
      | false => exact timesOf_mem hp hm
theorem readsOf_mem {bs ls : List Nat} : ∀ {os : List Oper} {k i : Nat} {o : Oper} {f : OpK}, os[i]? = some o → readsA P o.op = true → loudA P o.op = false → compOp P n o.op = .op f → RD.mk (k + i) (guardOf n ops o) f (timesOf bs ls (k + i) ls) ∈ readsOf P n ops bs ls os k
  | [], k, i, o, f, ho, _, _, _ => by simp at ho
  | q :: os, k, i, o, f, ho, hr, hl, hf => by
    simp only [readsOf]
    cases i with
    | zero =>
      cases ho
      rw [hr, hl, hf]
      exact List.mem_cons_self
    | succ i =>
      have hm := readsOf_mem (bs := bs) (ls := ls) (os := os) (k := k + 1) (by simpa using ho) hr hl hf
      rw [show k + 1 + i = k + (i + 1) by omega] at hm
      cases readsA P q.op && !loudA P q.op with
      | true => exact List.mem_cons_of_mem _ hm
      | false => exact hm
theorem rdAll_mem {tr : List EH} {m : Nat} : ∀ {l : List RD}, rdAll tr m l = true → ∀ r ∈ l, rdOk tr m r = true
  | [], _, r, hr => by cases hr
  | q :: l, h, r, hr => by
    change Bool.rec false (rdAll tr m l) (rdOk tr m q) = true at h
    cases hq : rdOk tr m q with
    | false => rw [hq] at h; cases h
    | true =>
      rw [hq] at h
      rcases List.mem_cons.1 hr with rfl | hr
      · exact hq
      · exact rdAll_mem h r hr
theorem rdTimes_mem {tr : List EH} {m : Nat} {f : OpK} {e : Env} {v : R1} : ∀ {ps : List Nat}, rdTimes tr m f e v ps = true → ∀ p ∈ ps, heapAt tr m p (fun h => sameR v (f e h)) = true
  | [], _, p, hp => by cases hp
  | q :: ps, h, p, hp => by
    change Bool.rec false (rdTimes tr m f e v ps) (heapAt tr m q (fun h => sameR v (f e h))) = true at h
    cases hq : heapAt tr m q (fun h => sameR v (f e h)) with
    | false => rw [hq] at h; cases h
    | true =>
      rw [hq] at h
      rcases List.mem_cons.1 hp with rfl | hp
      · exact hq
      · exact rdTimes_mem h p hp
theorem rdOk_mk {tr : List EH} {m i : Nat} {g : GD} {f : OpK} {ps : List Nat} (h : rdOk tr m (.mk i g f ps) = true) {s : EH} (hs : nthF (m - i) tr = some s) {t : Bool} (hw : wantG g s.1 = some t) : t = true → rdTimes tr m f s.1 (f s.1 s.2) ps = true := by
  intro ht
  subst ht
  have h1 : (Option.rec (motive := fun _ => Bool) false (fun q => Prod.rec (motive := fun _ => Bool) (fun e h => Option.rec (motive := fun _ => Bool) false (fun t => Bool.rec (motive := fun _ => Bool) true (rdTimes tr m f e (f e h) ps) t) (wantG g e)) q) (nthF (m - i) tr)) = true := h
  rw [hs] at h1
  obtain ⟨e, hh⟩ := s
  have h2 : Option.rec (motive := fun _ => Bool) false (fun t => Bool.rec (motive := fun _ => Bool) true (rdTimes tr m f e (f e hh) ps) t) (wantG g e) = true := h1
  simp only at hw
  rw [hw] at h2
  exact h2
theorem heapAt_some {tr : List EH} {m p : Nat} {k : Heap → Bool} (h : heapAt tr m p k = true) {s : EH} (hs : nthF (m - p) tr = some s) : k s.2 = true := by
  have h1 : (Option.rec (motive := fun _ => Bool) false (fun q => Prod.rec (motive := fun _ => Bool) (fun _ h => k h) q) (nthF (m - p) tr)) = true := h
  rw [hs] at h1
  exact h1
theorem rev_at {α : Type} {ss : List α} {m i : Nat} (hl : ss.length = m + 1) (hi : i ≤ m) : nthF (m - i) ss.reverse = ss[i]? := by
  rw [nthF_eq, List.getElem?_reverse (by omega)]
  congr 1; omega
theorem sameR_ok {a b : R1} (h : sameR a b = true) : ∃ v h1 h2, a = .ok v h1 ∧ b = .ok v h2 := by
  cases a with
  | no => cases h
  | ok v h1 =>
    cases b with
    | no => cases h
    | ok u h2 =>
      have := beqV_eq _ _ (show beqV u v = true from h)
      subst this
      exact ⟨_, _, _, rfl, rfl⟩
theorem same_dyn {c : CallF} {X : Nat → TR} {ss : List EH} (hl : ss.length = ops.size + 1) (hX : ∀ (i : Nat) (s : EH), ss[i]? = some s → (X i).env = envL n s.1 ∧ (X i).heap = s.2)
    (step : ∀ (i : Nat) (o : Oper), ops[i]? = some o → TrStep c P ops o (X i) (X (i + 1))) (hd : rdAll ss.reverse ops.size (readsOf P n ops (masks ops.toList []) (louds P ops.toList 0) ops.toList 0) = true) :
    ∀ (i : Nat) (o : Oper), ops[i]? = some o → (X i).on = true → readsA P o.op = true → loudA P o.op = false → ∀ p ∈ louds P ops.toList 0, mayAt (masks ops.toList []) i p (louds P ops.toList 0) = true → aop P (X i).env (X p).heap o.op = some ((X i).val, (X p).heap) := by
  intro i o ho hon hrd hlo p hp hm
  have hil : i < ops.size := (Array.getElem?_eq_some_iff.1 ho).1
  have hps : p ≤ ops.size := by
    rw [mem_louds] at hp
    rcases hp with hp | ⟨o', _, ho', _⟩
    · simp at hp; omega
    · have := (List.getElem?_eq_some_iff.1 ho').1
      simp at this
      omega
  have hsi : ss[i]? = some ss[i] := List.getElem?_eq_getElem (by omega)
  have hsp : ss[p]? = some ss[p] := List.getElem?_eq_getElem (by omega)
  cases hc : compOp P n o.op with
  | op f =>
    have hmem := readsOf_mem (bs := masks ops.toList []) (ls := louds P ops.toList 0) (ops := ops) (os := ops.toList) (k := 0) (i := i) (by rw [Array.getElem?_toList]; exact ho) hrd hlo hc
    have hok := rdAll_mem hd _ hmem
    rw [Nat.zero_add] at hok
    obtain ⟨hXe, hXh⟩ := hX i _ hsi
    obtain ⟨hPe, hPh⟩ := hX p _ hsp
    have hni : nthF (ops.size - i) ss.reverse = some ss[i] := by rw [rev_at hl (by omega), hsi]
    have hnp : nthF (ops.size - p) ss.reverse = some ss[p] := by rw [rev_at hl hps, hsp]
    have hstep := step i o ho
    have h1 : wantedA ops (X i).env o = some true ∧ opA c P (X i).env (X i).heap o.op = some (.ret (X i).val (X (i + 1)).heap) := by
      rcases hstep with ⟨_, h1, h2, _⟩ | ⟨h1, _⟩
      · exact ⟨h1, h2⟩
      · rw [hon] at h1; cases h1
    cases hw : wantG (guardOf n ops o) ss[i].1 with
    | none =>
      exfalso
      have h5 : (Option.rec (motive := fun _ => Bool) false (fun q => Prod.rec (motive := fun _ => Bool) (fun e h => Option.rec (motive := fun _ => Bool) false (fun t => Bool.rec (motive := fun _ => Bool) true (rdTimes ss.reverse ops.size f e (f e h) (timesOf (masks ops.toList []) (louds P ops.toList 0) i (louds P ops.toList 0))) t) (wantG (guardOf n ops o) e)) q) (nthF (ops.size - i) ss.reverse)) = true := hok
      rw [hni] at h5
      have h6 : Option.rec (motive := fun _ => Bool) false (fun t => Bool.rec (motive := fun _ => Bool) true (rdTimes ss.reverse ops.size f ss[i].1 (f ss[i].1 ss[i].2) (timesOf (masks ops.toList []) (louds P ops.toList 0) i (louds P ops.toList 0))) t) (wantG (guardOf n ops o) ss[i].1) = true := h5
      rw [hw] at h6
      cases h6
    | some t =>
      have := wantG_wanted hw
      rw [← hXe, h1.1] at this
      cases this
      have hok := rdOk_mk hok hni hw rfl
      have hp2 := heapAt_some (rdTimes_mem hok p (timesOf_mem hp hm)) hnp
      obtain ⟨v, ha, hb, h3, h4⟩ := sameR_ok hp2
      have r1 : (compOp P n o.op).run ss[i].1 ss[i].2 = .ok v ha := by rw [hc]; exact h3
      have r2 : (compOp P n o.op).run ss[i].1 ss[p].2 = .ok v hb := by rw [hc]; exact h4
      have a1 := compOp_run r1
      have a2 := compOp_run r2
      rw [← hXe, ← hXh] at a1
      rw [← hXe, ← hPh] at a2
      obtain ⟨u, hu, hua⟩ := quiet_same hlo h1.2
      simp only [CRes.ret.injEq] at hu
      rw [← hu.1] at hua
      rw [hua] at a1
      cases a1
      have := aop_quiet hlo a2
      subst this
      exact a2

/-- The text's order stands for all. -/
theorem draw_region {ρ : Option Nat} (hF : Fns P) (hm : P.follows .mixedOrders = true) {c : CallF} (hcall : CallsOk P c) (hst : drawStatic P ops (masks ops.toList []) = true) {e e' : List AV} {h h' : Heap} {X : Nat → TR} (T : TextRun c P ops (masks ops.toList []) e h e' h' X)
    {id : Nat} {w0 w : World} {Q : Exit → Act → World → Prop} {φ : List Emb} {a : Act} (hR : R P φ h w0 w) (he : Vs φ e a.tmps.toList) (hf : Final P φ w0 a.defers Q (.normal, e', h')) : cwp ρ P (.region id ops true) Q a w := by
  have S := static_of hst
  refine wpIn_region_any hm ?_
  have endMem : ops.size ∈ louds P ops.toList 0 := by rw [mem_louds]; exact .inl (by simp)
  have hfalse : ∀ i, (Array.replicate ops.size false).getD i false = false := by
    intro i
    simp [Array.getD_eq_getD_getElem?, Array.getElem?_replicate]
    split <;> rfl
  obtain ⟨p, hp, hmin⟩ : ∃ p ∈ louds P ops.toList 0, ∀ q ∈ louds P ops.toList 0, p ≤ q := by
    by_cases h0 : 0 ∈ louds P ops.toList 0
    · exact ⟨0, h0, fun q _ => Nat.zero_le _⟩
    · have hpos : 0 < ops.size := by
        rcases Nat.eq_zero_or_pos ops.size with h1 | h1
        · rw [h1] at endMem; exact absurd endMem h0
        · exact h1
      obtain ⟨p, hp, _, hmin⟩ := least_above (louds P ops.toList 0) 0 ops.size ⟨ops.size, endMem, hpos, Nat.le_refl _⟩
      refine ⟨p, hp, fun q hq => hmin q hq ?_⟩
      rcases Nat.eq_zero_or_pos q with h1 | h1
      · rw [h1] at hq; exact absurd hq h0
      · exact h1
  have hpn := hmin ops.size endMem
  have hheap : (X p).heap = h := by
    rw [quiet_between T.step p (Nat.zero_le _) hpn (fun q hq hh => by have := hmin q hq; omega), T.first.2]
  refine draw_wp hF hcall S T ops.size _ φ a _ p (by simp) ?_ ?_ hp ?_ (fun _ => hfalse p) ?_ ?_ ?_ ?_ rfl hf
  · intro i o ho hl; rw [hfalse] at hl; cases hl
  · unfold todo
    refine Nat.le_trans (List.countP_le_length) (by simp)
  · intro q hq hqp; have := hmin q hq; omega
  · rw [hheap]; exact hR.drew rfl rfl rfl rfl
  · intro j y t hy hl; rw [hfalse] at hl; cases hl
  · intro t _
    have := nth_V he t
    simpa [Array.getD_eq_getD_getElem?, List.getD_eq_getElem?_getD] using this
  · rw [← Array.length_toList, he.length]

theorem plain_all (h : (ops.toList.all fun o => plainOp o.op) = true) : ∀ o ∈ ops.toList, plainOp o.op = true := fun o ho => List.all_eq_true.1 h o ho

/-- A region whose order is the text's or any other. -/
theorem text_region {ρ : Option Nat} (hF : Fns P) (hm : P.follows .mixedOrders = true) (hcall : CallMOk P call) (hn : n ≤ 256) (hpl : (ops.toList.all fun o => plainOp o.op) = true) (hst : drawStatic P ops (masks ops.toList []) = true) {K : List EH → KX} {k : KX}
    (hK : (K = fun _ => k) ∧ needNot P (masks ops.toList []) (louds P ops.toList 0) ops.toList 0 = true ∨ K = fun tr e h ds => Bool.rec none (k e h ds) (rdAll tr ops.size (readsOf P n ops (masks ops.toList []) (louds P ops.toList 0) ops.toList 0)))
    {e : Env} {h : Heap} {ds : List DVM} {L L' : List Res} (hr : opsT (oneM call) (compOps P false n ops) [] K e h ds = some L') (hs : ∀ r ∈ L', r ∈ L) {id : Nat} {w0 w : World} {Q : Exit → Act → World → Prop} {φ : List Emb} {a : Act} (hR : R P φ h w0 w) (he : Vs φ (envL n e) a.tmps.toList) (hd : DS φ ds a.defers)
    (hk : SX P φ w0 n L (Q .normal) k) : cwp ρ P (.region id ops true) Q a w := by
  have hco : compOps P false n ops = ops.toList.map (compO P false n ops) := mapF_eq _ _
  rw [hco] at hr
  obtain ⟨tr, ss, e', h', L1, g1, g2, gL, g3, g4, g5, g6⟩ := opsT_run (inR := false) hn ops.toList e h ds [] L' (plain_all hpl) hr
  rw [List.append_nil] at g2
  let X : Nat → TR := fun i => tr.getD i ⟨[], h, .unk, false⟩
  have hX : ∀ i y, tr[i]? = some y → X i = y := fun i y hy => by simp [X, List.getD, hy]
  have hXs : ∀ (i : Nat) (s : EH), ss[i]? = some s → (X i).env = envL n s.1 ∧ (X i).heap = s.2 := fun i s hs => by
    obtain ⟨x, h1, h2, h3⟩ := g5 i s hs
    rw [hX i x h1]; exact ⟨h2, h3⟩
  have step : ∀ (i : Nat) (o : Oper), ops[i]? = some o → TrStep (callOne call) P ops o (X i) (X (i + 1)) := fun i o ho => by
    obtain ⟨x, y, h1, h2, h3⟩ := g6 i o (by rw [Array.getElem?_toList]; exact ho)
    rw [hX i x h1, hX (i + 1) y h2]; exact h3
  have hlast : ss[ops.size]? = some (e', h') := by rw [← Array.length_toList]; exact g4
  have fin : k e' h' ds = some L1 ∧ ∀ (i : Nat) (o : Oper), ops[i]? = some o → (X i).on = true → readsA P o.op = true → loudA P o.op = false → ∀ p ∈ louds P ops.toList 0, mayAt (masks ops.toList []) i p (louds P ops.toList 0) = true → aop P (X i).env (X p).heap o.op = some ((X i).val, (X p).heap) := by
    rcases hK with ⟨rfl, hnn⟩ | rfl
    · exact ⟨g2, same_quiet step hnn⟩
    · simp only at g2
      cases hrd : rdAll ss.reverse ops.size (readsOf P n ops (masks ops.toList []) (louds P ops.toList 0) ops.toList 0) with
      | false => rw [hrd] at g2; cases g2
      | true =>
        rw [hrd] at g2
        exact ⟨g2, same_dyn (by rw [g1, Array.length_toList]) hXs step hrd⟩
  have T : TextRun (callOne call) P ops (masks ops.toList []) (envL n e) h (envL n e') h' X := ⟨hXs 0 _ g3, hXs _ _ hlast, step, fin.2⟩
  refine draw_region hF hm (callOne_ok hcall) hst T hR he ?_
  intro φ' w' a' hu hR' he' hd'
  exact hk e' h' ds L1 fin.1 (fun r hr => hs r ((gL r).1 hr)) φ' w' a' hu hR' he' (by rw [hd']; exact hd.up hu)

theorem text_from (hcall : CallMOk P call) (hn : n ≤ 256) (hpl : (ops.toList.all fun o => plainOp o.op) = true) {K : List EH → KX} {k : KX} (hK : ∀ tr e h ds L, K tr e h ds = some L → k e h ds = some L)
    {e : Env} {h : Heap} {ds : List DVM} {L' : List Res} (hr : opsT (oneM call) (compOps P false n ops) [] K e h ds = some L') : From h k L' := by
  have hco : compOps P false n ops = ops.toList.map (compO P false n ops) := mapF_eq _ _
  rw [hco] at hr
  have gen : ∀ (rest : List Oper) (e : Env) (h : Heap) (ds : List DVM) (acc : List EH) (L : List Res), opsT (oneM call) (rest.map (compO P false n ops)) acc K e h ds = some L → From h k L := by
    intro rest
    induction rest with
    | nil => intro e h ds acc L hr; exact From.self (hK _ _ _ _ _ hr)
    | cons o rest ih =>
      intro e h ds acc L hr
      exact (compO_from (k := opsT (oneM call) (rest.map (compO P false n ops)) ((e, h) :: acc) K) (oneM_ok hcall) hr).trans fun e' h' ds' L' hk => ih e' h' ds' _ L' hk
  exact gen ops.toList e h ds [] L' hr
end
end Go.Am

noncomputable section
namespace Go.Am
open Go.RowKit

section
variable {P : Program} {c : CallF} {ops : Array Oper}

def Exec1 (c : CallF) (P : Program) (ops : Array Oper) (o : Oper) (e : List AV) (h : Heap) (v : AV) (h' : Heap) : Prop :=
  (wantedA ops e o = some true ∧ opA c P e h o.op = some (.ret v h')) ∨ (wantedA ops e o = some false ∧ v = .tuple [] ∧ h' = h)
def chk1 (P : Program) (ops : Array Oper) (o : Oper) (e : List AV) (h : Heap) : Prop :=
  (wantedA ops e o = some true ∧ ∃ d h', o.dst = some d ∧ aop P e h o.op = some (nth e d, h')) ∨ wantedA ops e o = some false
/-- One operation. -/
def stepO (c : CallF) (P : Program) (ops : Array Oper) (K : List AV → Heap → Prop) (e : List AV) (h : Heap) : Option Oper → Prop
  | some o => ∃ v h', Exec1 c P ops o e h v h' ∧ K (putA e o.dst v) h'
  | none => False
def TP (c : CallF) (P : Program) (ops : Array Oper) : Plan → List AV → Heap → (List AV → Heap → Prop) → Prop
  | .done, e, h, K => K e h
  | .quiet i p, e, h, K => stepO c P ops (fun e' h' => TP c P ops p e' h' K) e h ops[i]?
  | .alt i cs p q, e, h, K => stepO c P ops (fun e' h' => (∀ s ∈ cs, ∀ y, ops[s]? = some y → chk1 P ops y e' h') ∧ TP c P ops p e' h' K) e h ops[i]? ∧ TP c P ops q e h K
  | .stop, _, _, _ => True

theorem stepO.mono {K K' : List AV → Heap → Prop} (hk : ∀ e h, K e h → K' e h) {e : List AV} {h : Heap} : ∀ {o : Option Oper}, stepO c P ops K e h o → stepO c P ops K' e h o
  | some _, ⟨v, h', h1, h2⟩ => ⟨v, h', h1, hk _ _ h2⟩
  | none, h => h.elim
theorem TP.mono {K K' : List AV → Heap → Prop} (hk : ∀ e h, K e h → K' e h) : ∀ (p : Plan) (e : List AV) (h : Heap), TP c P ops p e h K → TP c P ops p e h K'
  | .done, e, h, ht => hk _ _ ht
  | .quiet i p, e, h, ht => stepO.mono (fun e h => TP.mono hk p e h) ht
  | .alt i cs p q, e, h, ht => ⟨stepO.mono (fun e h hh => ⟨hh.1, TP.mono hk p e h hh.2⟩) ht.1, TP.mono hk q e h ht.2⟩
  | .stop, _, _, _ => trivial

structure Strict (ops : Array Oper) (bs : List Nat) : Prop where
  edge : ∀ (j : Nat) (y : Oper), ops[j]? = some y → ∀ e ∈ y.after.toList, bindsA e = true → e.on < j
  dst : ∀ (i j : Nat) (x y : Oper) (d : Tmp), i ≠ j → ops[i]? = some x → ops[j]? = some y → x.dst = some d → y.dst ≠ some d
  use : ∀ (i j : Nat) (x y : Oper) (d : Tmp), ops[i]? = some x → ops[j]? = some y → x.dst = some d → d ∈ usesA ops y → Nat.testBit (bs.getD j 0) i = true ∨ Nat.testBit (bs.getD i 0) j = true
theorem strict_of {ops : Array Oper} {bs : List Nat} (h : strictOk ops bs = true) : Strict ops bs := by
  have h1 := allFrom_at h
  have h2 : ∀ (i j : Nat) (x y : Oper), ops[i]? = some x → ops[j]? = some y → (Nat.beq i j || dstOk x y) = true ∧ ∀ d, x.dst = some d → (!(usesA ops y).contains d || Nat.testBit (bs.getD j 0) i || Nat.testBit (bs.getD i 0) j) = true := by
    intro i j x y hi hj
    have h3 := h1 j y (by rw [Array.getElem?_toList]; exact hj)
    rw [Bool.and_eq_true] at h3
    have h4 := allFrom_at h3.2 i x (by rw [Array.getElem?_toList]; exact hi)
    rw [Nat.zero_add, Nat.zero_add, Bool.and_eq_true] at h4
    refine ⟨h4.1, fun d hd => ?_⟩
    have h5 := h4.2
    rw [hd] at h5
    exact h5
  refine ⟨fun j y hj e he hb => ?_, fun i j x y d hij hi hj hx hy => ?_, fun i j x y d hi hj hx hd => ?_⟩
  · have h3 := h1 j y (by rw [Array.getElem?_toList]; exact hj)
    rw [Bool.and_eq_true, List.all_eq_true] at h3
    have h4 := h3.1 e he
    rw [hb, Nat.zero_add] at h4
    simpa using (blt_iff _ _).1 (by simpa using h4)
  · have h3 := (h2 i j x y hi hj).1
    rw [Bool.or_eq_true] at h3
    rcases h3 with h4 | h4
    · exact hij (Nat.eq_of_beq_eq_true h4)
    · simp only [dstOk, hx, hy] at h4
      simp at h4
  · have h4 := (h2 i j x y hi hj).2 d hx
    have : (usesA ops y).contains d = true := by simpa using hd
    rw [this] at h4
    simpa using h4
theorem sub_of {ops : Array Oper} {bs : List Nat} {i : Nat} {L : List Nat} (h : subOk ops bs i L = true) {j : Nat} (hj : j < ops.size) (hb : Nat.testBit (bs.getD i 0) j = true) : j ∈ L := by
  have h1 := allFrom_at h j ops[j] (by rw [Array.getElem?_toList]; exact Array.getElem?_eq_getElem hj)
  rw [Nat.zero_add, hb] at h1
  simpa using h1
theorem allFrom_of {p : Nat → Oper → Bool} : ∀ {l : List Oper} {k : Nat}, (∀ (i : Nat) (o : Oper), l[i]? = some o → p (k + i) o = true) → allFrom p l k = true
  | [], _, _ => rfl
  | o :: os, k, h => by
    simp only [allFrom, Bool.and_eq_true]
    refine ⟨by simpa using h 0 o rfl, allFrom_of fun i x hi => ?_⟩
    have := h (i + 1) x (by simpa using hi)
    rw [show k + 1 + i = k + (i + 1) by omega]; exact this
theorem sub_mk {ops : Array Oper} {bs : List Nat} {i : Nat} {L : List Nat} (h : ∀ j, Nat.testBit (bs.getD i 0) j = true → j ∈ L) : subOk ops bs i L = true := by
  refine allFrom_of fun j o _ => ?_
  rw [Nat.zero_add]
  cases hb : Nat.testBit (bs.getD i 0) j with
  | false => rfl
  | true => simpa using h j hb
theorem use_of {ops : Array Oper} {bs : List Nat} {i : Nat} {L : List Nat} (h : useOk P ops bs i L = true) {oi : Oper} (hi : ops[i]? = some oi) {d : Tmp} (hd : oi.dst = some d) {x : Nat} {y : Oper} (hx : ops[x]? = some y) (hxL : x ∈ L) (hu : d ∈ usesA ops y) :
    loudA P y.op = true ∨ ∃ l ∈ L, ∃ z, ops[l]? = some z ∧ loudA P z.op = true ∧ Nat.testBit (bs.getD l 0) x = true := by
  unfold useOk at h
  simp only [hi, Option.bind_some, hd] at h
  have h1 := allFrom_at h x y (by rw [Array.getElem?_toList]; exact hx)
  rw [Nat.zero_add] at h1
  have h2 : L.contains x = true := by simpa using hxL
  have h3 : (usesA ops y).contains d = true := by simpa using hu
  rw [h2, h3] at h1
  simp only [Bool.not_true, Bool.false_or, Bool.or_eq_true] at h1
  rcases h1 with h1 | h1
  · exact .inl h1
  · rw [List.any_eq_true] at h1
    obtain ⟨l, hl, h4⟩ := h1
    rw [Bool.and_eq_true] at h4
    right
    refine ⟨l, hl, ?_⟩
    cases hz : ops[l]? with
    | none => rw [hz] at h4; exact absurd h4.1 (by simp)
    | some z => rw [hz] at h4; exact ⟨z, rfl, h4.1, h4.2⟩

theorem uses_guard {o : Oper} {j : Nat} {b : Bool} {d : Tmp} (hg : o.guard = some (j, b)) (hd : (ops[j]?).bind (·.dst) = some d) : d ∈ usesA ops o := by
  unfold usesA
  refine List.mem_append.2 (.inr ?_)
  rw [hg]
  simp only [hd]
  simp
theorem uses_tmp {o : Oper} {t : Tmp} (h : .tmp t ∈ o.op.operands.toList) : t ∈ usesA ops o := by
  unfold usesA
  refine List.mem_append.2 (.inl ?_)
  rw [List.mem_filterMap]
  exact ⟨.tmp t, h, rfl⟩
theorem wanted_congr {o : Oper} {e e' : List AV} (h : ∀ t ∈ usesA ops o, nth e t = nth e' t) : wantedA ops e o = wantedA ops e' o := by
  unfold wantedA
  split
  · rfl
  · rename_i j b hg
    split
    · rfl
    · rename_i d hd
      rw [h d (uses_guard hg hd)]
theorem opA_uses {o : Oper} {e e' : List AV} (h : ∀ t ∈ usesA ops o, nth e t = nth e' t) (hh : Heap) : opA c P e hh o.op = opA c P e' hh o.op := by
  refine opA_congr fun x hx => ?_
  cases x with
  | tmp t => exact h t (uses_tmp hx)
  | _ => rfl
theorem Exec1.congr {o : Oper} {e e' : List AV} {h h' : Heap} {v : AV} (hx : Exec1 c P ops o e h v h') (hu : ∀ t ∈ usesA ops o, nth e t = nth e' t) : Exec1 c P ops o e' h v h' := by
  unfold Exec1
  rw [← wanted_congr hu, ← opA_uses hu]
  exact hx
theorem Exec1.heap {o : Oper} (hl : loudA P o.op = false) {e : List AV} {h h' : Heap} {v : AV} (hx : Exec1 c P ops o e h v h') : h' = h := by
  rcases hx with ⟨_, h2⟩ | ⟨_, _, rfl⟩
  · obtain ⟨u, h3, _⟩ := quiet_same hl h2
    cases h3; rfl
  · rfl
theorem Exec1.free {o : Oper} (hl : loudA P o.op = false) (hr : readsA P o.op = false) {e : List AV} {h : Heap} {v : AV} (hx : Exec1 c P ops o e h v h) (h2 : Heap) : Exec1 c P ops o e h2 v h2 := by
  rcases hx with ⟨h1, h3⟩ | ⟨h1, h3, _⟩
  · obtain ⟨u, h4, h5⟩ := quiet_same hl h3
    cases h4
    exact .inl ⟨h1, opA_of_aop (quiet_free hl hr h5 h2)⟩
  · exact .inr ⟨h1, h3, rfl⟩
theorem Exec1.check {o : Oper} (hl : loudA P o.op = false) {e : List AV} {h h2 : Heap} {v : AV} (hx : Exec1 c P ops o e h v h) (hc : chk1 P ops o e h2) (hd : ∀ d, o.dst = some d → nth e d = v) : Exec1 c P ops o e h2 v h2 := by
  rcases hx with ⟨h1, h3⟩ | ⟨h1, h3, _⟩
  · refine .inl ⟨h1, ?_⟩
    rcases hc with ⟨_, d, h', h4, h5⟩ | h4
    · rw [hd d h4] at h5
      have := aop_quiet hl h5
      subst this
      exact opA_of_aop h5
    · rw [h1] at h4; cases h4
  · exact .inr ⟨h1, h3, rfl⟩

theorem wp_exec1 {ρ : Option Nat} (hF : Fns P) (hcall : CallsOk P c) {w0 : World} {Q : Exit → Act → World → Prop} {φ : List Emb} {h h' : Heap} {w : World} (hR : R P φ h w0 w) {e : List AV} {a : Act} {i : Nat} {o : Oper} (ho : ops[i]? = some o) {v : AV} (hx : Exec1 c P ops o e h v h')
    (hV : ∀ t ∈ usesA ops o, V φ (nth e t) (a.tmps.getD t undef)) {K : Act → World → Prop} (hK : ∀ (φ' : List Emb) (w' : World) (v' : Value), Up φ φ' → R P φ' h' w0 w' → V φ' v v' → K (a.put o.dst v') w') : wpOpIn (wideR ρ) 0 P ops Q i K a w := by
  let env : List AV := (List.range e.length).map fun t => if t ∈ usesA ops o then nth e t else .unk
  have henv : ∀ t, nth env t = if t ∈ usesA ops o then nth e t else .unk := by
    intro t
    by_cases htl : t < e.length
    · have : env[t]? = some (if t ∈ usesA ops o then nth e t else .unk) := by simp [env, htl]
      rw [nth_list _ _ _ this]
    · rw [nth_big env t (by simp [env]; omega), nth_big e t (by omega)]
      simp
  have hVenv : ∀ t, V φ (nth env t) (a.tmps.getD t undef) := by
    intro t
    rw [henv]
    split
    · rename_i hh; exact hV t hh
    · simp [V]
  have hρ : ∀ x, V φ (evalA P env x) (a.eval x) := by
    intro x
    cases x with
    | tmp t => exact hVenv t
    | const v =>
      simp only [evalA, Act.eval]
      split
      · rename_i b hb; exact ofValue_V hb
      · simp [V]
    | global g =>
      simp only [evalA, Act.eval]
      cases hb : Nat.blt g P.globals.size with
      | true =>
        obtain ⟨n, hn⟩ := hR.glob g ((blt_iff _ _).1 hb)
        simp only [cond_true, V]
        exact ⟨_, hn, by simp⟩
      | false => simp [V]
    | func f => simp [evalA, Act.eval, V, Vs]
  have hag : ∀ t ∈ usesA ops o, nth e t = nth env t := fun t ht => by rw [henv, if_pos ht]
  have hwant : ∀ b, wantedA ops e o = some b → Region.wanted o (yielded ops a.tmps) = b := fun b hb =>
    wantedA_eq (φ := φ) hb fun j c d hg hd => hV d (uses_guard hg hd)
  unfold wpOpIn
  rw [ho]
  simp only
  rcases hx with ⟨h1, h2⟩ | ⟨h1, rfl, rfl⟩
  · rw [hwant true h1]
    simp only [if_true]
    rw [opA_uses hag] at h2
    refine opA_wp hF hcall hR hρ h2 ?_
    intro φ' w' v' hu hR' hv
    exact hK φ' w' v' hu hR' hv
  · rw [hwant false h1]
    simp only [Bool.false_eq_true, if_false]
    exact ⟨fun _ _ => trivial, hK φ w undef (Up.refl _) hR (undef_V φ)⟩

theorem mask_lt (S : Strict ops (masks ops.toList [])) : ∀ (i : Nat) (o : Oper), ops[i]? = some o → ∀ j, Nat.testBit ((masks ops.toList []).getD i 0) j = true → j < i := by
  intro i
  induction i using Nat.strongRecOn with
  | _ i ih =>
    intro o ho j hj
    obtain ⟨pre, h1, h2, h3⟩ := masks_at ops.toList [] i o (by rw [Array.getElem?_toList]; exact ho)
    simp only [List.length_nil, Nat.zero_add] at h1 h2
    rw [h2] at hj
    obtain ⟨ed, hed, hb, hh⟩ := maskOf_bit hj
    have hlt := S.edge i o ho ed hed hb
    rcases hh with rfl | hh
    · exact hlt
    · rw [h3 _ (by omega)] at hh
      have hil : i < ops.size := (Array.getElem?_eq_some_iff.1 ho).1
      have ho2 : ops[ed.on]? = some ops[ed.on] := Array.getElem?_eq_getElem (by omega)
      have := ih ed.on hlt ops[ed.on] ho2 j hh
      omega
theorem closed_bit' (S : Strict ops (masks ops.toList [])) {listed : Array Bool} (hc : Closed ops listed) : ∀ (i : Nat) (o : Oper), ops[i]? = some o → (∀ e ∈ o.after.toList, bindsA e = true → listed.getD e.on false = true) → ∀ j, Nat.testBit ((masks ops.toList []).getD i 0) j = true → listed.getD j false = true := by
  intro i
  induction i using Nat.strongRecOn with
  | _ i ih =>
    intro o ho he j hj
    obtain ⟨pre, h1, h2, h3⟩ := masks_at ops.toList [] i o (by rw [Array.getElem?_toList]; exact ho)
    simp only [List.length_nil, Nat.zero_add] at h1 h2
    rw [h2] at hj
    obtain ⟨ed, hed, hb, hh⟩ := maskOf_bit hj
    have hlt := S.edge i o ho ed hed hb
    have hl := he ed hed hb
    rcases hh with rfl | hh
    · exact hl
    · rw [h3 _ (by omega)] at hh
      have hil : i < ops.size := (Array.getElem?_eq_some_iff.1 ho).1
      have ho2 : ops[ed.on]? = some ops[ed.on] := Array.getElem?_eq_getElem (by omega)
      exact ih ed.on hlt ops[ed.on] ho2 (hc ed.on _ ho2 hl) j hh

/-! ### Every order -/

/-- What is done for the abstract machine (L), against what is done indeed (listed). -/
structure St (c : CallF) (P : Program) (ops : Array Oper) (φ : List Emb) (listed : Array Bool) (a : Act) (L : List Nat) (e : List AV) (h : Heap) : Prop where
  lt : ∀ i ∈ L, i < ops.size
  sub : ∀ i, listed.getD i false = true → i ∈ L
  cl : ∀ i ∈ L, ∀ j, Nat.testBit ((masks ops.toList []).getD i 0) j = true → j ∈ L
  pend : ∀ i ∈ L, listed.getD i false = false → ∀ o, ops[i]? = some o → loudA P o.op = false ∧ ∃ v, Exec1 c P ops o e h v h ∧ ∀ d, o.dst = some d → d < e.length → nth e d = v
  val : ∀ t, (∀ j ∈ L, listed.getD j false = false → ∀ y, ops[j]? = some y → y.dst ≠ some t) → V φ (nth e t) (a.tmps.getD t undef)
  nouse : ∀ i ∈ L, listed.getD i false = false → ∀ j ∈ L, listed.getD j false = false → ∀ x y t, ops[i]? = some x → ops[j]? = some y → y.dst = some t → t ∈ usesA ops x → Nat.testBit ((masks ops.toList []).getD i 0) j = true
  len : a.tmps.size = e.length

/-- What is quiet is done ahead. -/
theorem St.ahead (S : Strict ops (masks ops.toList [])) {φ : List Emb} {listed : Array Bool} (hc : Closed ops listed) {a : Act} {L : List Nat} {e : List AV} {h h' : Heap} (I : St c P ops φ listed a L e h) {q : Nat} {o : Oper} (ho : ops[q]? = some o) (hl : loudA P o.op = false) (hq : q ∉ L)
    (hsub : ∀ j, Nat.testBit ((masks ops.toList []).getD q 0) j = true → j ∈ L) (huse : useOk P ops (masks ops.toList []) q L = true) {v : AV} (hx : Exec1 c P ops o e h v h') : h' = h ∧ St c P ops φ listed a (q :: L) (putA e o.dst v) h := by
  have hh := hx.heap hl
  subst hh
  have hql := (Array.getElem?_eq_some_iff.1 ho).1
  have hself : ¬ Nat.testBit ((masks ops.toList []).getD q 0) q = true := fun hb => by have := mask_lt S q o ho q hb; omega
  -- a pending one does not look at what q writes
  have noLook : ∀ i ∈ q :: L, listed.getD i false = false → ∀ y, ops[i]? = some y → ∀ t, o.dst = some t → t ∉ usesA ops y := by
    intro i hi hil y hy t hd ht
    rcases S.use q i o y t ho hy hd ht with hb | hb
    · rcases List.mem_cons.1 hi with rfl | hi
      · exact hself hb
      · exact hq (I.cl i hi q hb)
    · rcases List.mem_cons.1 hi with rfl | hi
      · exact hself hb
      · rcases use_of huse ho hd hy hi ht with h1 | ⟨l, hlL, z, hz, hzl, hzb⟩
        · rw [(I.pend i hi hil y hy).1] at h1; cases h1
        · have hll : listed.getD l false = true := by
            cases hh : listed.getD l false with
            | true => rfl
            | false => rw [(I.pend l hlL hh z hz).1] at hzl; cases hzl
          have := closed_bit' S hc l z hz (hc l z hz hll) i hzb
          rw [hil] at this; cases this
  have huses : ∀ i ∈ q :: L, listed.getD i false = false → ∀ y, ops[i]? = some y → ∀ t ∈ usesA ops y, nth e t = nth (putA e o.dst v) t := by
    intro i hi hil y hy t ht
    rw [nth_putA, if_neg]
    rintro ⟨hd, _⟩
    exact noLook i hi hil y hy t hd ht
  have hqn : listed.getD q false = false := by
    cases hc : listed.getD q false with
    | false => rfl
    | true => exact absurd (I.sub q hc) hq
  refine ⟨rfl, ?_⟩
  exact {
    lt := fun i hi => by
      rcases List.mem_cons.1 hi with rfl | hi
      · exact hql
      · exact I.lt i hi
    sub := fun i hi => List.mem_cons_of_mem _ (I.sub i hi)
    cl := fun i hi j hj => by
      rcases List.mem_cons.1 hi with rfl | hi
      · exact List.mem_cons_of_mem _ (hsub j hj)
      · exact List.mem_cons_of_mem _ (I.cl i hi j hj)
    pend := fun i hi hil y hy => by
      have hu := huses i hi hil y hy
      rcases List.mem_cons.1 hi with rfl | hi
      · rw [ho] at hy
        cases hy
        exact ⟨hl, v, hx.congr hu, fun d hd hdl => by rw [nth_putA, if_pos ⟨hd, by rwa [putA_length] at hdl⟩]⟩
      · obtain ⟨h1, u, h2, h3⟩ := I.pend i hi hil y hy
        refine ⟨h1, u, h2.congr hu, fun d hd hdl => ?_⟩
        rw [putA_length] at hdl
        rw [nth_putA, if_neg, h3 d hd hdl]
        rintro ⟨hd2, _⟩
        exact S.dst q i o y d (by rintro rfl; exact hq hi) ho hy hd2 hd
    val := fun t ht => by
      rw [nth_putA, if_neg]
      · exact I.val t fun j hj hjl y hy => ht j (List.mem_cons_of_mem _ hj) hjl y hy
      · rintro ⟨hd, _⟩
        exact ht q List.mem_cons_self hqn o ho hd
    nouse := fun i hi hil j hj hjl x y t hx hy hd ht => by
      by_cases hjq : j = q
      · subst hjq
        rw [ho] at hy; cases hy
        exact absurd ht (noLook i hi hil x hx t hd)
      · have hj2 : j ∈ L := (List.mem_cons.1 hj).resolve_left hjq
        by_cases hiq : i = q
        · rcases S.use j i y x t hy hx hd ht with hb | hb
          · exact hb
          · exact absurd (hiq ▸ I.cl j hj2 i hb) hq
        · exact I.nouse i ((List.mem_cons.1 hi).resolve_left hiq) hil j hj2 hjl x y t hx hy hd ht
    len := by rw [putA_length]; exact I.len }

/-- The next one, wherever the plan has it. -/
theorem plan_next (S : Strict ops (masks ops.toList [])) {φ : List Emb} {listed : Array Bool} (hc : Closed ops listed) {a : Act} {h : Heap} {K : List AV → Heap → Prop} {x : Nat} {o : Oper} (ho : ops[x]? = some o) (hxd : ∀ j, Nat.testBit ((masks ops.toList []).getD x 0) j = true → listed.getD j false = true) :
    ∀ (pl : Plan) (L as : List Nat) (e : List AV), planOk P ops (masks ops.toList []) pl L as = true → TP c P ops pl e h K → x ∉ L → x ∉ as → St c P ops φ listed a L e h →
      (∃ (L' : List Nat) (e' : List AV) (p : Plan), x ∈ L' ∧ planOk P ops (masks ops.toList []) p L' [] = true ∧ TP c P ops p e' h K ∧ St c P ops φ listed a L' e' h) ∨
      (∃ (L' : List Nat) (e' : List AV) (cs : List Nat) (p : Plan), x ∉ L' ∧ planOk P ops (masks ops.toList []) p (x :: L') [] = true ∧ (∀ s ∈ L', ∀ y, ops[s]? = some y → Nat.testBit ((masks ops.toList []).getD x 0) s = false → loudA P y.op = false → readsA P y.op = true → s ∈ cs) ∧
        stepO c P ops (fun e2 h2 => (∀ s ∈ cs, ∀ y, ops[s]? = some y → chk1 P ops y e2 h2) ∧ TP c P ops p e2 h2 K) e' h (some o) ∧ St c P ops φ listed a L' e' h)
  | .done, L, as, e, hp, ht, hxL, hxa, I => by
    have := allFrom_at hp x o (by rw [Array.getElem?_toList]; exact ho)
    rw [Nat.zero_add] at this
    exact absurd (by simpa using this) hxL
  | .stop, L, as, e, hp, ht, hxL, hxa, I => by
    simp only [planOk, Bool.and_eq_true] at hp
    have := allFrom_at hp.2 x o (by rw [Array.getElem?_toList]; exact ho)
    rw [Nat.zero_add, sub_mk (fun j hj => I.sub j (hxd j hj))] at this
    simp only [Bool.not_true, Bool.or_false, Bool.or_eq_true, List.contains_eq_mem, decide_eq_true_eq] at this
    rcases this with h1 | h1
    · exact absurd h1 hxL
    · exact absurd h1 hxa
  | .quiet i p, L, as, e, hp, ht, hxL, hxa, I => by
    simp only [planOk, Bool.and_eq_true] at hp
    obtain ⟨⟨⟨⟨h1, h2⟩, h3⟩, h3'⟩, h4⟩ := hp
    simp only [TP] at ht
    cases hoi : ops[i]? with
    | none => rw [hoi] at h1; cases h1
    | some oi =>
      rw [hoi] at h1 ht
      simp only [Bool.not_eq_true'] at h1
      obtain ⟨v, h', hx, hT⟩ := ht
      have hiL : i ∉ L := by simpa using h2
      have hsub : ∀ j, Nat.testBit ((masks ops.toList []).getD i 0) j = true → j ∈ L := fun j hj => by
        have hjl : j < ops.size := by
          have hil := (Array.getElem?_eq_some_iff.1 hoi).1
          have := mask_lt S i oi hoi j hj
          omega
        exact sub_of h3 hjl hj
      obtain ⟨rfl, I'⟩ := I.ahead S hc hoi h1 hiL hsub h3' hx
      by_cases hxi : x = i
      · subst hxi
        exact .inl ⟨_, _, p, List.mem_cons_self, h4, hT, I'⟩
      · exact plan_next S hc ho hxd p (i :: L) [] _ h4 hT (by simp [hxi, hxL]) (by simp) I'
  | .alt i cs p q, L, as, e, hp, ht, hxL, hxa, I => by
    simp only [planOk, Bool.and_eq_true] at hp
    obtain ⟨⟨⟨⟨⟨h1, h2⟩, h3⟩, h4⟩, h5⟩, h6⟩ := hp
    simp only [TP] at ht
    by_cases hxi : x = i
    · subst hxi
      refine .inr ⟨L, e, cs, p, hxL, h5, fun s hs y hy hb hly hry => ?_, by rw [← ho]; exact ht.1, I⟩
      have := allFrom_at h4 s y (by rw [Array.getElem?_toList]; exact hy)
      rw [Nat.zero_add, hb, hly, hry] at this
      simpa [hs] using this
    · exact plan_next S hc ho hxd q L (i :: as) e h6 ht.2 hxL (by simp [hxi, hxa]) I

theorem put_get {e : List AV} {a : Act} (hsz : a.tmps.size = e.length) (o : Oper) (v' : Value) (t : Tmp) : (a.put o.dst v').tmps.getD t undef = if o.dst = some t ∧ t < e.length then v' else a.tmps.getD t undef := by
  cases hd : o.dst with
  | none => simp [Act.put]
  | some d =>
    simp only [Act.put, Option.some.injEq]
    by_cases hdt : d = t
    · subst hdt
      by_cases htl : d < e.length
      · simp [Array.getD_eq_getD_getElem?, hsz, htl]
      · simp [Array.getD_eq_getD_getElem?, hsz, htl]
    · simp [Array.getD_eq_getD_getElem?, Array.getElem?_setIfInBounds_ne hdt, hdt]

theorem tree_wp {ρ : Option Nat} (hF : Fns P) (hcall : CallsOk P c) (S : Strict ops (masks ops.toList [])) {n : Nat} (hdst : ∀ (i : Nat) (o : Oper) (d : Tmp), ops[i]? = some o → o.dst = some d → d < n) {w0 : World} {Q : Exit → Act → World → Prop} {ds : List Deferred} {K : List AV → Heap → Prop} : ∀ (fuel : Nat) (listed : Array Bool) (φ : List Emb) (a : Act) (w : World) (pl : Plan) (L : List Nat) (e : List AV) (h : Heap),
    e.length = n → listed.size = ops.size → Closed ops listed → todo ops.size listed ≤ fuel → planOk P ops (masks ops.toList []) pl L [] = true → TP c P ops pl e h K → St c P ops φ listed a L e h → R P φ h w0 w → a.defers = ds →
    (∀ e' h', e'.length = n → K e' h' → Final P φ w0 ds Q (.normal, e', h')) → wpAnyIn (wideR ρ) 0 P .any ops Q fuel listed a w := by
  have getDs : ∀ (listed : Array Bool) (i : Nat), listed.size = ops.size → i < ops.size → listed.getD i true = listed.getD i false := by
    intro listed i hs hi
    simp [Array.getD_eq_getD_getElem?, Array.getElem?_eq_getElem (show i < listed.size by omega)]
  have allDone : ∀ (listed : Array Bool), listed.size = ops.size → Region.ready .any ops listed = [] → ∀ i, i < ops.size → listed.getD i false = true := by
    intro listed hs hr i
    induction i using Nat.strongRecOn with
    | _ i ih =>
      intro hi
      cases hl : listed.getD i false with
      | true => rfl
      | false =>
        have ho : ops[i]? = some ops[i] := Array.getElem?_eq_getElem hi
        have : i ∈ Region.ready .any ops listed := by
          rw [ready_iff]
          refine ⟨_, ho, by rw [getDs listed i hs hi]; exact hl, fun ed hed hb => ?_⟩
          have := S.edge i _ ho ed hed hb
          exact ih ed.on this (by omega)
        rw [hr] at this
        cases this
  have finish : ∀ (listed : Array Bool) (φ : List Emb) (a : Act) (w : World) (pl : Plan) (L : List Nat) (e : List AV) (h : Heap), e.length = n → (∀ i, i < ops.size → listed.getD i false = true) → planOk P ops (masks ops.toList []) pl L [] = true → TP c P ops pl e h K → St c P ops φ listed a L e h → R P φ h w0 w → a.defers = ds →
      (∀ e' h', e'.length = n → K e' h' → Final P φ w0 ds Q (.normal, e', h')) → Q .normal a w := by
    intro listed φ a w pl L e h hen hall hp ht I hR hds hK
    have hL : ∀ i, i < ops.size → i ∈ L := fun i hi => I.sub i (hall i hi)
    cases pl with
    | done =>
      simp only [TP] at ht
      refine hK e h hen ht φ w a (Up.refl _) hR ?_ hds
      refine Vs.of_get (by rw [Array.length_toList, I.len]) fun t b v hb hv => ?_
      have hgd : a.tmps.getD t undef = v := by
        rw [Array.getElem?_toList] at hv
        simp [Array.getD_eq_getD_getElem?, hv]
      have hnb := nth_list e t b hb
      rw [← hgd, ← hnb]
      refine I.val t fun j hj hjl _ _ => ?_
      rw [hall j (I.lt j hj)] at hjl
      cases hjl
    | quiet i p =>
      simp only [planOk, Bool.and_eq_true] at hp
      obtain ⟨⟨⟨⟨h1, h2⟩, h3⟩, _⟩, h4⟩ := hp
      cases hoi : ops[i]? with
      | none => rw [hoi] at h1; cases h1
      | some oi =>
        have := hL i (Array.getElem?_eq_some_iff.1 hoi).1
        simp [this] at h2
    | alt i cs p q =>
      simp only [planOk, Bool.and_eq_true] at hp
      obtain ⟨⟨⟨⟨⟨h1, h2⟩, h3⟩, h4⟩, h5⟩, h6⟩ := hp
      have := hL i ((blt_iff _ _).1 h1)
      simp [this] at h2
    | stop =>
      simp [planOk] at hp
  intro fuel
  induction fuel with
  | zero =>
    intro listed φ a w pl L e h hen hs hc htodo hp ht I hR hds hK
    have hall : ∀ i, i < ops.size → listed.getD i false = true := fun i hi => by
      rw [← getDs listed i hs hi]; exact todo_zero (Nat.le_zero.1 htodo) i hi
    refine ⟨?_, finish listed φ a w pl L e h hen hall hp ht I hR hds hK⟩
    rw [List.eq_nil_iff_forall_not_mem]
    intro i hi
    rw [ready_iff] at hi
    obtain ⟨o, ho, h1, _⟩ := hi
    have hil := (Array.getElem?_eq_some_iff.1 ho).1
    rw [getDs listed i hs hil, hall i hil] at h1
    cases h1
  | succ fuel ih =>
    intro listed φ a w pl L e h hen hs hc htodo hp ht I hR hds hK
    refine ⟨fun hr => finish listed φ a w pl L e h hen (allDone listed hs hr) hp ht I hR hds hK, ?_⟩
    intro x hx
    rw [ready_iff] at hx
    obtain ⟨o, ho, hxl, hedges⟩ := hx
    have hin := (Array.getElem?_eq_some_iff.1 ho).1
    have hxl' : listed.getD x false = false := by rw [← getDs listed x hs hin]; exact hxl
    have hbit := closed_bit' S hc x o ho hedges
    -- behind the operation
    let listed' := listed.setIfInBounds x true
    have hs' : listed'.size = ops.size := by simp [listed', hs]
    have hget : ∀ j, listed'.getD j false = if j = x then true else listed.getD j false := by
      intro j
      by_cases hj : j = x
      · subst hj; simp [listed', Array.getD_eq_getD_getElem?, hs, hin]
      · simp [listed', Array.getD_eq_getD_getElem?, Array.getElem?_setIfInBounds_ne (Ne.symm hj), hj]
    have hc' : Closed ops listed' := by
      intro j y hy hlj ed hed hb
      rw [hget] at hlj ⊢
      by_cases hj : j = x
      · subst hj
        rw [ho] at hy; cases hy
        have := hedges ed hed hb
        rw [this]; simp
      · rw [if_neg hj] at hlj
        have := hc j y hy hlj ed hed hb
        rw [this]; simp
    have htodo' : todo ops.size listed' ≤ fuel := by
      have := todo_set hin hs hxl
      show todo ops.size (listed.setIfInBounds x true) ≤ fuel
      omega
    -- what is looked at is there
    have look : ∀ (L : List Nat) (e : List AV), St c P ops φ listed a L e h → ∀ t ∈ usesA ops o, V φ (nth e t) (a.tmps.getD t undef) := by
      intro L e I t ht
      refine I.val t fun j hj hjl y hy hd => ?_
      have done : Nat.testBit ((masks ops.toList []).getD x 0) j = true → False := fun hb => by
        rw [hbit j hb] at hjl; cases hjl
      rcases S.use j x y o t hy ho hd ht with hb | hb
      · exact done hb
      · exact done (I.nouse x (I.cl j hj x hb) hxl' j hj hjl o y t ho hy hd ht)
    -- what was done ahead is done
    have late : ∀ (L : List Nat) (e : List AV) (p : Plan), e.length = n → x ∈ L → planOk P ops (masks ops.toList []) p L [] = true → TP c P ops p e h K → St c P ops φ listed a L e h → wpOpIn (wideR ρ) 0 P ops Q x (wpAnyIn (wideR ρ) 0 P .any ops Q fuel listed') a w := by
      intro L e p hen hxL hp ht I
      obtain ⟨hl, v, hx1, hd1⟩ := I.pend x hxL hxl' o ho
      refine wp_exec1 hF hcall hR ho hx1 (look L e I) ?_
      intro φ' w' v' hu hR' hv
      refine ih listed' φ' _ w' p L e h hen hs' hc' htodo' hp ht ?_ hR' (by rw [put_defers']; exact hds) (fun e' h' h1 h2 => (hK e' h' h1 h2).up hu)
      have hun : ∀ i, listed'.getD i false = false → i ≠ x ∧ listed.getD i false = false := fun i hil => by
        rw [hget] at hil
        by_cases hix : i = x
        · rw [if_pos hix] at hil; cases hil
        · rw [if_neg hix] at hil; exact ⟨hix, hil⟩
      exact {
        lt := I.lt
        sub := fun i hi => by
          rw [hget] at hi
          by_cases hix : i = x
          · subst hix; exact hxL
          · rw [if_neg hix] at hi; exact I.sub i hi
        cl := I.cl
        pend := fun i hi hil y hy => I.pend i hi (hun i hil).2 y hy
        nouse := fun i hi hil j hj hjl => I.nouse i hi (hun i hil).2 j hj (hun j hjl).2
        val := fun t ht => by
          rw [put_get I.len]
          by_cases hd : o.dst = some t ∧ t < e.length
          · rw [if_pos hd, hd1 t hd.1 hd.2]; exact hv
          · rw [if_neg hd]
            refine V.up hu _ _ ?_
            by_cases htl : t < e.length
            · refine I.val t fun j hj hjl y hy hyd => ?_
              by_cases hjx : j = x
              · subst hjx
                rw [ho] at hy; cases hy
                exact hd ⟨hyd, htl⟩
              · exact ht j hj (by rw [hget, if_neg hjx]; exact hjl) y hy hyd
            · rw [nth_big e t (Nat.le_of_not_lt htl)]; simp [V]
        len := by cases hd : o.dst <;> simp [Act.put, I.len] }
    by_cases hxL : x ∈ L
    · exact late L e pl hen hxL hp ht I
    · have hlen : ∀ {L' : List Nat} {e' : List AV}, St c P ops φ listed a L' e' h → e'.length = n := fun I' => by rw [← I'.len, I.len, hen]
      rcases plan_next S hc ho hbit pl L [] e hp ht hxL (by simp) I with ⟨L', e', p, hxL', hp', ht', I'⟩ | ⟨L', e', cs, p, hxL', hp', hcs, hst, I'⟩
      · exact late L' e' p (hlen I') hxL' hp' ht' I'
      · obtain ⟨v, h2, hx1, hchk, hT⟩ := hst
        refine wp_exec1 hF hcall hR ho hx1 (look L' e' I') ?_
        intro φ' w' v' hu hR' hv
        refine ih listed' φ' _ w' p (x :: L') (putA e' o.dst v) h2 (by rw [putA_length]; exact hlen I') hs' hc' htodo' hp' hT ?_ hR' (by rw [put_defers']; exact hds) (fun e' h' h1 h2 => (hK e' h' h1 h2).up hu)
        have pnd : ∀ i ∈ x :: L', listed'.getD i false = false → i ≠ x ∧ i ∈ L' ∧ listed.getD i false = false := fun i hi hil => by
          rw [hget] at hil
          by_cases hix : i = x
          · rw [if_pos hix] at hil; cases hil
          · rw [if_neg hix] at hil
            rcases List.mem_cons.1 hi with h1 | h1
            · exact absurd h1 hix
            · exact ⟨hix, h1, hil⟩
        have huses : ∀ i ∈ L', listed.getD i false = false → ∀ y, ops[i]? = some y → ∀ t ∈ usesA ops y, nth e' t = nth (putA e' o.dst v) t := by
          intro i hi hil y hy t ht
          rw [nth_putA, if_neg]
          rintro ⟨hd, _⟩
          rcases S.use x i o y t ho hy hd ht with hb | hb
          · exact hxL' (I'.cl i hi x hb)
          · rw [hbit i hb] at hil; cases hil
        exact {
          lt := fun i hi => by
            rcases List.mem_cons.1 hi with rfl | hi
            · exact hin
            · exact I'.lt i hi
          sub := fun i hi => by
            rw [hget] at hi
            by_cases hix : i = x
            · subst hix; exact List.mem_cons_self
            · rw [if_neg hix] at hi; exact List.mem_cons_of_mem _ (I'.sub i hi)
          cl := fun i hi j hj => by
            rcases List.mem_cons.1 hi with rfl | hi
            · exact List.mem_cons_of_mem _ (I'.sub j (hbit j hj))
            · exact List.mem_cons_of_mem _ (I'.cl i hi j hj)
          pend := fun i hi hil y hy => by
            obtain ⟨hix, hi, hil⟩ := pnd i hi hil
            obtain ⟨h1, u, h3, h4⟩ := I'.pend i hi hil y hy
            have hnd : ∀ d, y.dst = some d → d < (putA e' o.dst v).length → nth (putA e' o.dst v) d = u := fun d hd hdl => by
              rw [putA_length] at hdl
              rw [nth_putA, if_neg, h4 d hd hdl]
              rintro ⟨hd2, _⟩
              exact S.dst x i o y d (fun hh => hix hh.symm) ho hy hd2 hd
            have h5 := h3.congr (huses i hi hil y hy)
            have hb : Nat.testBit ((masks ops.toList []).getD x 0) i = false := by
              cases hb : Nat.testBit ((masks ops.toList []).getD x 0) i with
              | false => rfl
              | true => rw [hbit i hb] at hil; cases hil
            refine ⟨h1, u, ?_, hnd⟩
            cases hr : readsA P y.op with
            | false => exact h5.free h1 hr h2
            | true => exact h5.check h1 (hchk i (hcs i hi y hy hb h1 hr) y hy) (fun d hd => hnd d hd (by rw [putA_length, hlen I']; exact hdst i y d hy hd))
          val := fun t ht => by
            rw [put_get I'.len, nth_putA]
            by_cases hd : o.dst = some t ∧ t < e'.length
            · rw [if_pos hd, if_pos hd]; exact hv
            · rw [if_neg hd, if_neg hd]
              refine V.up hu _ _ (I'.val t fun j hj hjl y hy hyd => ?_)
              have hjx : j ≠ x := by rintro rfl; exact hxL' hj
              exact ht j (List.mem_cons_of_mem _ hj) (by rw [hget, if_neg hjx]; exact hjl) y hy hyd
          nouse := fun i hi hil j hj hjl => by
            obtain ⟨_, hi, hil⟩ := pnd i hi hil
            obtain ⟨_, hj, hjl⟩ := pnd j hj hjl
            exact I'.nouse i hi hil j hj hjl
          len := by rw [putA_length]; cases hd : o.dst <;> simp [Act.put, I'.len] }

/-- A region whose orders are all looked at. -/
theorem tree_region {ρ : Option Nat} (hF : Fns P) (hm : P.follows .mixedOrders = true) (hcall : CallsOk P c) {n : Nat} (hst : strictOk ops (masks ops.toList []) = true) (hds : dstsOk ops n = true) {pl : Plan} (hp : planOk P ops (masks ops.toList []) pl [] [] = true) {id : Nat} {w0 : World} {Q : Exit → Act → World → Prop} {φ : List Emb} {e : List AV} {h : Heap} {w : World} {a : Act} {K : List AV → Heap → Prop}
    (hR : R P φ h w0 w) (he : Vs φ e a.tmps.toList) (hen : e.length = n) (ht : TP c P ops pl e h K) (hK : ∀ e' h', e'.length = n → K e' h' → Final P φ w0 a.defers Q (.normal, e', h')) : cwp ρ P (.region id ops true) Q a w := by
  have S := strict_of hst
  refine wpIn_region_any hm ?_
  have hfalse : ∀ i, (Array.replicate ops.size false).getD i false = false := by
    intro i
    simp [Array.getD_eq_getD_getElem?, Array.getElem?_replicate]
    split <;> rfl
  refine tree_wp hF hcall S (n := n) (fun i o d ho hd => ?_) ops.size _ φ a _ pl [] e h hen (by simp) ?_ ?_ hp ht ?_ (hR.drew rfl rfl rfl rfl) rfl hK
  · have := allFrom_at hds i o (by rw [Array.getElem?_toList]; exact ho)
    rw [hd] at this
    exact (blt_iff _ _).1 this
  · intro i o ho hl; rw [hfalse] at hl; cases hl
  · unfold todo
    refine Nat.le_trans (List.countP_le_length) (by simp)
  · exact {
      lt := by simp
      sub := fun i hi => by rw [hfalse] at hi; cases hi
      cl := by simp
      pend := by simp
      nouse := by simp
      val := fun t _ => by
        have := nth_V he t
        simpa [Array.getD_eq_getD_getElem?, List.getD_eq_getElem?_getD] using this
      len := by rw [← Array.length_toList, he.length] }
end
end Go.Am

noncomputable section
namespace Go.Am
open Go.RowKit

theorem R.relog {P : Program} {φ : List Emb} {h h' : Heap} {w0 w : World} (hR : R P φ h w0 w) (hn : h'.next = h.next) (hg : ∀ i, h'.get i = h.get i) : R P φ h' w0 w where
  below := hR.below
  len := by rw [hR.len, hn]
  objs := fun i o hi => hR.objs i o (by rw [← hg]; exact hi)
  sep := fun i j oi oj ei ej hij hi hj => hR.sep i j oi oj ei ej hij (by rw [← hg]; exact hi) (by rw [← hg]; exact hj)
  glob := hR.glob

section
variable {P : Program} {call : CallM} {n : Nat} {ops : Array Oper}

theorem compO_one (hcall : CallMOk P call) {o : Oper} (hp : plainOp o.op = true) {k : KX} {e : Env} {h : Heap} {ds : List DVM} {L : List Res} (hr : (compO P false n ops o).run (oneM call) k e h ds = some L) :
    ∃ v h' L', Exec1 (callOne call) P ops o (envL n e) h v h' ∧ k ((dstOf n o.dst).put v e) h' ds = some L' ∧ (∀ r, r ∈ L' ↔ r ∈ L) ∧ Grows h h' := by
  rcases compO_run hr with ⟨hw, l, hd, hg⟩ | ⟨hw, hk⟩
  · have hgr := hd.grows (oneM_ok hcall)
    obtain ⟨v, h1, rfl, ho⟩ := does_one hp hd
    obtain ⟨L'', h2, h3⟩ := hg.1 _ List.mem_cons_self
    refine ⟨v, h1, L'', .inl ⟨hw, ho⟩, h2, fun r => ⟨h3 r, fun hr => ?_⟩, hgr _ List.mem_cons_self⟩
    obtain ⟨x, hx, L3, h4, h5⟩ := hg.2 r hr
    rw [List.mem_singleton] at hx
    subst hx
    rw [h2] at h4
    cases h4
    exact h5
  · exact ⟨.tuple [], h, L, .inr ⟨hw, rfl, rfl⟩, hk, fun _ => Iff.rfl, Grows.refl _⟩

theorem coAt_some {c : CallM} {i : Nat} {k : KX} {e : Env} {h : Heap} {ds : List DVM} {L : List Res} (hr : coAt (compOps P false n ops) i c k e h ds = some L) : ∃ o, ops[i]? = some o ∧ (compO P false n ops o).run c k e h ds = some L := by
  unfold coAt at hr
  rw [nthF_eq, compOps, mapF_eq, List.getElem?_map, Array.getElem?_toList] at hr
  cases ho : ops[i]? with
  | none => rw [ho] at hr; cases hr
  | some o => rw [ho] at hr; exact ⟨o, rfl, hr⟩

theorem chkM_mem {e : Env} {h : Heap} : ∀ {cs : List Nat}, chkM P n ops cs e h = true → ∀ s ∈ cs, ∀ y, ops[s]? = some y → chk1 P ops y (envL n e) h
  | [], _, s, hs, _, _ => by cases hs
  | q :: cs, hc, s, hs, y, hy => by
    have hc1 : (Bool.rec (motive := fun _ => Bool) false (chkM P n ops cs e h) (match ops[q]? with
      | some o => (match wantG (guardOf n ops o) e, o.dst with
        | some true, some d => CI.rec (motive := fun _ => Bool) (fun f => R1.rec (motive := fun _ => Bool) false (fun v _ => beqV v ((tmpS n d).ev e)) (f e h)) (compOp P n o.op)
        | some false, _ => true
        | _, _ => false)
      | none => true)) = true := hc
    cases ho : ops[q]? with
    | none =>
      rw [ho] at hc1
      rcases List.mem_cons.1 hs with rfl | hs
      · rw [ho] at hy; cases hy
      · exact chkM_mem hc1 s hs y hy
    | some o =>
      rw [ho] at hc1
      simp only at hc1
      cases hw : wantG (guardOf n ops o) e with
      | none => rw [hw] at hc1; cases hd : o.dst <;> rw [hd] at hc1 <;> cases hc1
      | some t =>
        rw [hw] at hc1
        cases t with
        | false =>
          have hc2 : chkM P n ops cs e h = true := by cases hd : o.dst <;> rw [hd] at hc1 <;> exact hc1
          rcases List.mem_cons.1 hs with rfl | hs
          · rw [ho] at hy; cases hy
            exact .inr (wantG_wanted hw)
          · exact chkM_mem hc2 s hs y hy
        | true =>
          cases hd : o.dst with
          | none => rw [hd] at hc1; cases hc1
          | some d =>
            rw [hd] at hc1
            simp only at hc1
            cases hf : compOp P n o.op with
            | op f =>
              rw [hf] at hc1
              have hc2 : (Bool.rec (motive := fun _ => Bool) false (chkM P n ops cs e h) (R1.rec (motive := fun _ => Bool) false (fun v _ => beqV v ((tmpS n d).ev e)) (f e h))) = true := hc1
              cases hfe : f e h with
              | no => rw [hfe] at hc2; cases hc2
              | ok v h' =>
                rw [hfe] at hc2
                have hc3 : (Bool.rec (motive := fun _ => Bool) false (chkM P n ops cs e h) (beqV v ((tmpS n d).ev e))) = true := hc2
                cases hb : beqV v ((tmpS n d).ev e) with
                | false => rw [hb] at hc3; cases hc3
                | true =>
                  rw [hb] at hc3
                  rcases List.mem_cons.1 hs with rfl | hs
                  · rw [ho] at hy
                    have hyo : o = y := Option.some.inj hy
                    subst hyo
                    have hv := beqV_eq _ _ hb
                    rw [tmpS_ev] at hv
                    have hrun : (compOp P n o.op).run e h = .ok v h' := by rw [hf]; exact hfe
                    have := compOp_run hrun
                    rw [hv] at this
                    exact .inl ⟨wantG_wanted hw, d, h', hd, this⟩
                  · exact chkM_mem hc3 s hs y hy

def LeafOf (n : Nat) (ds : List DVM) (l : List Res) (e' : List AV) (h' : Heap) : Prop := ∃ r ∈ l, ∃ e2, r = .mk .normal e2 h' ds ∧ envL n e2 = e'
theorem tpM_TP (hcall : CallMOk P call) (hn : n ≤ 256) (hpl : ∀ o ∈ ops.toList, plainOp o.op = true) {ds : List DVM} : ∀ (pl : Plan) (e : Env) (h : Heap) (l : List Res), tpM P n ops (compOps P false n ops) (oneM call) pl leafK e h ds = some l →
    TP (callOne call) P ops pl (envL n e) h (LeafOf n ds l) ∧ ∀ r ∈ l, ∃ e2 h2, r = .mk .normal e2 h2 ds ∧ Grows h h2
  | .done, e, h, l, hr => by
    cases hr
    exact ⟨⟨_, List.mem_singleton.2 rfl, e, rfl, rfl⟩, fun r hr => by rw [List.mem_singleton] at hr; exact ⟨e, h, hr, Grows.refl _⟩⟩
  | .quiet i p, e, h, l, hr => by
    obtain ⟨o, ho, hr⟩ := coAt_some hr
    have hpo := hpl o (by have := Array.mem_of_getElem? ho; exact Array.mem_toList_iff.2 this)
    obtain ⟨v, h', L', h1, h2, h3, h4⟩ := compO_one hcall hpo hr
    obtain ⟨g1, g2⟩ := tpM_TP hcall hn hpl p _ h' L' h2
    refine ⟨?_, fun r hr => ?_⟩
    · simp only [TP, ho]
      refine ⟨v, h', h1, ?_⟩
      rw [← dstOf_put hn]
      refine TP.mono (fun e' h'' hx => ?_) p _ _ g1
      obtain ⟨r, hr, e2, h5, h6⟩ := hx
      exact ⟨r, (h3 r).1 hr, e2, h5, h6⟩
    · obtain ⟨e2, h2', h5, h6⟩ := g2 r ((h3 r).2 hr)
      exact ⟨e2, h2', h5, h4.trans h6⟩
  | .alt i cs p q, e, h, l, hr => by
    obtain ⟨x, y, hx, hy, rfl⟩ := joinR_some (show joinR (coAt (compOps P false n ops) i (oneM call) (fun e h ds => Bool.rec none (tpM P n ops (compOps P false n ops) (oneM call) p leafK e h ds) (chkM P n ops cs e h)) e h ds) (tpM P n ops (compOps P false n ops) (oneM call) q leafK e h ds) = some l from hr)
    obtain ⟨g1, g2⟩ := tpM_TP hcall hn hpl q e h y hy
    obtain ⟨o, ho, hx⟩ := coAt_some hx
    have hpo := hpl o (by have := Array.mem_of_getElem? ho; exact Array.mem_toList_iff.2 this)
    obtain ⟨v, h', L', h1, h2, h3, h4⟩ := compO_one hcall hpo hx
    have h2' : (Bool.rec (motive := fun _ => RX) none (tpM P n ops (compOps P false n ops) (oneM call) p leafK ((dstOf n o.dst).put v e) h' ds) (chkM P n ops cs ((dstOf n o.dst).put v e) h')) = some L' := h2
    cases hc : chkM P n ops cs ((dstOf n o.dst).put v e) h' with
    | false => rw [hc] at h2'; cases h2'
    | true =>
      rw [hc] at h2'
      obtain ⟨f1, f2⟩ := tpM_TP hcall hn hpl p _ h' L' h2'
      refine ⟨⟨?_, ?_⟩, fun r hr => ?_⟩
      · rw [ho]
        refine ⟨v, h', h1, ?_⟩
        rw [← dstOf_put hn]
        refine ⟨chkM_mem hc, TP.mono (fun e' h'' hx => ?_) p _ _ f1⟩
        obtain ⟨r, hr, e2, h5, h6⟩ := hx
        exact ⟨r, List.mem_append.2 (.inl ((h3 r).1 hr)), e2, h5, h6⟩
      · refine TP.mono (fun e' h'' hx => ?_) q _ _ g1
        obtain ⟨r, hr, e2, h5, h6⟩ := hx
        exact ⟨r, List.mem_append.2 (.inr hr), e2, h5, h6⟩
      · rcases List.mem_append.1 hr with hr | hr
        · obtain ⟨e2, h2', h5, h6⟩ := f2 r ((h3 r).2 hr)
          exact ⟨e2, h2', h5, h4.trans h6⟩
        · exact g2 r hr
  | .stop, e, h, l, hr => by cases hr; exact ⟨trivial, by simp⟩

/-! ### All ends told as the first's -/

/-- As it was, but for new things forgotten. -/
def Like (n0 : Nat) (a b : Heap) : Prop := Less a b ∧ b.log = a.log ∧ ∀ i, i < n0 → b.get i = a.get i
theorem Like.refl (n0 : Nat) (a : Heap) : Like n0 a a := ⟨Less.refl _, rfl, fun _ _ => rfl⟩
theorem Like.trans {n0 : Nat} {a b c : Heap} (h : Like n0 a b) (h' : Like n0 b c) : Like n0 a c := ⟨h.1.trans h'.1, h'.2.1.trans h.2.1, fun i hi => (h'.2.2 i hi).trans (h.2.2 i hi)⟩
theorem Like.tidy (n0 : Nat) (s : Sg) (a : Heap) : Like n0 a (tidy n0 s a) := ⟨tidy_less _ _ _, tidy_log _ _ _, fun _ hi => tidy_old hi⟩
theorem Like.logged {h a b : Heap} (hl : Logged h a) (hk : Like h.next a b) : Logged h b := ⟨by rw [hk.1.1]; exact hl.1, fun i hi hn => by rw [hk.2.2 i hi]; exact hl.2.1 i hi (by rw [← hk.2.1]; exact hn), fun i hi => by rw [hk.2.2 i hi]; exact hl.2.2 i hi⟩
theorem Less.wfh {a b : Heap} (h : Less a b) (hw : Wfh a) : Wfh b := fun i hi => by
  cases hg : b.get i with
  | none => rfl
  | some o => have := h.2 i o hg; rw [hw i (by rw [h.1] at hi; exact hi)] at this; cases this
theorem frAll_run {n0 : Nat} {e1 : Env} : ∀ {l : List Res} {a A : Heap}, frAll n n0 e1 l a = some A → Like n0 a A ∧ ∀ r ∈ l, ∀ o e2 h2 ds, r = .mk o e2 h2 ds → ∃ b s, Like n0 a b ∧ mrg n0 (envL n e1) b (envL n e2) h2 = some s ∧ Less (tidy n0 s b) A
  | [], a, A, h => by cases h; exact ⟨Like.refl _ _, by simp⟩
  | r :: l, a, A, h => by
    obtain ⟨o, e2, h2, ds⟩ := r
    have h1 : (Option.rec (motive := fun _ => Option Heap) none (fun s => frAll n n0 e1 l (tidy n0 s a)) (mrg n0 (envL n e1) a (envL n e2) h2)) = some A := h
    cases hm : mrg n0 (envL n e1) a (envL n e2) h2 with
    | none => rw [hm] at h1; cases h1
    | some s =>
      rw [hm] at h1
      obtain ⟨g1, g2⟩ := frAll_run (l := l) h1
      refine ⟨(Like.tidy n0 s a).trans g1, fun r hr o' e2' h2' ds' hre => ?_⟩
      rcases List.mem_cons.1 hr with rfl | hr
      · cases hre
        exact ⟨a, s, Like.refl _ _, hm, g1.1⟩
      · obtain ⟨b, s', h3, h4, h5⟩ := g2 r hr o' e2' h2' ds' hre
        exact ⟨b, s', (Like.tidy n0 s a).trans h3, h4, h5⟩

theorem logged_of_grows {h a : Heap} (hg : Grows h a) (hl : h.log = []) : Logged h a := by
  obtain ⟨h1, ⟨l, h2, h3⟩, _, h4⟩ := hg
  rw [hl, List.append_nil] at h2
  exact ⟨h1, fun i hi hn => h3 i hi (by rw [← h2]; exact hn), h4⟩

theorem freeM_inv {pl : Plan} {k : KX} {e : Env} {h : Heap} {ds : List DVM} {L' : List Res} (hr : freeM P n ops (compOps P false n ops) (oneM call) pl k e h ds = some L') :
    ∃ o1 e1 h1 ds1 rs A, tpM P n ops (compOps P false n ops) (oneM call) pl leafK e ⟨h.next, h.tr, []⟩ ds = some (.mk o1 e1 h1 ds1 :: rs) ∧ frAll n h.next e1 rs h1 = some A ∧ k e1 ⟨A.next, A.tr, A.log ++ h.log⟩ ds1 = some L' := by
  have hr1 : (Option.rec (motive := fun _ => RX) none (fun l => freeEnd n h k l) (tpM P n ops (compOps P false n ops) (oneM call) pl leafK e ⟨h.next, h.tr, []⟩ ds)) = some L' := hr
  cases ht : tpM P n ops (compOps P false n ops) (oneM call) pl leafK e ⟨h.next, h.tr, []⟩ ds with
  | none => rw [ht] at hr1; cases hr1
  | some l =>
    rw [ht] at hr1
    cases l with
    | nil => cases hr1
    | cons r rs =>
      obtain ⟨o1, e1, h1, ds1⟩ := r
      have hr2 : (Option.rec (motive := fun _ => RX) none (fun a => k e1 ⟨a.next, a.tr, appF a.log h.log⟩ ds1) (frAll n h.next e1 rs h1)) = some L' := hr1
      cases hf : frAll n h.next e1 rs h1 with
      | none => rw [hf] at hr2; cases hr2
      | some A =>
        rw [hf] at hr2
        have hr3 : k e1 ⟨A.next, A.tr, appF A.log h.log⟩ ds1 = some L' := hr2
        rw [appF_eq] at hr3
        exact ⟨o1, e1, h1, ds1, rs, A, rfl, hf, hr3⟩

theorem free_region {ρ : Option Nat} (hF : Fns P) (hm : P.follows .mixedOrders = true) (hcall : CallMOk P call) (hn : n ≤ 256) (hpl : (ops.toList.all fun o => plainOp o.op) = true) {pl : Plan} (hst : strictOk ops (masks ops.toList []) = true) (hdst : dstsOk ops n = true) (hp : planOk P ops (masks ops.toList []) pl [] [] = true)
    {k : KX} {e : Env} {h : Heap} {ds : List DVM} {L L' : List Res} (hr : freeM P n ops (compOps P false n ops) (oneM call) pl k e h ds = some L') (hs : ∀ r ∈ L', r ∈ L) {id : Nat} {w0 w : World} {Q : Exit → Act → World → Prop} {φ : List Emb} {a : Act} (hR : R P φ h w0 w) (he : Vs φ (envL n e) a.tmps.toList) (hd : DS φ ds a.defers)
    (hk : SX P φ w0 n L (Q .normal) k) : cwp ρ P (.region id ops true) Q a w := by
  obtain ⟨o1, e1, h1, ds1, rs, A, ht, hf, hkk⟩ := freeM_inv hr
  obtain ⟨g1, g2⟩ := tpM_TP hcall hn (plain_all hpl) pl e _ _ ht
  have hRb : R P φ ⟨h.next, h.tr, []⟩ w0 w := hR.relog rfl (fun _ => rfl)
  obtain ⟨e1', h1', hr1, hg1⟩ := g2 _ List.mem_cons_self
  cases hr1
  obtain ⟨f1, f2⟩ := frAll_run hf
  refine tree_region hF hm (callOne_ok hcall) hst hdst hp hRb he (envL_length _ _) g1 ?_
  rintro e' h' _ ⟨r, hrl, e2, rfl, rfl⟩
  intro φ' w' a' hu hR' he' hd'
  have conc : ∀ φ1, Up φ φ1 → R P φ1 A w0 w' → Vs φ1 (envL n e1) a'.tmps.toList → Q .normal a' w' := by
    intro φ1 hu1 hR1 he1
    refine hk e1 _ ds L' hkk hs φ1 w' a' hu1 (hR1.relog rfl (fun _ => rfl)) he1 ?_
    rw [hd']; exact hd.up hu1
  rcases List.mem_cons.1 hrl with heq | hrs
  · cases heq
    exact conc φ' hu (hR'.less f1.1) he'
  · obtain ⟨b, s, hlb, hms, hless⟩ := f2 _ hrs _ _ _ _ rfl
    obtain ⟨e2', h2', hre, hg2⟩ := g2 _ hrl
    cases hre
    have hl1 := logged_of_grows hg1 rfl
    have hl2 := logged_of_grows hg2 rfl
    have hw1 : Wfh h1 := hg1.2.2.1 hRb.wfh
    obtain ⟨φ1, hu1, hR1, hv1⟩ := merge_run (h := ⟨h.next, h.tr, []⟩) hms hRb hu hR' (Like.logged hl1 hlb) hl2 (hlb.1.wfh hw1)
    exact conc φ1 hu1 (hR1.less hless) (hv1 _ he')
theorem free_from (hcall : CallMOk P call) (hn : n ≤ 256) (hpl : (ops.toList.all fun o => plainOp o.op) = true) {pl : Plan} {k : KX} {e : Env} {h : Heap} {ds : List DVM} {L' : List Res} (hr : freeM P n ops (compOps P false n ops) (oneM call) pl k e h ds = some L') : From h k L' := by
  obtain ⟨o1, e1, h1, ds1, rs, A, ht, hf, hkk⟩ := freeM_inv hr
  obtain ⟨g1, g2⟩ := tpM_TP hcall hn (plain_all hpl) pl e _ _ ht
  obtain ⟨e1', h1', hr1, hg1⟩ := g2 _ List.mem_cons_self
  cases hr1
  obtain ⟨f1, f2⟩ := frAll_run hf
  intro r hrl
  refine ⟨_, _, _, L', hkk, hrl, ?_⟩
  have hl1 := logged_of_grows hg1 rfl
  refine ⟨?_, ⟨A.log, rfl, fun i hi hnl => ?_⟩, fun hw => ?_, fun i hi => ?_⟩
  · show h.next ≤ A.next
    rw [f1.1.1]; exact hl1.1
  · show A.get i = h.get i
    rw [f1.2.2 i hi]
    exact hl1.2.1 i hi (by rw [← f1.2.1]; exact hnl)
  · exact f1.1.wfh (hg1.2.2.1 hw)
  · show Stay (h.get i) (A.get i)
    rw [f1.2.2 i hi]
    exact hl1.2.2 i hi

/-! ### All of them -/

theorem drawX_wp {ρ : Option Nat} (hF : Fns P) (hm : P.follows .mixedOrders = true) (hcall : CallMOk P call) (hn : n ≤ 256) {plan : FuncId → Nat → Option Plan} {fid id : Nat}
    {k : KX} {e : Env} {h : Heap} {ds : List DVM} {L L' : List Res} (hr : drawX P plan call fid id n ops k e h ds = some L') (hs : ∀ r ∈ L', r ∈ L) {w0 w : World} {Q : Exit → Act → World → Prop} {φ : List Emb} {a : Act} (hR : R P φ h w0 w) (he : Vs φ (envL n e) a.tmps.toList) (hd : DS φ ds a.defers)
    (hk : SX P φ w0 n L (Q .normal) k) : cwp ρ P (.region id ops true) Q a w := by
  unfold drawX at hr
  unfold drK at hr
  cases hpl : ops.toList.all fun o => plainOp o.op with
  | false => rw [hpl] at hr; cases hr
  | true =>
    rw [hpl] at hr
    simp only [Bool.not_true, cond_false] at hr
    cases hst : drawStatic P ops (masks ops.toList []) with
    | true =>
      rw [hst] at hr
      simp only [cond_true] at hr
      cases hnn : needNot P (masks ops.toList []) (louds P ops.toList 0) ops.toList 0 with
      | true =>
        rw [hnn] at hr
        have hr1 : opsM (oneM call) (compOps P false n ops) k e h ds = some L' := hr
        rw [← opsT_const _ _ _ []] at hr1
        exact text_region hF hm hcall hn hpl hst (.inl ⟨rfl, hnn⟩) hr1 hs hR he hd hk
      | false =>
        rw [hnn] at hr
        exact text_region hF hm hcall hn hpl hst (.inr rfl) hr hs hR he hd hk
    | false =>
      rw [hst] at hr
      simp only [cond_false] at hr
      cases hpp : plan fid id with
      | none => rw [hpp] at hr; cases hr
      | some pl =>
        rw [hpp] at hr
        simp only at hr
        cases hb : strictOk ops (masks ops.toList []) && dstsOk ops n && planOk P ops (masks ops.toList []) pl [] [] with
        | false => rw [hb] at hr; cases hr
        | true =>
          rw [hb] at hr
          simp only [Bool.and_eq_true] at hb
          exact free_region hF hm hcall hn hpl hb.1.1 hb.1.2 hb.2 hr hs hR he hd hk
theorem drawX_from (hcall : CallMOk P call) (hn : n ≤ 256) {plan : FuncId → Nat → Option Plan} {fid id : Nat} {k : KX} {e : Env} {h : Heap} {ds : List DVM} {L' : List Res} (hr : drawX P plan call fid id n ops k e h ds = some L') : From h k L' := by
  unfold drawX at hr
  unfold drK at hr
  cases hpl : ops.toList.all fun o => plainOp o.op with
  | false => rw [hpl] at hr; cases hr
  | true =>
    rw [hpl] at hr
    simp only [Bool.not_true, cond_false] at hr
    cases hst : drawStatic P ops (masks ops.toList []) with
    | true =>
      rw [hst] at hr
      simp only [cond_true] at hr
      cases hnn : needNot P (masks ops.toList []) (louds P ops.toList 0) ops.toList 0 with
      | true =>
        rw [hnn] at hr
        have hr1 : opsM (oneM call) (compOps P false n ops) k e h ds = some L' := hr
        rw [← opsT_const _ _ _ []] at hr1
        exact text_from (K := fun _ => k) hcall hn hpl (fun tr e h ds L hL => hL) hr1
      | false =>
        rw [hnn] at hr
        have hr1 : opsT (oneM call) (compOps P false n ops) [] (fun tr e h ds => Bool.rec (motive := fun _ => RX) none (k e h ds) (rdAll tr ops.size (readsOf P n ops (masks ops.toList []) (louds P ops.toList 0) ops.toList 0))) e h ds = some L' := hr
        refine text_from (k := k) hcall hn hpl (fun tr e h ds L hL => ?_) hr1
        cases hrd : rdAll tr ops.size (readsOf P n ops (masks ops.toList []) (louds P ops.toList 0) ops.toList 0) with
        | false => simp only [hrd] at hL; cases hL
        | true => simp only [hrd] at hL; exact hL
    | false =>
      rw [hst] at hr
      simp only [cond_false] at hr
      cases hpp : plan fid id with
      | none => rw [hpp] at hr; cases hr
      | some pl =>
        rw [hpp] at hr
        simp only at hr
        cases hb : strictOk ops (masks ops.toList []) && dstsOk ops n && planOk P ops (masks ops.toList []) pl [] [] with
        | false => rw [hb] at hr; cases hr
        | true =>
          rw [hb] at hr
          exact free_from hcall hn hpl hr
end
end Go.Am

noncomputable section
namespace Go.Am
open Go.RowKit

def FromK (h0 : Heap) (κ : KO) (L : List Res) : Prop := ∀ r ∈ L, ∃ o e h ds L', κ o e h ds = some L' ∧ r ∈ L' ∧ Grows h0 h
theorem FromK.self {h : Heap} {κ : KO} {o : Out} {e : Env} {ds : List DVM} {L : List Res} (hk : κ o e h ds = some L) : FromK h κ L := fun _ hr => ⟨o, e, h, ds, L, hk, hr, Grows.refl _⟩
theorem FromK.trans {h0 : Heap} {κ κ' : KO} {L : List Res} (h : FromK h0 κ L) (hk : ∀ o e h ds L', κ o e h ds = some L' → FromK h κ' L') : FromK h0 κ' L := by
  intro r hr
  obtain ⟨o, e, h1, ds, L', h2, h3, h4⟩ := h r hr
  obtain ⟨o', e', h1', ds', L'', h5, h6, h7⟩ := hk o e h1 ds L' h2 r h3
  exact ⟨o', e', h1', ds', L'', h5, h6, h4.trans h7⟩
theorem FromK.of_from {h0 : Heap} {k : KX} {κ : KO} {L : List Res} (h : From h0 k L) (hk : ∀ e h ds L', k e h ds = some L' → FromK h κ L') : FromK h0 κ L := by
  intro r hr
  obtain ⟨e, h1, ds, L', h2, h3, h4⟩ := h r hr
  obtain ⟨o', e', h1', ds', L'', h5, h6, h7⟩ := hk e h1 ds L' h2 r h3
  exact ⟨o', e', h1', ds', L'', h5, h6, h4.trans h7⟩
theorem FromK.grow {h0 h1 : Heap} {κ : KO} {L : List Res} (hg : Grows h0 h1) (h : FromK h1 κ L) : FromK h0 κ L := by
  intro r hr
  obtain ⟨o, e, h2, ds, L', h3, h4, h5⟩ := h r hr
  exact ⟨o, e, h2, ds, L', h3, h4, hg.trans h5⟩

theorem logNew_of {h a : Heap} {l : List Nat} (hl : a.log = l ++ h.log) : logNew h a = l := by
  unfold logNew
  rw [takeF_eq, lenF_eq, lenF_eq, hl, List.length_append]
  show List.take (l.length + h.log.length - h.log.length) (l ++ h.log) = l
  rw [Nat.add_sub_cancel, List.take_left]
theorem relog_logged {h a : Heap} (hg : Grows h a) : Logged h (relog h a) := by
  obtain ⟨h1, ⟨l, h2, h3⟩, _, h4⟩ := hg
  refine ⟨h1, fun i hi hn => ?_, h4⟩
  have hn : i ∉ logNew h a := hn
  rw [logNew_of h2] at hn
  exact h3 i hi hn
theorem Like.grows {h a b : Heap} (hg : Grows h a) (hk : Like h.next a b) : Grows h b := by
  obtain ⟨h1, ⟨l, h2, h3⟩, h4, h5⟩ := hg
  exact ⟨by rw [hk.1.1]; exact h1, ⟨l, by rw [hk.2.1]; exact h2, fun i hi hn => by rw [hk.2.2 i hi]; exact h3 i hi hn⟩, fun hw => hk.1.wfh (h4 hw), fun i hi => by rw [hk.2.2 i hi]; exact h5 i hi⟩
theorem tidy_relog {n0 : Nat} {s : Sg} {h b : Heap} (i : Nat) : (tidy n0 s (relog h b)).get i = (tidy n0 s b).get i := by
  unfold tidy
  rw [(sweep_get s.al _ n0 (relog h b) i).2.2, (sweep_get s.al _ n0 b i).2.2]
  rfl

theorem leaf_inv {o : Out} {e : Env} {h : Heap} {ds : List DVM} {L : List Res} (hk : leaf o e h ds = some L) : L = [.mk o e h ds] := (Option.some.inj hk).symm
theorem leaf_from {h : Heap} {L : List Res} (hf : FromK h leaf L) : ∀ o e h' ds, Res.mk o e h' ds ∈ L → Grows h h' := by
  intro o e h' ds hr
  obtain ⟨o', e', h1, ds', L', h2, h3, h4⟩ := hf _ hr
  have : L' = [.mk o' e' h1 ds'] := leaf_inv h2
  subst this
  rw [List.mem_singleton] at h3
  cases h3
  exact h4
theorem leaf_SX {P : Program} {n : Nat} {φ : List Emb} {w0 : World} {L : List Res} {o : Out} {K : Act → World → Prop} (h : ∀ e h' ds, Res.mk o e h' ds ∈ L → ∀ φ' w a, Up φ φ' → R P φ' h' w0 w → Vs φ' (envL n e) a.tmps.toList → DS φ' ds a.defers → K a w) : SX P φ w0 n L K (leaf o) := by
  intro e h' ds L' hk hs φ' w a hu hR he hd
  have : L' = [.mk o e h' ds] := leaf_inv hk
  subst this
  exact h e h' ds (hs _ (List.mem_singleton.2 rfl)) φ' w a hu hR he hd

theorem DS.trans {φ φ1 φ2 : List Emb} (h : ∀ i, i < φ.length → ∀ e, φ2[i]? = some e → φ1[i]? = some e) : ∀ {ds : List DVM} {l0 l : List Deferred}, DS φ ds l0 → DS φ2 ds l → DS φ1 ds l
  | [], _, _, _, hd => hd
  | .call f args :: ds, _, _, h0, hd => by
    obtain ⟨as0, cap0, xs0, _, g2, g3⟩ := h0
    obtain ⟨as, cap, xs, h1, h2, h3⟩ := hd
    exact ⟨as, cap, xs, h1, Vs.trans h _ _ _ g2 h2, DS.trans h g3 h3⟩
  | .mark k :: ds, _, _, h0, hd => by
    obtain ⟨e0, xs0, g1, _, g3⟩ := h0
    obtain ⟨e, xs, h1, h2, h3⟩ := hd
    exact ⟨e, xs, h _ (List.getElem?_eq_some_iff.1 g1).1 e h1, h2, DS.trans h g3 h3⟩
theorem eqDV_eq {a b : DVM} (h : eqDV a b = true) : a = b := by
  cases a with
  | call f xs =>
    cases b with
    | call g ys =>
      have h1 : (Bool.rec (motive := fun _ => Bool) false (beqVs xs ys) (Nat.beq f g)) = true := h
      cases hb : Nat.beq f g with
      | false => rw [hb] at h1; cases h1
      | true =>
        rw [hb] at h1
        rw [Nat.eq_of_beq_eq_true hb, beqVs_eq _ _ h1]
    | mark m => cases h
  | mark k =>
    cases b with
    | call g ys => cases h
    | mark m => rw [Nat.eq_of_beq_eq_true (show Nat.beq k m = true from h)]
theorem eqDs_eq : ∀ {a b : List DVM}, eqDs a b = true → a = b
  | [], [], _ => rfl
  | [], _ :: _, h => by cases h
  | _ :: _, [], h => by cases h
  | x :: a, y :: b, h => by
    have h1 : (Bool.rec (motive := fun _ => Bool) false (eqDs a b) (eqDV x y)) = true := h
    cases hb : eqDV x y with
    | false => rw [hb] at h1; cases h1
    | true => rw [hb] at h1; rw [eqDV_eq hb, eqDs_eq h1]
theorem allDs_mem {ds0 : List DVM} : ∀ {S : List LS}, allDs ds0 S = true → ∀ s ∈ S, s.dvs = ds0
  | [], _, s, hs => by cases hs
  | x :: S, h, s, hs => by
    have h1 : (Bool.rec (motive := fun _ => Bool) false (allDs ds0 S) (eqDs x.dvs ds0)) = true := h
    cases hb : eqDs x.dvs ds0 with
    | false => rw [hb] at h1; cases h1
    | true =>
      rw [hb] at h1
      rcases List.mem_cons.1 hs with rfl | hs
      · exact eqDs_eq hb
      · exact allDs_mem h1 s hs

section
variable {P : Program} {n : Nat}

/-! ### Less is known of a state -/

theorem killE_V (hn : n ≤ 256) {φ : List Emb} {T : List Value} : ∀ {kill : List Tmp} {e : Env}, Vs φ (envL n e) T → Vs φ (envL n (killE n kill e)) T
  | [], _, h => h
  | t :: kill, e, h => by
    show Vs φ (envL n ((tmpD n t).put .unk (killE n kill e))) T
    rw [tmpD_put hn]
    have ih := killE_V hn (kill := kill) h
    refine Vs.of_get (by simp [ih.length]) fun i a v ha hv => ?_
    rw [List.getElem?_set] at ha
    split at ha
    · split at ha
      · cases ha; simp [V]
      · cases ha
    · obtain ⟨u, hu, hV⟩ := ih.get i a ha
      rw [hu] at hv; cases hv; exact hV
theorem noCur1_run (i : Nat) (h : Heap) : (noCur1 i h).next = h.next ∧ (noCur1 i h).log = h.log ∧ ∀ j, (noCur1 i h).get j = h.get j ∨ (j = i ∧ ∃ m s seen k l, h.get j = some (.iter m s seen (some k) l) ∧ (noCur1 i h).get j = some (.iter m s seen none l)) := by
  unfold noCur1
  split
  · rename_i m s seen k l hg
    refine ⟨rfl, rfl, fun j => ?_⟩
    by_cases hij : i = j
    · subst hij
      exact .inr ⟨rfl, m, s, seen, k, l, hg, T16.get_put _ _ _⟩
    · exact .inl (T16.get_put_ne _ hij _)
  · exact ⟨rfl, rfl, fun j => .inl rfl⟩
theorem R.noCur1 {φ : List Emb} {h : Heap} {w0 w : World} (hR : R P φ h w0 w) (i : Nat) : R P φ (noCur1 i h) w0 w := by
  obtain ⟨h1, _, h3⟩ := noCur1_run i h
  have key : ∀ j o, (Go.Am.noCur1 i h).get j = some o → ∃ o', h.get j = some o' ∧ o.isOwn = o'.isOwn ∧ ∀ e, O φ e w o' → O φ e w o := by
    intro j o ho
    rcases h3 j with h4 | ⟨_, m, s, seen, k, l, h4, h5⟩
    · rw [h4] at ho; exact ⟨o, ho, rfl, fun _ h => h⟩
    · rw [h5] at ho; cases ho
      refine ⟨_, h4, rfl, fun e hO => ?_⟩
      obtain ⟨m', S, g1, g2, g3, _, g5⟩ := hO
      exact ⟨m', S, g1, g2, g3, (fun _ hh => by cases hh), g5⟩
  exact {
    below := hR.below
    len := by rw [hR.len, h1]
    objs := fun j o ho => by
      obtain ⟨o', h4, h5, h6⟩ := key j o ho
      obtain ⟨e, he, hO, hw⟩ := hR.objs j o' h4
      exact ⟨e, he, h6 e hO, fun hh => hw (by rw [← h5]; exact hh)⟩
    sep := fun a b oa ob ea eb hab ha hb hea heb hown => by
      obtain ⟨oa', h4, h5, _⟩ := key a oa ha
      obtain ⟨ob', h6, _, _⟩ := key b ob hb
      exact hR.sep a b oa' ob' ea eb hab h4 h6 hea heb (by rw [← h5]; exact hown)
    glob := hR.glob }
theorem R.noCur {φ : List Emb} {w0 w : World} : ∀ {l : List Nat} {h : Heap}, R P φ h w0 w → R P φ (noCur l h) w0 w
  | [], _, hR => hR
  | i :: l, h, hR => R.noCur (l := l) (hR.noCur1 i)
theorem noCur1_grows {h0 h : Heap} {i : Nat} (hi : i ∈ logNew h0 h) (hg : Grows h0 h) : Grows h0 (noCur1 i h) ∧ logNew h0 (noCur1 i h) = logNew h0 h := by
  obtain ⟨h1, h2, h3⟩ := noCur1_run i h
  obtain ⟨g1, ⟨l, g2, g3⟩, g4, g5⟩ := hg
  have hl : logNew h0 h = l := logNew_of g2
  refine ⟨⟨by rw [h1]; exact g1, ⟨l, by rw [h2]; exact g2, fun j hj hn => ?_⟩, fun hw j hj => ?_, fun j hj => ?_⟩, ?_⟩
  · rcases h3 j with h4 | ⟨rfl, _⟩
    · rw [h4]; exact g3 j hj hn
    · rw [hl] at hi; exact absurd hi hn
  · have hw' := g4 hw j (by rw [h1] at hj; exact hj)
    rcases h3 j with h4 | ⟨_, m, s, seen, k, l, h4, _⟩
    · rw [h4]; exact hw'
    · rw [hw'] at h4; cases h4
  · refine (g5 j hj).trans ?_
    rcases h3 j with h4 | ⟨_, m, s, seen, k, l, h4, h5⟩
    · rw [h4]; exact Stay.refl _
    · rw [h4, h5]; intro o ho; cases ho; exact ⟨_, rfl, rfl⟩
  · rw [hl]; exact logNew_of (by rw [h2]; exact g2)
theorem noCur_grows {h0 : Heap} : ∀ {l : List Nat} {h : Heap}, (∀ i ∈ l, i ∈ logNew h0 h) → Grows h0 h → Grows h0 (noCur l h)
  | [], _, _, hg => hg
  | i :: l, h, hl, hg => by
    obtain ⟨h1, h2⟩ := noCur1_grows (hl i List.mem_cons_self) hg
    exact noCur_grows (l := l) (fun j hj => by rw [h2]; exact hl j (List.mem_cons_of_mem _ hj)) h1

theorem noCur_log : ∀ {l : List Nat} {h : Heap}, (noCur l h).log = h.log
  | [], _ => rfl
  | i :: l, h => (noCur_log (l := l) (h := noCur1 i h)).trans (noCur1_run i h).2.1
theorem bag1_grows {h0 h : Heap} {i : Nat} (hi : i ∈ logNew h0 h) (hg : Grows h0 h) : Grows h0 (bag1 i h) ∧ logNew h0 (bag1 i h) = logNew h0 h := by
  obtain ⟨h1, h2, h3⟩ := bag1_run i h
  obtain ⟨g1, ⟨l, g2, g3⟩, g4, g5⟩ := hg
  have hl : logNew h0 h = l := logNew_of g2
  refine ⟨⟨by rw [h1]; exact g1, ⟨l, by rw [h2]; exact g2, fun j hj hn => ?_⟩, fun hw j hj => ?_, fun j hj => ?_⟩, ?_⟩
  · rcases h3 j with h4 | ⟨rfl, _⟩
    · rw [h4]; exact g3 j hj hn
    · rw [hl] at hi; exact absurd hi hn
  · have hw' := g4 hw j (by rw [h1] at hj; exact hj)
    rcases h3 j with h4 | ⟨_, es, c, _, h4, _⟩
    · rw [h4]; exact hw'
    · rw [hw'] at h4; cases h4
  · refine (g5 j hj).trans ?_
    rcases h3 j with h4 | ⟨_, es, c, _, h4, h5⟩
    · rw [h4]; exact Stay.refl _
    · rw [h4, h5]; intro o ho; cases ho; exact ⟨_, rfl, rfl⟩
  · rw [hl]; exact logNew_of (by rw [h2]; exact g2)
theorem bagL_grows {h0 : Heap} : ∀ {l : List Nat} {h : Heap}, (∀ i ∈ l, i ∈ logNew h0 h) → Grows h0 h → Grows h0 (bagL l h)
  | [], _, _, hg => hg
  | i :: l, h, hl, hg => by
    obtain ⟨h1, h2⟩ := bag1_grows (hl i List.mem_cons_self) hg
    exact bagL_grows (l := l) (fun j hj => by rw [h2]; exact hl j (List.mem_cons_of_mem _ hj)) h1
theorem R.bagL {φ : List Emb} {w0 w : World} : ∀ {l : List Nat} {h : Heap}, R P φ h w0 w → R P φ (bagL l h) w0 w
  | [], _, hR => hR
  | i :: l, h, hR => R.bagL (l := l) (hR.bag1 i)
theorem wk_grows {h0 h : Heap} (hg : Grows h0 h) : Grows h0 (bagL (logNew h0 h) (noCur (logNew h0 h) h)) :=
  bagL_grows (fun i hi => by unfold logNew at hi ⊢; rw [noCur_log]; exact hi) (noCur_grows (fun _ hi => hi) hg)

/-! ### What is covered by other states -/

/-- Whatever the one state shows, one of the others shows too. -/
def Cov (P : Program) (n : Nat) (h0 : Heap) (ds0 : List DVM) (s : LS) (reps : List LS) : Prop :=
  ∀ φ0 w0 wE dl0, R P φ0 h0 w0 wE → DS φ0 ds0 dl0 → ∀ φ w T dl, Up φ0 φ → R P φ s.heap w0 w → Vs φ (envL n s.env) T → DS φ s.dvs dl →
    ∃ s' ∈ reps, ∃ φ1, Up φ0 φ1 ∧ R P φ1 s'.heap w0 w ∧ Vs φ1 (envL n s'.env) T ∧ DS φ1 s'.dvs dl
/-- The same states, some telling less. -/
def LessS (n0 : Nat) (r r' : LS) : Prop := r'.env = r.env ∧ r'.dvs = r.dvs ∧ Like n0 r.heap r'.heap
theorem Cov.mono {h0 : Heap} {ds0 : List DVM} {s : LS} {reps reps' : List LS} (h : Cov P n h0 ds0 s reps) (hr : ∀ r ∈ reps, ∃ r' ∈ reps', LessS h0.next r r') : Cov P n h0 ds0 s reps' := by
  intro φ0 w0 wE dl0 hR0 hd0 φ w T dl hu hR he hd
  obtain ⟨r, hr1, φ1, h1, h2, h3, h4⟩ := h φ0 w0 wE dl0 hR0 hd0 φ w T dl hu hR he hd
  obtain ⟨r', hr2, h5, h6, h7⟩ := hr r hr1
  exact ⟨r', hr2, φ1, h1, h2.less h7.1, by rw [h5]; exact h3, by rw [h6]; exact h4⟩
theorem Cov.self {h0 : Heap} {ds0 : List DVM} {s : LS} {reps : List LS} (h : s ∈ reps) : Cov P n h0 ds0 s reps :=
  fun φ0 w0 wE dl0 hR0 hd0 φ w T dl hu hR he hd => ⟨s, h, φ, hu, hR, he, hd⟩
theorem insS_run {h0 : Heap} {ds0 : List DVM} {s : LS} (hs : s.dvs = ds0) (hgs : Grows h0 s.heap) : ∀ {reps : List LS}, (∀ r ∈ reps, r.dvs = ds0 ∧ Grows h0 r.heap) →
    Cov P n h0 ds0 s (insS n h0 s reps) ∧ (∀ r ∈ reps, ∃ r' ∈ insS n h0 s reps, LessS h0.next r r') ∧ ∀ r ∈ insS n h0 s reps, r.dvs = ds0 ∧ Grows h0 r.heap
  | [], _ => ⟨Cov.self (List.mem_singleton.2 rfl), by simp, fun r hr => by
      have : r ∈ [s] := hr
      rw [List.mem_singleton] at this
      subst this
      exact ⟨hs, hgs⟩⟩
  | r :: rs, hreps => by
    have hdef : insS n h0 s (r :: rs) = Option.rec (motive := fun _ => List LS) (r :: insS n h0 s rs) (fun sg => .mk r.env (tidy h0.next sg r.heap) r.dvs :: rs) (mrg h0.next (envL n r.env) (relog h0 r.heap) (envL n s.env) (relog h0 s.heap)) := rfl
    obtain ⟨hrd, hrg⟩ := hreps r List.mem_cons_self
    cases hm : mrg h0.next (envL n r.env) (relog h0 r.heap) (envL n s.env) (relog h0 s.heap) with
    | none =>
      rw [hdef, hm]
      obtain ⟨i1, i2, i3⟩ := insS_run hs hgs (reps := rs) (fun q hq => hreps q (List.mem_cons_of_mem _ hq))
      refine ⟨i1.mono fun q hq => ⟨q, List.mem_cons_of_mem _ hq, rfl, rfl, Like.refl _ _⟩, fun q hq => ?_, fun q hq => ?_⟩
      · rcases List.mem_cons.1 hq with rfl | hq
        · exact ⟨q, List.mem_cons_self, rfl, rfl, Like.refl _ _⟩
        · obtain ⟨q', h1, h2⟩ := i2 q hq
          exact ⟨q', List.mem_cons_of_mem _ h1, h2⟩
      · rcases List.mem_cons.1 hq with rfl | hq
        · exact ⟨hrd, hrg⟩
        · exact i3 q hq
    | some sg =>
      rw [hdef, hm]
      have hlk : Like h0.next r.heap (tidy h0.next sg r.heap) := Like.tidy _ _ _
      refine ⟨?_, fun q hq => ?_, fun q hq => ?_⟩
      · intro φ0 w0 wE dl0 hR0 hd0 φ w T dl hu hR he hd
        have hR' : R P φ (relog h0 s.heap) w0 w := hR.relog rfl (fun _ => rfl)
        obtain ⟨φ1, hu1, hR1, hv1⟩ := merge_run hm hR0 hu hR' (relog_logged hrg) (relog_logged hgs) (show Wfh (relog h0 r.heap) from hrg.2.2.1 hR0.wfh)
        refine ⟨_, List.mem_cons_self, φ1, hu1, hR1.relog (by show (tidy h0.next sg r.heap).next = _; rw [tidy_next, tidy_next]; rfl) (fun i => (tidy_relog i).symm), hv1 _ he, ?_⟩
        show DS φ1 r.dvs dl
        rw [hrd]
        rw [hs] at hd
        exact DS.trans (φ := φ0) (fun i hi e he => by
          have h1 : φ0[i]? = some φ0[i] := List.getElem?_eq_getElem hi
          have h2 := hu.get h1
          rw [he] at h2
          cases h2
          exact hu1.get h1) hd0 hd
      · rcases List.mem_cons.1 hq with rfl | hq
        · exact ⟨_, List.mem_cons_self, rfl, rfl, hlk⟩
        · exact ⟨q, List.mem_cons_of_mem _ hq, rfl, rfl, Like.refl _ _⟩
      · rcases List.mem_cons.1 hq with rfl | hq
        · exact ⟨hrd, hlk.grows hrg⟩
        · exact hreps q (List.mem_cons_of_mem _ hq)
theorem wkS_run (hn : n ≤ 256) {h0 : Heap} {kill : List Tmp} {s : LS} (hg : Grows h0 s.heap) : (wkS n h0 kill s).dvs = s.dvs ∧ Grows h0 (wkS n h0 kill s).heap ∧ ∀ φ w0 w T, R P φ s.heap w0 w → Vs φ (envL n s.env) T → R P φ (wkS n h0 kill s).heap w0 w ∧ Vs φ (envL n (wkS n h0 kill s).env) T := by
  obtain ⟨e, h, ds⟩ := s
  exact ⟨rfl, wk_grows hg, fun φ w0 w T hR he => ⟨hR.noCur.bagL, killE_V hn he⟩⟩
theorem foldS_run (hn : n ≤ 256) {h0 : Heap} {kill : List Tmp} {ds0 : List DVM} : ∀ {S : List LS}, (∀ s ∈ S, s.dvs = ds0 ∧ Grows h0 s.heap) → (∀ s ∈ S, Cov P n h0 ds0 s (foldS n h0 kill S)) ∧ ∀ r ∈ foldS n h0 kill S, r.dvs = ds0 ∧ Grows h0 r.heap
  | [], _ => ⟨by simp, fun r hr => by cases hr⟩
  | s :: S, hS => by
    obtain ⟨hsd, hsg⟩ := hS s List.mem_cons_self
    obtain ⟨i1, i2⟩ := foldS_run hn (kill := kill) (S := S) (fun q hq => hS q (List.mem_cons_of_mem _ hq))
    obtain ⟨k1, k2, k3⟩ := wkS_run (P := P) hn (kill := kill) hsg
    obtain ⟨j1, j2, j3⟩ := insS_run (P := P) (n := n) (k1.trans hsd) k2 i2
    refine ⟨fun q hq => ?_, j3⟩
    rcases List.mem_cons.1 hq with rfl | hq
    · intro φ0 w0 wE dl0 hR0 hd0 φ w T dl hu hR he hd
      obtain ⟨hR', he'⟩ := k3 φ w0 w T hR he
      exact j1 φ0 w0 wE dl0 hR0 hd0 φ w T dl hu hR' he' (by rw [k1]; exact hd)
    · exact (i1 q hq).mono j2
theorem mergeF_run (hn : n ≤ 256) {h0 : Heap} {kill : List Tmp} {ds0 : List DVM} {S : List LS} (hS : ∀ s ∈ S, Grows h0 s.heap) : (∀ s ∈ S, Cov P n h0 ds0 s (mergeF n h0 kill ds0 S)) ∧ ∀ r ∈ mergeF n h0 kill ds0 S, Grows h0 r.heap := by
  match S, hS with
  | [], _ => exact ⟨by simp, fun r hr => by cases hr⟩
  | [s], hS => exact ⟨fun q hq => Cov.self hq, hS⟩
  | s :: t :: S, hS =>
    have hdef : mergeF n h0 kill ds0 (s :: t :: S) = Bool.rec (motive := fun _ => List LS) (s :: t :: S) (foldS n h0 kill (s :: t :: S)) (allDs ds0 (s :: t :: S)) := rfl
    rw [hdef]
    cases ha : allDs ds0 (s :: t :: S) with
    | false => exact ⟨fun q hq => Cov.self hq, hS⟩
    | true =>
      obtain ⟨h1, h2⟩ := foldS_run (P := P) hn (h0 := h0) (kill := kill) (ds0 := ds0) (S := s :: t :: S) (fun q hq => ⟨allDs_mem ha q hq, hS q hq⟩)
      exact ⟨h1, fun r hr => (h2 r hr).2⟩

/-! ### The loop -/

theorem normalsR_mem : ∀ {l : List Res} {s : LS}, s ∈ normalsR l ↔ Res.mk .normal s.env s.heap s.dvs ∈ l
  | [], s => by simp [normalsR]
  | r :: l, s => by
    obtain ⟨o, e, h, ds⟩ := r
    have hs : LS.mk s.env s.heap s.dvs = s := by cases s; rfl
    have ih := normalsR_mem (l := l) (s := s)
    cases o with
    | normal =>
      show s ∈ LS.mk e h ds :: normalsR l ↔ _
      rw [List.mem_cons, List.mem_cons, ih]
      refine or_congr ⟨fun hh => by subst hh; rfl, fun hh => ?_⟩ Iff.rfl
      cases hh; exact hs.symm
    | exit i => show s ∈ normalsR l ↔ _; rw [ih, List.mem_cons]; exact ⟨.inr, fun hh => hh.resolve_left (fun h => by cases h)⟩
    | ret => show s ∈ normalsR l ↔ _; rw [ih, List.mem_cons]; exact ⟨.inr, fun hh => hh.resolve_left (fun h => by cases h)⟩
    | pan v => show s ∈ normalsR l ↔ _; rw [ih, List.mem_cons]; exact ⟨.inr, fun hh => hh.resolve_left (fun h => by cases h)⟩
theorem othersR_mem {κ : KO} : ∀ {l : List Res} {L : List Res}, othersR κ l = some L → (∀ o e h ds, Res.mk o e h ds ∈ l → o ≠ .normal → ∃ L', κ o e h ds = some L' ∧ ∀ r ∈ L', r ∈ L) ∧ ∀ r ∈ L, ∃ o e h ds L', Res.mk o e h ds ∈ l ∧ κ o e h ds = some L' ∧ r ∈ L'
  | [], L, h => by cases h; exact ⟨by simp, by simp⟩
  | r :: l, L, h => by
    obtain ⟨o, e, hh, ds⟩ := r
    have go : ∀ {o' : Out}, joinR (κ o' e hh ds) (othersR κ l) = some L → o = o' → (∀ o e2 h ds', Res.mk o e2 h ds' ∈ Res.mk o' e hh ds :: l → o ≠ .normal → ∃ L', κ o e2 h ds' = some L' ∧ ∀ r ∈ L', r ∈ L) ∧ ∀ r ∈ L, ∃ o e2 h ds' L', Res.mk o e2 h ds' ∈ Res.mk o' e hh ds :: l ∧ κ o e2 h ds' = some L' ∧ r ∈ L' := by
      intro o' hj _
      obtain ⟨x, y, hx, hy, rfl⟩ := joinR_some hj
      obtain ⟨g1, g2⟩ := othersR_mem hy
      refine ⟨fun o1 e1 h1 ds1 hm hne => ?_, fun r hr => ?_⟩
      · rcases List.mem_cons.1 hm with hm | hm
        · cases hm; exact ⟨x, hx, fun r hr => List.mem_append.2 (.inl hr)⟩
        · obtain ⟨L', h2, h3⟩ := g1 o1 e1 h1 ds1 hm hne
          exact ⟨L', h2, fun r hr => List.mem_append.2 (.inr (h3 r hr))⟩
      · rcases List.mem_append.1 hr with hr | hr
        · exact ⟨_, _, _, _, x, List.mem_cons_self, hx, hr⟩
        · obtain ⟨o1, e1, h1, ds1, L', h2, h3, h4⟩ := g2 r hr
          exact ⟨o1, e1, h1, ds1, L', List.mem_cons_of_mem _ h2, h3, h4⟩
    cases o with
    | normal =>
      obtain ⟨g1, g2⟩ := othersR_mem (show othersR κ l = some L from h)
      refine ⟨fun o1 e1 h1 ds1 hm hne => ?_, fun r hr => ?_⟩
      · rcases List.mem_cons.1 hm with hm | hm
        · cases hm; exact absurd rfl hne
        · exact g1 o1 e1 h1 ds1 hm hne
      · obtain ⟨o1, e1, h1, ds1, L', h2, h3, h4⟩ := g2 r hr
        exact ⟨o1, e1, h1, ds1, L', List.mem_cons_of_mem _ h2, h3, h4⟩
    | exit i => exact go (o' := .exit i) h rfl
    | ret => exact go (o' := .ret) h rfl
    | pan v => cases h
theorem runAll_mem {b : KO → KX} : ∀ {S : List LS} {l : List Res}, runAll b S = some l → (∀ s ∈ S, ∃ l', b leaf s.env s.heap s.dvs = some l' ∧ ∀ r ∈ l', r ∈ l) ∧ ∀ r ∈ l, ∃ s ∈ S, ∃ l', b leaf s.env s.heap s.dvs = some l' ∧ r ∈ l'
  | [], l, h => by cases h; exact ⟨by simp, by simp⟩
  | s :: S, l, h => by
    obtain ⟨e, hh, ds⟩ := s
    obtain ⟨x, y, hx, hy, rfl⟩ := joinR_some (show joinR (b leaf e hh ds) (runAll b S) = some l from h)
    obtain ⟨g1, g2⟩ := runAll_mem hy
    refine ⟨fun s hs => ?_, fun r hr => ?_⟩
    · rcases List.mem_cons.1 hs with rfl | hs
      · exact ⟨x, hx, fun r hr => List.mem_append.2 (.inl hr)⟩
      · obtain ⟨l', h1, h2⟩ := g1 s hs
        exact ⟨l', h1, fun r hr => List.mem_append.2 (.inr (h2 r hr))⟩
    · rcases List.mem_append.1 hr with hr | hr
      · exact ⟨_, List.mem_cons_self, x, hx, hr⟩
      · obtain ⟨s, hs, l', h1, h2⟩ := g2 r hr
        exact ⟨s, List.mem_cons_of_mem _ hs, l', h1, h2⟩
theorem goL_inv {kill : List Tmp} {b : KO → KX} {κ : KO} {h0 : Heap} {ds0 : List DVM} {m : Nat} {S : List LS} {L : List Res} (hr : goL n kill b κ h0 ds0 (m + 1) S = some L) :
    ∃ l x y, runAll b S = some l ∧ othersR κ l = some x ∧ contL (goL n kill b κ h0 ds0 m) (mergeF n h0 kill ds0 (normalsR l)) = some y ∧ L = x ++ y := by
  have h1 : (Option.rec (motive := fun _ => RX) none (fun l => joinR (othersR κ l) (contL (goL n kill b κ h0 ds0 m) (mergeF n h0 kill ds0 (normalsR l)))) (runAll b S)) = some L := hr
  cases hl : runAll b S with
  | none => rw [hl] at h1; cases h1
  | some l =>
    rw [hl] at h1
    obtain ⟨x, y, hx, hy, h2⟩ := joinR_some h1
    exact ⟨l, x, y, rfl, hx, hy, h2⟩
theorem contL_inv {k : List LS → RX} {S : List LS} {y : List Res} (h : contL k S = some y) : (S = [] ∧ y = []) ∨ k S = some y := by
  cases S with
  | nil => exact .inl ⟨rfl, (Option.some.inj h).symm⟩
  | cons s S => exact .inr h
theorem loopG_from (P : Program) (hn : n ≤ 256) {kill : List Tmp} {b : KO → KX} {κ : KO} {N : Nat} (hb : ∀ e h ds L, b leaf e h ds = some L → FromK h leaf L) {e : Env} {h : Heap} {ds : List DVM} {L : List Res} (hr : loopG n kill b κ N e h ds = some L) : FromK h κ L := by
  have key : ∀ (m : Nat) (S : List LS) (L : List Res), (∀ s ∈ S, Grows h s.heap) → goL n kill b κ h ds m S = some L → FromK h κ L := by
    intro m
    induction m with
    | zero => intro S L _ hr; cases hr
    | succ m ih =>
      intro S L hS hr
      obtain ⟨l, x, y, hl, hx, hy, rfl⟩ := goL_inv hr
      obtain ⟨_, r2⟩ := runAll_mem hl
      obtain ⟨_, o2⟩ := othersR_mem hx
      have hlg : ∀ o e' h' ds', Res.mk o e' h' ds' ∈ l → Grows h h' := by
        intro o e' h' ds' hm
        obtain ⟨s, hs, l', h1, h2⟩ := r2 _ hm
        exact (hS s hs).trans (leaf_from (hb _ _ _ _ h1) _ _ _ _ h2)
      intro r hrm
      rcases List.mem_append.1 hrm with hrm | hrm
      · obtain ⟨o, e', h', ds', L', h1, h2, h3⟩ := o2 r hrm
        exact ⟨o, e', h', ds', L', h2, h3, hlg _ _ _ _ h1⟩
      · rcases contL_inv hy with ⟨_, rfl⟩ | hy
        · cases hrm
        · refine ih _ y (mergeF_run (P := P) hn fun s hs => ?_).2 hy r hrm
          exact hlg _ _ _ _ (normalsR_mem.1 hs)
  refine key N _ L (fun s hs => ?_) hr
  rw [List.mem_singleton] at hs
  subst hs
  exact Grows.refl _
end
end Go.Am

noncomputable section
namespace Go.Am
open Go.RowKit

/-- An own object is forgotten; its block is as it may. -/
theorem R.forget {P : Program} {φ : List Emb} {h : Heap} {w0 w w' : World} (hR : R P φ h w0 w) {i : Nat} {o : Obj} {e : Emb} (hi : h.get i = some o) (hown : o.isOwn = true) (he : φ[i]? = some e)
    (hb : ∀ k, k ≠ e.blk → w'.heap[k]? = w.heap[k]?) (hsz : w'.heap.size = w.heap.size) (hos : w'.os = w.os) (ht : w'.tape = w.tape) (hout : w'.output = w.output) : R P φ (h.del i) w0 w' where
  below := hR.below.trans ⟨hos, ht, hout, by omega, fun k hk => by
    refine hb k ?_
    obtain ⟨e', he', _, hw⟩ := hR.objs i o hi
    rw [he] at he'
    cases he'
    have := hw hown
    omega⟩
  len := by simp [hR.len, Heap.next_del]
  objs := fun j oj hj => by
    by_cases hij : i = j
    · subst hij; rw [Heap.get_del] at hj; cases hj
    · rw [Heap.get_del_ne _ hij] at hj
      obtain ⟨ej, hej, hoj, hwj⟩ := hR.objs j oj hj
      exact ⟨ej, hej, O.same (hb _ (Ne.symm (hR.sep i j o oj e ej hij hi hj he hej hown))) hoj, hwj⟩
  sep := fun a b oa ob ea eb hab ha hb' hea heb hoa => by
    have key : ∀ k ok, (h.del i).get k = some ok → h.get k = some ok := by
      intro k ok hk
      by_cases hki : i = k
      · subst hki; rw [Heap.get_del] at hk; cases hk
      · rwa [Heap.get_del_ne _ hki] at hk
    exact hR.sep a b oa ob ea eb hab (key _ _ ha) (key _ _ hb') hea heb hoa
  glob := hR.glob
theorem putObj_other {w : World} {r k : Nat} {o : Go.Obj} (h : k ≠ r) : (w.putObj r o).heap[k]? = w.heap[k]? := World.putObj_heap_other h

theorem VE_of_Vs {φ : List Emb} {n : Nat} (hn : n ≤ 256) {e : Env} {T : Array Value} (h : Vs φ (envL n e) T.toList) : VE φ e T := by
  have hl : T.size = n := by rw [← Array.length_toList, h.length, envL_length]
  refine ⟨by omega, fun t ht => ?_⟩
  have := nth_V h t
  rw [nth_envL, if_pos (by omega)] at this
  simpa [Array.getD_eq_getD_getElem?, List.getD_eq_getElem?_getD] using this
theorem Vs_of_VE {φ : List Emb} {e : Env} {T : Array Value} (h : VE φ e T) : Vs φ (envL T.size e) T.toList := by
  refine Vs.of_get (by rw [envL_length, Array.length_toList]) fun t a v ha hv => ?_
  rw [envL_get] at ha
  split at ha
  · rename_i hlt
    cases ha
    have := h.2 t hlt
    rw [Array.getElem?_toList] at hv
    simpa [Array.getD_eq_getD_getElem?, hv] using this
  · cases ha

section
variable {P : Program} {call : CallM} {plan : FuncId → Nat → Option Plan} {n N fid : Nat}

theorem rangeEnd_inv {k k0 : Nat} {e : Env} {ds : List DVM} {κ : KO} {h : Heap} {L : List Res} (hr : rangeEnd k k0 e ds κ h = some L) :
    ∃ st pend m e' ps a b d o, h.get k = some (.loop st pend m e' ps a b d) ∧ st ≠ .busy ∧ ((pend = none ∧ o = Out.normal) ∨ (pend = some .ret ∧ o = .ret) ∨ ∃ i, pend = some (.exit i) ∧ o = .exit i) ∧ κ o e (h.del k) (.mark k0 :: ds) = some L := by
  unfold rangeEnd at hr
  split at hr
  · rename_i hg; exact ⟨_, _, _, _, _, _, _, _, .normal, hg, by simp, .inl ⟨rfl, rfl⟩, hr⟩
  · rename_i hg; exact ⟨_, _, _, _, _, _, _, _, .ret, hg, by simp, .inr (.inl ⟨rfl, rfl⟩), hr⟩
  · rename_i hg; exact ⟨_, _, _, _, _, _, _, _, _, hg, by simp, .inr (.inr ⟨_, rfl, rfl⟩), hr⟩
  · cases hr
theorem rangeM_inv {f : Operand} {ps : Array Tmp} {a b : Code} {κ : KO} {e : Env} {h : Heap} {ds : List DVM} {L : List Res} (hr : rangeM P call n (srcOf P n f) ps a b κ e h ds = some L) :
    ∃ g first cap l0, evalA P (envL n e) f = .func (.func g) first cap ∧ hasBody P g = true ∧ call g ((first ++ [.yield (h.next + 1)]) ++ cap) ((h.alloc .defs).alloc (.loop .ready none n e ps a b h.next)) = some l0 ∧ OutsL l0 (fun p => rangeEnd (h.next + 1) h.next e ds κ p.2) L := by
  unfold rangeM at hr
  cases hf : asFn ((srcOf P n f).ev e) with
  | no => rw [hf] at hr; cases hr
  | yield y => rw [hf] at hr; cases hr
  | fn g first cap =>
    rw [hf] at hr
    have hr1 : (Bool.rec (motive := fun _ => RX) none (fan (call g (appF (appF first [.yield (Nat.succ h.next)]) cap) ((h.alloc .defs).alloc (.loop .ready none n e ps a b h.next))) fun _ h' => rangeEnd (Nat.succ h.next) h.next e ds κ h') (hasBody P g)) = some L := hr
    cases hb : hasBody P g with
    | false => rw [hb] at hr1; cases hr1
    | true =>
      rw [hb] at hr1
      have hr2 : fan (call g (appF (appF first [.yield (Nat.succ h.next)]) cap) ((h.alloc .defs).alloc (.loop .ready none n e ps a b h.next))) (fun _ h' => rangeEnd (Nat.succ h.next) h.next e ds κ h') = some L := hr1
      rw [appF_eq, appF_eq] at hr2
      obtain ⟨l0, h1, h2⟩ := fan_some hr2
      have hev := asFn_fn hf
      rw [srcOf_ev] at hev
      exact ⟨g, first, cap, l0, hev, hb, h1, h2⟩

theorem condM_inv {c : Operand} {x y : KX} {e : Env} {h : Heap} {ds : List DVM} {L : List Res} (hr : (Src.rec (fun g => condM g x y) (srcOf P n c) : KX) e h ds = some L) : ∃ t, evalA P (envL n e) c = .bool t ∧ (if t then x else y) e h ds = some L := by
  have hev := srcOf_ev P n c e
  cases hs : srcOf P n c with
  | mk g =>
    rw [hs] at hr hev
    have hev : g e = evalA P (envL n e) c := hev
    have hr1 : (Option.rec (motive := fun _ => RX) none (fun t => Bool.rec (motive := fun _ => RX) (y e h ds) (x e h ds) t) (asB (g e))) = some L := hr
    cases hb : asB (g e) with
    | none => rw [hb] at hr1; cases hr1
    | some t =>
      rw [hb] at hr1
      refine ⟨t, by rw [← hev]; exact asB_some hb, ?_⟩
      cases t with
      | true => exact hr1
      | false => exact hr1

/-! ### Memory goes on -/

theorem exM_from (hcall : CallMOk P call) (hn : n ≤ 256) {inR : Bool} : ∀ (c : Code) (κ : KO) (e : Env) (h : Heap) (ds : List DVM) (L : List Res), exM P (drawX P plan) call inR fid n N c κ e h ds = some L → FromK h κ L
  | .skip, κ, e, h, ds, L, hr => FromK.self (o := .normal) hr
  | .label _, κ, e, h, ds, L, hr => FromK.self (o := .normal) hr
  | .exit i, κ, e, h, ds, L, hr => FromK.self (o := .exit i) hr
  | .ret, κ, e, h, ds, L, hr => FromK.self (o := .ret) hr
  | .region id ops dr, κ, e, h, ds, L, hr => by
    refine FromK.of_from (k := κ .normal) ?_ (fun e h ds L' hk => FromK.self hk)
    cases dr with
    | true => exact drawX_from hcall hn hr
    | false =>
      have hr1 : opsM call (compOps P inR n ops) (κ .normal) e h ds = some L := hr
      rw [compOps, mapF_eq] at hr1
      exact opsM_from hcall _ _ _ _ _ hr1
  | .seq a b, κ, e, h, ds, L, hr => by
    refine (exM_from hcall hn a _ e h ds L hr).trans fun o e' h' ds' L' hk => ?_
    cases o with
    | normal => exact exM_from hcall hn b κ e' h' ds' L' hk
    | exit i => exact FromK.self (o := .exit i) hk
    | ret => exact FromK.self (o := .ret) hk
    | pan v => exact FromK.self (o := .pan v) hk
  | .cond c a b, κ, e, h, ds, L, hr => by
    obtain ⟨t, _, hr1⟩ := condM_inv (x := exM P (drawX P plan) call inR fid n N a κ) (y := exM P (drawX P plan) call inR fid n N b κ) hr
    cases t with
    | true => exact exM_from hcall hn a κ e h ds L hr1
    | false => exact exM_from hcall hn b κ e h ds L hr1
  | .block id b, κ, e, h, ds, L, hr => by
    refine (exM_from hcall hn b _ e h ds L hr).trans fun o e' h' ds' L' hk => ?_
    cases o with
    | normal => exact FromK.self (o := .normal) hk
    | exit i =>
      have hk1 : (Bool.rec (motive := fun _ => KX) (κ (.exit i)) (κ .normal) (Nat.beq i id)) e' h' ds' = some L' := hk
      cases hb : Nat.beq i id with
      | true => rw [hb] at hk1; exact FromK.self (o := .normal) hk1
      | false => rw [hb] at hk1; exact FromK.self (o := .exit i) hk1
    | ret => exact FromK.self (o := .ret) hk
    | pan v => exact FromK.self (o := .pan v) hk
  | .loop b, κ, e, h, ds, L, hr => by
    exact loopG_from P hn (fun e h ds L hb => exM_from hcall hn b leaf e h ds L hb) hr
  | .rangeFunc f ps a b, κ, e, h, ds, L, hr => by
    cases inR with
    | true => cases hr
    | false =>
      obtain ⟨g, first, cap, l0, h1, h2, h3, h4⟩ := rangeM_inv (κ := κ) hr
      intro r hrL
      obtain ⟨p, hp, L', h5, h6⟩ := h4.2 r hrL
      obtain ⟨st, pend, m, e', ps', a', b', d, o, _, _, _, h7⟩ := rangeEnd_inv h5
      exact ⟨o, _, _, _, L', h7, h6, (((Grows.alloc _ _).trans (Grows.alloc _ _)).trans (hcall.grow _ _ _ _ h3 p hp)).trans (Grows.del _ _)⟩
  | .scope .., κ, e, h, ds, L, hr => by cases hr
  | .goto _, κ, e, h, ds, L, hr => by cases hr
  | .refuse _, κ, e, h, ds, L, hr => by cases hr
end
end Go.Am

noncomputable section
namespace Go.Am
open Go.RowKit

section
variable {P : Program} {call : CallM} {plan : FuncId → Nat → Option Plan} {n N fid : Nat}

theorem hasBody_some {g : FuncId} (h : hasBody P g = true) : ∃ fn c, P.funcs[g]? = some fn ∧ fn.body = some c := by
  unfold hasBody at h
  cases hf : P.funcs[g]? with
  | none => rw [hf] at h; cases h
  | some fn =>
    rw [hf] at h
    have h1 : fn.body.isSome = true := h
    cases hb : fn.body with
    | none => rw [hb] at h1; cases h1
    | some c => exact ⟨fn, c, rfl, hb⟩
theorem goes_enter (hF : Fns P) {g : FuncId} {fn : Func} {c : Code} (hf : P.funcs[g]? = some fn) (hb : fn.body = some c) {args : Array Value} {w : World} {Post : Ending → World → Prop} (h : Goes P g args w Post) : Calls P g args w Post := by
  rcases h with ⟨_, h2⟩ | ⟨v, w', h1, _⟩
  · exact h2
  · rw [callFunc_run hF hf hb] at h1; cases h1

/-- An own loop's record in the world. -/
theorem loop_obj {φ : List Emb} {h : Heap} {w0 w : World} (hR : R P φ h w0 w) {k : Nat} {st : LoopState} {pend : Option Code} {m : Nat} {e : Env} {ps : Array Tmp} {a b : Code} {d : Nat} (hg : h.get k = some (.loop st pend m e ps a b d)) {ek : Emb} (hk : φ[k]? = some ek) :
    ∃ fn T ed, w.heap[ek.blk]? = some (.loop { state := st, pending := pend, fn, tmps := T, params := ps, assign := a, body := b, defers := ed.blk }) ∧ T.size = m ∧ VE φ e T ∧ φ[d]? = some ed := by
  obtain ⟨e', he', ho, _⟩ := hR.objs k _ hg
  rw [hk] at he'; cases he'
  exact ho

theorem rangeFunc_wp (hF : Fns P) (hcall : CallMOk P call) (hn : n ≤ 256) {f : Operand} {ps : Array Tmp} {x y : Code} {κ : KO} {e : Env} {h : Heap} {ds : List DVM} {L L' : List Res} (hr : rangeM P call n (srcOf P n f) ps x y κ e h ds = some L') (hs : ∀ r ∈ L', r ∈ L)
    {Q : Exit → Act → World → Prop} {φ : List Emb} {w0 w : World} {a : Act} (hR : R P φ h w0 w) (he : Vs φ (envL n e) a.tmps.toList) (hd : DS φ ds a.defers) (hκ : ∀ o, SX P φ w0 n L (QO Q o) (κ o)) : cwp none P (.rangeFunc f ps x y) Q a w := by
  obtain ⟨g, first, cap, l0, hf, hb, hc, hout⟩ := rangeM_inv hr
  obtain ⟨fn0, c0, hfn, hbd⟩ := hasBody_some hb
  have hsz : a.tmps.size = n := by rw [← Array.length_toList, he.length, envL_length]
  have hev := evalA_V hR he f
  rw [hf] at hev
  simp only [V] at hev
  obtain ⟨vx, vy, hfv, hvx, hvy⟩ := hev
  refine wpIn_rangeFunc fun fn _ => ?_
  -- the two blocks
  have hR1 : R P (φ ++ [⟨w.heap.size, 0, 0⟩]) (h.alloc .defs) w0 (w.alloc (.deferred (some []))) :=
    R.alloc hR .defs (.deferred (some [])) 0 rfl rfl rfl rfl (World.alloc_heap_new w _)
  have hsz1 : (w.alloc (.deferred (some []))).heap.size = w.heap.size + 1 := World.size_alloc _ _
  have hu1 : Up φ (φ ++ [⟨w.heap.size, 0, 0⟩]) := Up.snoc _ _
  have hk0 : (φ ++ [⟨w.heap.size, 0, 0⟩])[h.next]? = some ⟨w.heap.size, 0, 0⟩ := by rw [← hR.len]; simp
  have hVE : VE φ e a.tmps := VE_of_Vs hn he
  have hu2 : Up (φ ++ [⟨w.heap.size, 0, 0⟩]) (φ ++ [⟨w.heap.size, 0, 0⟩] ++ [⟨(w.alloc (.deferred (some []))).heap.size, 0, 0⟩]) := Up.snoc _ _
  have hR2 : R P (φ ++ [⟨w.heap.size, 0, 0⟩] ++ [⟨(w.alloc (.deferred (some []))).heap.size, 0, 0⟩]) ((h.alloc .defs).alloc (.loop .ready none n e ps x y h.next)) w0
      ((w.alloc (.deferred (some []))).alloc (.loop { state := .ready, pending := none, fn, tmps := a.tmps, params := ps, assign := x, body := y, defers := w.heap.size })) :=
    R.alloc hR1 (.loop .ready none n e ps x y h.next) (.loop { state := .ready, pending := none, fn, tmps := a.tmps, params := ps, assign := x, body := y, defers := w.heap.size }) 0 rfl rfl rfl rfl
      ⟨fn, a.tmps, ⟨w.heap.size, 0, 0⟩, World.alloc_heap_new _ _, hsz, (hVE.up hu1).up hu2, hu2.get hk0⟩
  have hk1 : (φ ++ [⟨w.heap.size, 0, 0⟩] ++ [⟨(w.alloc (.deferred (some []))).heap.size, 0, 0⟩])[h.next + 1]? = some ⟨w.heap.size + 1, 0, 0⟩ := by
    have : h.next + 1 = (φ ++ [(⟨w.heap.size, 0, 0⟩ : Emb)]).length := by simp [hR.len]
    rw [this, hsz1]; simp
  have huu := hu1.trans hu2
  refine ⟨w.heap.size + 1, [{ target := .collected w.heap.size, args := #[] }], ((w.alloc (.deferred (some []))).alloc (.loop { state := .ready, pending := none, fn, tmps := a.tmps, params := ps, assign := x, body := y, defers := w.heap.size })), { target := .fn (.func g) vy, args := vx ++ #[.func (.yield (w.heap.size + 1)) #[] #[]] }, ((w.alloc (.deferred (some []))).alloc (.loop { state := .ready, pending := none, fn, tmps := a.tmps, params := ps, assign := x, body := y, defers := w.heap.size })), g, (vx ++ #[.func (.yield (w.heap.size + 1)) #[] #[]]) ++ vy, ((w.alloc (.deferred (some []))).alloc (.loop { state := .ready, pending := none, fn, tmps := a.tmps, params := ps, assign := x, body := y, defers := w.heap.size })),
    run_enterLoop_outer fn a.tmps ps x y, ?_, fun _ _ => trivial, ?_, ?_, ?_⟩
  · simp only [resolve, hfv, Deferred.ofValue, Sem.run_pure, Sem.run_bind, Result.andThen_ok]
    simp [Act.eval]
  · simp only [invoke]
    exact callFunc_run hF hfn hbd _ _
  · intro h0; cases h0
  · have hVs : Vs (φ ++ [⟨w.heap.size, 0, 0⟩] ++ [⟨(w.alloc (.deferred (some []))).heap.size, 0, 0⟩]) ((first ++ [.yield (h.next + 1)]) ++ cap) ((vx ++ #[Value.func (.yield (w.heap.size + 1)) #[] #[]]) ++ vy).toList := by
      simp only [Array.toList_append]
      refine ((Vs.up huu _ _ hvx).append ?_).append (Vs.up huu _ _ hvy)
      rw [Vs_cons]
      refine ⟨?_, by simp [Vs]⟩
      simp only [V]
      exact ⟨_, hk1, rfl⟩
    have hgo := hcall.post _ _ _ _ hc _ w0 _ _ hR2 hVs
    rw [if_pos (Array.getElem?_eq_some_iff.1 hfn).1] at hgo
    refine callsR.2 ((goes_enter hF hfn hbd hgo).mono ?_)
    rintro ed w3 ⟨p, hp, φ3, v3, rfl, hu3, hR3, _⟩
    obtain ⟨L'', h5, h6⟩ := hout.1 p hp
    obtain ⟨st, pend, m, e', ps', a', b', d, o, hg, hst, hcase, hkk⟩ := rangeEnd_inv h5
    have hk3 := hu3.get hk1
    obtain ⟨fn', T', ed', hobj, _, _, _⟩ := loop_obj hR3 hg hk3
    have hend := run_endLoop (P := P) hobj hst
    have hR4 : R P φ3 (p.2.del (h.next + 1)) w0 (w3.putObj (w.heap.size + 1) (.loop { state := .exhausted, pending := pend, fn := fn', tmps := T', params := ps', assign := a', body := b', defers := ed'.blk })) :=
      R.forget hR3 hg rfl hk3 (fun k hk => putObj_other hk) (by simp) rfl rfl rfl
    have huT := huu.trans hu3
    have hq := hκ o e _ _ L'' hkk (fun r hr => hs r (h6 r hr)) φ3 _ { a with defers := [{ target := .collected w.heap.size, args := #[] }] ++ a.defers } huT hR4 (Vs.up huT _ _ he)
      ⟨⟨w.heap.size, 0, 0⟩, a.defers, hu3.get (hu2.get hk0), rfl, hd.up huT⟩
    refine ⟨pend, _, hend, ?_⟩
    rcases hcase with ⟨rfl, rfl⟩ | ⟨rfl, rfl⟩ | ⟨i, rfl, rfl⟩
    · exact hq
    · exact wpIn_ret hq
    · exact wpIn_exit hq

theorem exM_wp (hF : Fns P) (hm : P.follows .mixedOrders = true) (hcall : CallMOk P call) (hn : n ≤ 256) {inR : Bool} {ρ : Option Nat} (hro : inR = false → ρ = none) {L : List Res} {w0 : World} : ∀ (c : Code) (κ : KO) (Q : Exit → Act → World → Prop) (φ : List Emb) (e : Env) (h : Heap) (ds : List DVM) (L' : List Res) (w : World) (a : Act),
    exM P (drawX P plan) call inR fid n N c κ e h ds = some L' → (∀ r ∈ L', r ∈ L) → R P φ h w0 w → Vs φ (envL n e) a.tmps.toList → DS φ ds a.defers → (∀ o, SX P φ w0 n L (QO Q o) (κ o)) → cwp ρ P c Q a w
  | .skip, κ, Q, φ, e, h, ds, L', w, a, hr, hs, hR, he, hd, hκ => wpIn_skip (hκ .normal e h ds L' hr hs φ w a (Up.refl _) hR he hd)
  | .label _, κ, Q, φ, e, h, ds, L', w, a, hr, hs, hR, he, hd, hκ => wpIn_label (hκ .normal e h ds L' hr hs φ w a (Up.refl _) hR he hd)
  | .exit i, κ, Q, φ, e, h, ds, L', w, a, hr, hs, hR, he, hd, hκ => wpIn_exit (hκ (.exit i) e h ds L' hr hs φ w a (Up.refl _) hR he hd)
  | .ret, κ, Q, φ, e, h, ds, L', w, a, hr, hs, hR, he, hd, hκ => wpIn_ret (hκ .ret e h ds L' hr hs φ w a (Up.refl _) hR he hd)
  | .region id ops dr, κ, Q, φ, e, h, ds, L', w, a, hr, hs, hR, he, hd, hκ => by
    cases dr with
    | true => exact drawX_wp hF hm hcall hn hr hs hR he hd (hκ .normal)
    | false =>
      have hr1 : opsM call (compOps P inR n ops) (κ .normal) e h ds = some L' := hr
      rw [compOps, mapF_eq] at hr1
      refine wpIn_region ?_
      have := opsM_wp (ops := ops) hF hcall hn hro ops.toList 0 rfl e h ds L' φ w a hr1 hs hR he hd (hκ .normal)
      rw [Array.length_toList] at this
      rw [List.range_eq_range']
      exact this
  | .seq x y, κ, Q, φ, e, h, ds, L', w, a, hr, hs, hR, he, hd, hκ => by
    refine wpIn_seq (exM_wp hF hm hcall hn hro x _ _ φ e h ds L' w a hr hs hR he hd fun o => ?_)
    intro e' h' ds' L'' hk hs' φ' w' a' hu hR' he' hd'
    cases o with
    | normal => exact exM_wp hF hm hcall hn hro y κ Q φ' e' h' ds' L'' w' a' hk hs' hR' he' hd' (fun o => (hκ o).up hu)
    | exit i => exact hκ (.exit i) e' h' ds' L'' hk hs' φ' w' a' hu hR' he' hd'
    | ret => exact hκ .ret e' h' ds' L'' hk hs' φ' w' a' hu hR' he' hd'
    | pan v => trivial
  | .cond c x y, κ, Q, φ, e, h, ds, L', w, a, hr, hs, hR, he, hd, hκ => by
    obtain ⟨t, hc, hr1⟩ := condM_inv (x := exM P (drawX P plan) call inR fid n N x κ) (y := exM P (drawX P plan) call inR fid n N y κ) hr
    have hv := evalA_V hR he c
    rw [hc] at hv
    simp only [V] at hv
    cases t with
    | true => exact wpIn_cond_true hv (exM_wp hF hm hcall hn hro x κ Q φ e h ds L' w a hr1 hs hR he hd hκ)
    | false => exact wpIn_cond_false hv (exM_wp hF hm hcall hn hro y κ Q φ e h ds L' w a hr1 hs hR he hd hκ)
  | .block id b, κ, Q, φ, e, h, ds, L', w, a, hr, hs, hR, he, hd, hκ => by
    refine wpIn_block (exM_wp hF hm hcall hn hro b _ _ φ e h ds L' w a hr hs hR he hd fun o => ?_)
    intro e' h' ds' L'' hk hs' φ' w' a' hu hR' he' hd'
    cases o with
    | normal => exact hκ .normal e' h' ds' L'' hk hs' φ' w' a' hu hR' he' hd'
    | exit i =>
      have hk1 : (Bool.rec (motive := fun _ => KX) (κ (.exit i)) (κ .normal) (Nat.beq i id)) e' h' ds' = some L'' := hk
      cases hb : Nat.beq i id with
      | true =>
        rw [hb] at hk1
        have := Nat.eq_of_beq_eq_true hb
        subst this
        have := hκ .normal e' h' ds' L'' hk1 hs' φ' w' a' hu hR' he' hd'
        simpa [Exit.inBlock, QO] using this
      | false =>
        rw [hb] at hk1
        have hne := Nat.ne_of_beq_eq_false hb
        have := hκ (.exit i) e' h' ds' L'' hk1 hs' φ' w' a' hu hR' he' hd'
        simpa [Exit.inBlock, QO, hne] using this
    | ret => exact hκ .ret e' h' ds' L'' hk hs' φ' w' a' hu hR' he' hd'
    | pan v => trivial
  | .loop b, κ, Q, φ, e, h, ds, L', w, a, hr, hs, hR, he, hd, hκ => by
    have key : ∀ (m : Nat) (S : List LS) (L' : List Res), (∀ s ∈ S, Grows h s.heap) → goL n (killOf (evC b) []) (exM P (drawX P plan) call inR fid n N b) κ h ds m S = some L' → (∀ r ∈ L', r ∈ L) →
        ∀ s ∈ S, ∀ (φ1 : List Emb) (w1 : World) (a1 : Act), Up φ φ1 → R P φ1 s.heap w0 w1 → Vs φ1 (envL n s.env) a1.tmps.toList → DS φ1 s.dvs a1.defers → Code.roundsIn (wideR ρ) 0 P b Q m a1 w1 := by
      intro m
      induction m with
      | zero => intro S L' _ hr; cases hr
      | succ m ih =>
        intro S L' hS hr hs s hsS φ1 w1 a1 hu1 hR1 he1 hd1
        obtain ⟨l, x, y, hl, hx, hy, rfl⟩ := goL_inv hr
        obtain ⟨r1, r2⟩ := runAll_mem hl
        obtain ⟨o1, _⟩ := othersR_mem hx
        obtain ⟨l', hb1, hb2⟩ := r1 s hsS
        rw [roundsIn_succ]
        refine exM_wp hF hm hcall hn hro (L := l) b leaf _ φ1 s.env s.heap s.dvs l' w1 a1 hb1 hb2 hR1 he1 hd1 fun o => leaf_SX fun e' h' ds' hmem φ' w' a' hu hR' he' hd' => ?_
        have other : o ≠ .normal → QO Q o a' w' := fun hne => by
          obtain ⟨L2, h1, h2⟩ := o1 _ _ _ _ hmem hne
          exact hκ o e' h' ds' L2 h1 (fun r hr => hs r (List.mem_append.2 (.inl (h2 r hr)))) φ' w' a' (hu1.trans hu) hR' he' hd'
        cases o with
        | normal =>
          have hlg : ∀ t ∈ normalsR l, Grows h t.heap := fun t ht => by
            obtain ⟨s2, hs2, l2, h1, h2⟩ := r2 _ (normalsR_mem.1 ht)
            exact (hS s2 hs2).trans (leaf_from (exM_from hcall hn b leaf _ _ _ _ h1) _ _ _ _ h2)
          obtain ⟨m1, m2⟩ := mergeF_run (P := P) hn (kill := killOf (evC b) []) (ds0 := ds) hlg
          have hin : LS.mk e' h' ds' ∈ normalsR l := normalsR_mem.2 hmem
          obtain ⟨s', hs', φ2, hu2, hR2, he2, hd2⟩ := m1 _ hin φ w0 w a.defers hR hd φ' w' a'.tmps.toList a'.defers (hu1.trans hu) hR' he' hd'
          rcases contL_inv hy with ⟨hnil, _⟩ | hy
          · rw [hnil] at hs'; cases hs'
          · exact ih _ y m2 hy (fun r hr => hs r (List.mem_append.2 (.inr hr))) s' hs' φ2 w' a' hu2 hR2 he2 hd2
        | exit i => exact other (by simp)
        | ret => exact other (by simp)
        | pan v => trivial
    exact wpIn_loop_rounds N (key N _ L' (fun s hs => by rw [List.mem_singleton] at hs; subst hs; exact Grows.refl _) hr hs (.mk e h ds) (List.mem_singleton.2 rfl) φ w a (Up.refl _) hR he hd)
  | .rangeFunc f ps x y, κ, Q, φ, e, h, ds, L', w, a, hr, hs, hR, he, hd, hκ => by
    cases inR with
    | true => cases hr
    | false =>
      have := hro rfl
      subst this
      exact rangeFunc_wp hF hcall hn hr hs hR he hd hκ
  | .scope .., κ, Q, φ, e, h, ds, L', w, a, hr, hs, hR, he, hd, hκ => by cases hr
  | .goto _, κ, Q, φ, e, h, ds, L', w, a, hr, hs, hR, he, hd, hκ => by cases hr
  | .refuse _, κ, Q, φ, e, h, ds, L', w, a, hr, hs, hR, he, hd, hκ => by cases hr
end
end Go.Am

noncomputable section
namespace Go.Am
open Go.RowKit

/-! ### Frames and results -/

def frPut (args : List AV) : Nat → Env → Env := List.rec (motive := fun _ => Nat → Env → Env) (fun _ e => e) (fun v _ ih i e => ih (Nat.succ i) (Dst.put (dstTab (dig (Nat.div i 16)) (dig (Nat.mod i 16))) v e)) args
theorem frPut_at : ∀ (args : List AV) (i : Nat) (e : Env) (t : Nat), i + args.length ≤ 256 → t < 256 → (frPut args i e).at (refOf t) = if i ≤ t ∧ t < i + args.length then args.getD (t - i) .unk else e.at (refOf t)
  | [], i, e, t, h, ht => by
    rw [if_neg (by rw [List.length_nil]; omega)]; rfl
  | v :: args, i, e, t, h, ht => by
    simp only [List.length_cons] at h
    show (frPut args (i + 1) (Dst.put (dstTab (dig (Nat.div i 16)) (dig (Nat.mod i 16))) v e)).at (refOf t) = _
    rw [frPut_at args (i + 1) _ t (by omega) ht, dstTab_put]
    by_cases h1 : i = t
    · subst h1
      rw [if_neg (by omega), if_pos (by simp)]
      rw [Nat.sub_self]
      exact Env.at_put _ _ _
    · by_cases h2 : i + 1 ≤ t ∧ t < i + 1 + args.length
      · rw [if_pos h2, if_pos (by simp; omega)]
        rw [show t - i = (t - (i + 1)) + 1 by omega]; rfl
      · rw [if_neg h2, if_neg (by simp; omega)]
        exact Env.at_put_ne (s := t) (t := i) ht (by omega) (Ne.symm h1) v e
theorem fits_some {fn : Func} {args : List AV} (h : fits fn args = true) : fn.ntmps ≤ 256 ∧ args.length ≤ fn.ntmps := by
  unfold fits at h
  cases hb : Nat.ble fn.ntmps 256 with
  | false => rw [hb] at h; cases h
  | true =>
    rw [hb] at h
    have h1 : Nat.ble (lenF args) fn.ntmps = true := h
    rw [lenF_eq] at h1
    exact ⟨(ble_iff _ _).1 hb, (ble_iff _ _).1 h1⟩
theorem frame_V {φ : List Emb} {n : Nat} (hn : n ≤ 256) {args : List AV} {args' : Array Value} (hl : args.length ≤ n) (h : Vs φ args args'.toList) : Vs φ (envL n (frameM args)) (args' ++ Array.replicate (n - args'.size) undef).toList := by
  have hs : args'.size = args.length := by rw [← Array.length_toList, h.length]
  refine Vs.of_get (by rw [envL_length]; simp; omega) fun t a v ha hv => ?_
  rw [envL_get] at ha
  split at ha
  · rename_i hlt
    cases ha
    have hat : (frameM args).at (refOf t) = _ := frPut_at args 0 Env.none t (by omega) (by omega)
    rw [hat]
    simp only [Array.toList_append, Array.toList_replicate] at hv
    by_cases ht : t < args.length
    · rw [if_pos ⟨Nat.zero_le _, by omega⟩]
      rw [List.getElem?_append_left (by simp; omega)] at hv
      have hg : args[t]? = some args[t] := List.getElem?_eq_getElem ht
      obtain ⟨u, hu, hV⟩ := h.get t _ hg
      rw [hu] at hv
      cases hv
      rw [List.getD_eq_getElem?_getD, Nat.sub_zero, hg]
      exact hV
    · rw [if_neg (by omega), Env.at_none]
      rw [List.getElem?_append_right (by simp; omega), List.getElem?_replicate] at hv
      split at hv
      · cases hv; exact undef_V φ
      · cases hv
  · cases ha

section
variable {P : Program} {call : CallM} {plan : FuncId → Nat → Option Plan} {n N fid : Nat}

theorem resM_run {φ : List Emb} {h : Heap} {w0 w : World} (hR : R P φ h w0 w) {e : Env} {tmps : Array Value} (he : Vs φ (envL n e) tmps.toList) {r : ResultVar} {v : AV} (hv : resM P n e h r = some v) : ∃ u, (resultOf tmps r).run P w = .ok u w ∧ V φ v u := by
  have hnth : ∀ t, V φ ((tmpS n t).ev e) (tmps.getD t undef) := fun t => by
    rw [tmpS_ev]
    have := nth_V he t
    simpa [Array.getD_eq_getD_getElem?, List.getD_eq_getElem?_getD] using this
  cases r with
  | tmp t =>
    cases hv
    exact ⟨_, rfl, hnth t⟩
  | cell a t =>
    have hh := hnth a
    unfold resM at hv
    simp only at hv
    split at hv
    · rename_i l hl
      rw [hl] at hh
      obtain ⟨u, h5, h6⟩ := loadA_run hR hv hh
      simp only [V] at hh
      obtain ⟨em, _, hx⟩ := hh
      rw [hx] at h5
      simp only [Instr.loadAt, Instr.sureAddr, Sem.run_bind, Sem.run_pure, Result.andThen_ok] at h5
      refine ⟨u, ?_, h6⟩
      simp only [resultOf, Sem.run_bind, hx, asAddr, Sem.run_pure, Result.andThen_ok, h5]
    · cases hv
theorem resL_run {φ : List Emb} {h : Heap} {w0 w : World} (hR : R P φ h w0 w) {e : Env} {tmps : Array Value} (he : Vs φ (envL n e) tmps.toList) : ∀ {rs : List ResultVar} {vs : List AV}, resL P n e h rs = some vs → ∃ us, (rs.mapM (resultOf tmps)).run P w = .ok us w ∧ Vs φ vs us
  | [], vs, hv => by
    cases hv
    exact ⟨[], by simp, by simp [Vs]⟩
  | r :: rs, vs, hv => by
    have hv1 : (Option.rec (motive := fun _ => Option (List AV)) none (fun v => Option.rec (motive := fun _ => Option (List AV)) none (fun vs => some (v :: vs)) (resL P n e h rs)) (resM P n e h r)) = some vs := hv
    cases h1 : resM P n e h r with
    | none => rw [h1] at hv1; cases hv1
    | some v =>
      rw [h1] at hv1
      have hv2 : (Option.rec (motive := fun _ => Option (List AV)) none (fun vs => some (v :: vs)) (resL P n e h rs)) = some vs := hv1
      cases h2 : resL P n e h rs with
      | none => rw [h2] at hv2; cases hv2
      | some vs' =>
        rw [h2] at hv2
        cases hv2
        obtain ⟨u, h3, h4⟩ := resM_run hR he h1
        obtain ⟨us, h5, h6⟩ := resL_run hR he h2
        exact ⟨u :: us, by simp only [List.mapM_cons, Sem.run_bind, h3, h5, Result.andThen_ok, Sem.run_pure], by rw [Vs_cons]; exact ⟨h4, h6⟩⟩
theorem single1_eq (l : List AV) : single1 l = single l := by
  match l with
  | [] => rfl
  | [v] => rfl
  | v :: u :: l => rfl
theorem resL_results {φ : List Emb} {h : Heap} {w0 w : World} (hR : R P φ h w0 w) {fn : Func} {e : Env} {tmps : Array Value} (he : Vs φ (envL fn.ntmps e) tmps.toList) {vs : List AV} (hv : resL P fn.ntmps e h fn.results.toList = some vs) :
    ∃ u, (results fn tmps).run P w = .ok u w ∧ V φ (single1 vs) u := by
  obtain ⟨us, h1, h2⟩ := resL_run hR he hv
  have hm : (fn.results.mapM (resultOf tmps)).run P w = .ok us.toArray w := by
    rw [Array.mapM_eq_mapM_toList, Sem.run_map, h1]
    rfl
  refine ⟨if h : us.toArray.size = 1 then us.toArray[0] else .tuple us.toArray, ?_, ?_⟩
  · rw [results_eq, Sem.run_bind, hm]
    rfl
  · rw [single1_eq]
    match vs, us, h2 with
    | [], us, h2 => rw [Vs_nil] at h2; subst h2; simp [single, V, Vs]
    | [v], us, h2 =>
      simp only [Vs] at h2
      obtain ⟨y, ys, rfl, hy, rfl⟩ := h2
      simpa [single] using hy
    | v :: v2 :: vs, us, h2 =>
      have hl := h2.length
      have : ¬ us.toArray.size = 1 := by simp at hl ⊢; omega
      rw [dif_neg this]
      simp only [single, V]
      exact ⟨_, rfl, by simpa using h2⟩

/-! ### Deferred calls -/

/-- What is said of a deferred call, nobody panicking. -/
def DPost (P : Program) (f : FuncId) (args : List AV) (h : Heap) (L : List (AV × Heap)) : Prop :=
  ∀ φ w0 w (args' : Array Value), R P φ h w0 w → Vs φ args args'.toList → (callFunc f args').run P w = .ok (.enter f args') w ∧
    CallsDIn (wideR none) 0 P f args' .returning w fun e u' w' => u' = .returning ∧ LPost P φ w0 L e w'
structure DCallOk (P : Program) (d : CallM) : Prop where
  post : ∀ f args h L, d f args h = some L → DPost P f args h L
  grow : ∀ f args h L, d f args h = some L → ∀ p ∈ L, Grows h p.2

theorem endDs_mem {fn : Func} : ∀ {l : List Res} {L : List (AV × Heap)}, endDs P fn l = some L → (∀ r ∈ l, ∃ o e h vs, r = .mk o e h [] ∧ (o = .normal ∨ o = .ret) ∧ resL P fn.ntmps e h fn.results.toList = some vs ∧ (single1 vs, h) ∈ L) ∧ ∀ p ∈ L, ∃ o e ds, Res.mk o e p.2 ds ∈ l
  | [], L, h => by cases h; exact ⟨by simp, by simp⟩
  | r :: l, L, h => by
    obtain ⟨o, e, hh, ds⟩ := r
    have h1 : (Option.rec (motive := fun _ => LR) none (fun a => Option.rec (motive := fun _ => LR) none (fun b => some (appF a b)) (endDs P fn l)) (endD P fn (.mk o e hh ds))) = some L := h
    cases h2 : endD P fn (.mk o e hh ds) with
    | none => rw [h2] at h1; cases h1
    | some x =>
      rw [h2] at h1
      have h1' : (Option.rec (motive := fun _ => LR) none (fun b => some (appF x b)) (endDs P fn l)) = some L := h1
      cases h3 : endDs P fn l with
      | none => rw [h3] at h1'; cases h1'
      | some y =>
        rw [h3] at h1'
        have hL : L = x ++ y := by rw [← appF_eq]; exact (Option.some.inj h1').symm
        subst hL
        obtain ⟨g1, g2⟩ := endDs_mem h3
        have hx : ∃ vs, ds = [] ∧ (o = .normal ∨ o = .ret) ∧ resL P fn.ntmps e hh fn.results.toList = some vs ∧ x = [(single1 vs, hh)] := by
          cases ds with
          | cons d ds => cases h2
          | nil =>
            have h4 : (Bool.rec (motive := fun _ => LR) none (Option.rec (motive := fun _ => LR) none (fun vs => some [(single1 vs, hh)]) (resL P fn.ntmps e hh fn.results.toList)) (Out.rec (motive := fun _ => Bool) true (fun _ => false) true (fun _ => false) o)) = some x := h2
            have h5 : (o = .normal ∨ o = .ret) ∧ (Option.rec (motive := fun _ => LR) none (fun vs => some [(single1 vs, hh)]) (resL P fn.ntmps e hh fn.results.toList)) = some x := by
              cases o with
              | normal => exact ⟨.inl rfl, h4⟩
              | ret => exact ⟨.inr rfl, h4⟩
              | exit i => cases h4
              | pan v => cases h4
            obtain ⟨h6, h7⟩ := h5
            cases hv : resL P fn.ntmps e hh fn.results.toList with
            | none => rw [hv] at h7; cases h7
            | some vs => rw [hv] at h7; exact ⟨vs, rfl, h6, rfl, (Option.some.inj h7).symm⟩
        obtain ⟨vs, rfl, ho, hv, rfl⟩ := hx
        refine ⟨fun r hr => ?_, fun p hp => ?_⟩
        · rcases List.mem_cons.1 hr with rfl | hr
          · exact ⟨o, e, hh, vs, rfl, ho, hv, by simp⟩
          · obtain ⟨o', e', h', vs', h6, h7, h8, h9⟩ := g1 r hr
            exact ⟨o', e', h', vs', h6, h7, h8, List.mem_append.2 (.inr h9)⟩
        · rcases List.mem_append.1 hp with hp | hp
          · rw [List.mem_singleton] at hp
            subst hp
            exact ⟨o, e, [], by simp⟩
          · obtain ⟨o', e', ds', h6⟩ := g2 p hp
            exact ⟨o', e', ds', List.mem_cons_of_mem _ h6⟩

theorem dcallM_inv {f : FuncId} {args : List AV} {h : Heap} {L : List (AV × Heap)} (hd : dcallM P (drawX P plan) call N f args h = some L) :
    ∃ fn c l, P.funcs[f]? = some fn ∧ fn.body = some c ∧ fits fn args = true ∧ exM P (drawX P plan) call false f fn.ntmps N c leaf (frameM args) h [] = some l ∧ endDs P fn l = some L := by
  unfold dcallM at hd
  cases hf : P.funcs[f]? with
  | none => rw [hf] at hd; cases hd
  | some fn =>
    rw [hf] at hd
    have hd1 : (Option.rec (motive := fun _ => LR) none (fun c => dbodyM P (drawX P plan) call N f fn c args h) fn.body) = some L := hd
    cases hb : fn.body with
    | none => rw [hb] at hd1; cases hd1
    | some c =>
      rw [hb] at hd1
      have hd2 : (Bool.rec (motive := fun _ => LR) none (Option.rec (motive := fun _ => LR) none (fun l => endDs P fn l) (exM P (drawX P plan) call false f fn.ntmps N c leaf (frameM args) h [])) (fits fn args)) = some L := hd1
      cases hfit : fits fn args with
      | false => rw [hfit] at hd2; cases hd2
      | true =>
        rw [hfit] at hd2
        have hd3 : (Option.rec (motive := fun _ => LR) none (fun l => endDs P fn l) (exM P (drawX P plan) call false f fn.ntmps N c leaf (frameM args) h [])) = some L := hd2
        cases hx : exM P (drawX P plan) call false f fn.ntmps N c leaf (frameM args) h [] with
        | none => rw [hx] at hd3; cases hd3
        | some l =>
          rw [hx] at hd3
          exact ⟨fn, c, l, rfl, hb, hfit, hx, hd3⟩
theorem dcallM_ok (hF : Fns P) (hm : P.follows .mixedOrders = true) (hcall : CallMOk P call) : DCallOk P (dcallM P (drawX P plan) call N) where
  post := fun f args h L hd => by
    obtain ⟨fn, c, l, hf, hb, hfit, hx, he⟩ := dcallM_inv hd
    obtain ⟨hn, hl⟩ := fits_some hfit
    obtain ⟨g1, _⟩ := endDs_mem he
    intro φ w0 w args' hR hv
    refine ⟨callFunc_run hF hf hb _ _, ?_⟩
    have hwp := exM_wp (plan := plan) (fid := f) (N := N) hF hm hcall hn (inR := false) (ρ := none) (fun _ => rfl) (L := l) (w0 := w0) c leaf (bodyPost P fn (LPost P φ w0 L)) φ (frameM args) h [] l w
      { tmps := args' ++ Array.replicate (fn.ntmps - args'.size) undef, defers := [] } hx (fun _ hr => hr) hR (frame_V hn hl hv) rfl fun o => leaf_SX fun e h' ds hmem φ' w' a hu hR' he' hd' => by
        obtain ⟨o1, e1, h1, vs, h2, h3, h4, h5⟩ := g1 _ hmem
        cases h2
        have hdf : a.defers = [] := hd'
        obtain ⟨u, h6, h7⟩ := resL_results hR' he' h4
        have post : LPost P φ w0 L (.returned u) w' := ⟨_, h5, φ', u, rfl, hu, hR', h7⟩
        rcases h3 with rfl | rfl
        · exact ⟨hdf, u, h6, post⟩
        · exact ⟨hdf, u, h6, post⟩
    exact callsDIn_of_wp (F := wideR none) (n := 0) (u := .returning) hf hb trivial hwp
  grow := fun f args h L hd => by
    obtain ⟨fn, c, l, hf, hb, hfit, hx, he⟩ := dcallM_inv hd
    obtain ⟨hn, _⟩ := fits_some hfit
    obtain ⟨_, g2⟩ := endDs_mem he
    intro p hp
    obtain ⟨o, e, ds, h1⟩ := g2 p hp
    exact leaf_from (exM_from hcall hn c leaf _ _ _ _ hx) _ _ _ _ h1

theorem runDs_cons_call {dov dcall : CallM} {f : FuncId} {args : List AV} {ds : List DVM} {h : Heap} {hs : List Heap} (hr : runDs dov dcall (.call f args :: ds) h = some hs) :
    ∃ p, (dov f args h = some [p] ∨ dcall f args h = some [p]) ∧ runDs dov dcall ds p.2 = some hs := by
  have h1 : (Option.rec (motive := fun _ => LH) none (fun l => List.rec (motive := fun _ => LH) none (fun p ps _ => List.rec (motive := fun _ => LH) (Prod.rec (motive := fun _ => LH) (fun _ h' => runDs dov dcall ds h') p) (fun _ _ _ => none) ps) l) (Option.rec (motive := fun _ => Option (List (AV × Heap))) (dcall f args h) some (dov f args h))) = some hs := hr
  have key : ∀ l0 : Option (List (AV × Heap)), (Option.rec (motive := fun _ => LH) none (fun l => List.rec (motive := fun _ => LH) none (fun p ps _ => List.rec (motive := fun _ => LH) (Prod.rec (motive := fun _ => LH) (fun _ h' => runDs dov dcall ds h') p) (fun _ _ _ => none) ps) l) l0) = some hs → ∃ p, l0 = some [p] ∧ runDs dov dcall ds p.2 = some hs := by
    intro l0 hl
    match l0, hl with
    | none, hl => cases hl
    | some [], hl => cases hl
    | some [p], hl => exact ⟨p, rfl, hl⟩
    | some (p :: q :: ps), hl => cases hl
  obtain ⟨p, h2, h3⟩ := key _ h1
  refine ⟨p, ?_, h3⟩
  cases hd : dov f args h with
  | none => rw [hd] at h2; exact .inr h2
  | some l => rw [hd] at h2; exact .inl h2
theorem runDs_cons_mark {dov dcall : CallM} {k : Nat} {ds : List DVM} {h : Heap} {hs : List Heap} (hr : runDs dov dcall (.mark k :: ds) h = some hs) : h.get k = some .defs ∧ runDs dov dcall ds (h.del k) = some hs := by
  have h1 : (match h.get k with | some .defs => runDs dov dcall ds (h.del k) | _ => none) = some hs := hr
  split at h1
  · rename_i hg; exact ⟨hg, h1⟩
  · cases h1
theorem runDs_grows {dov dcall : CallM} (hdo : DCallOk P dov) (hdc : DCallOk P dcall) : ∀ {ds : List DVM} {h : Heap} {hs : List Heap}, runDs dov dcall ds h = some hs → ∃ h', hs = [h'] ∧ Grows h h'
  | [], h, hs, hr => by cases hr; exact ⟨h, rfl, Grows.refl _⟩
  | .call f args :: ds, h, hs, hr => by
    obtain ⟨p, h1, h2⟩ := runDs_cons_call hr
    obtain ⟨h', h3, h4⟩ := runDs_grows hdo hdc h2
    refine ⟨h', h3, Grows.trans ?_ h4⟩
    rcases h1 with h1 | h1
    · exact hdo.grow _ _ _ _ h1 p (List.mem_singleton.2 rfl)
    · exact hdc.grow _ _ _ _ h1 p (List.mem_singleton.2 rfl)
  | .mark k :: ds, h, hs, hr => by
    obtain ⟨_, h2⟩ := runDs_cons_mark hr
    obtain ⟨h', h3, h4⟩ := runDs_grows hdo hdc h2
    exact ⟨h', h3, (Grows.del _ _).trans h4⟩

/-- A frame on its way out. -/
theorem leaves_run {dov dcall : CallM} (hdo : DCallOk P dov) (hdc : DCallOk P dcall) {fn : Func} {tmps : Array Value} {Rp : Ending → World → Prop} {w0 : World} {h' : Heap} : ∀ {ds : List DVM} {h : Heap} {φ : List Emb} {w : World} {dl : List Deferred}, runDs dov dcall ds h = some [h'] → R P φ h w0 w → DS φ ds dl →
    (∀ φ' w', Up φ φ' → R P φ' h' w0 w' → ∃ v, (results fn tmps).run P w' = .ok v w' ∧ Rp (.returned v) w') → LeavesInM (wideR none) 0 P fn tmps Rp dl .returning w
  | [], h, φ, w, dl, hr, hR, hd, hK => by
    cases hr
    have : dl = [] := hd
    subst this
    exact hK φ w (Up.refl _) hR
  | .call f args :: ds, h, φ, w, dl, hr, hR, hd, hK => by
    obtain ⟨p, h1, h2⟩ := runDs_cons_call hr
    obtain ⟨as, cap, xs, rfl, h3, h4⟩ := hd
    have hp : DPost P f args h [p] := by
      rcases h1 with h1 | h1
      · exact hdo.post _ _ _ _ h1
      · exact hdc.post _ _ _ _ h1
    obtain ⟨h5, h6⟩ := hp φ w0 w (as ++ cap) hR h3
    refine ⟨by simp, .inr ⟨fun h0 => (by cases h0), .func f, cap, f, as ++ cap, rfl, by simpa only [invoke] using h5, fun _ _ => trivial, h6.mono ?_⟩⟩
    rintro e u' w' ⟨rfl, q, hq, φ', v', rfl, hu, hR', hv'⟩
    rw [List.mem_singleton] at hq
    subst hq
    exact leaves_run hdo hdc h2 hR' (h4.up hu) (fun φ'' w'' hu' => hK φ'' w'' (hu.trans hu'))
  | .mark k :: ds, h, φ, w, dl, hr, hR, hd, hK => by
    obtain ⟨hg, h2⟩ := runDs_cons_mark hr
    obtain ⟨e, xs, hk, rfl, h4⟩ := hd
    obtain ⟨e', he', ho, _⟩ := hR.objs k _ hg
    rw [hk] at he'; cases he'
    have ho : w.heap[e.blk]? = some (.deferred (some [])) := ho
    refine ⟨by simp, .inl ⟨e.blk, _, rfl, run_takeDeferred ho, ?_⟩⟩
    have hR' : R P φ (h.del k) w0 (w.putObj e.blk (.deferred none)) := R.forget hR hg rfl hk (fun k hk => putObj_other hk) (by simp) rfl rfl rfl
    exact leaves_run hdo hdc h2 hR' h4 hK

/-! ### Merging -/

theorem mrgAll_run {h : Heap} {v : AV} : ∀ {l : List (AV × Heap)} {a A : Heap}, mrgAll h v l a = some A → Like h.next a A ∧ ∀ p ∈ l, ∃ b s, Like h.next a b ∧ mrg h.next [v] (relog h b) [p.1] (relog h p.2) = some s ∧ Less (tidy h.next s b) A
  | [], a, A, hm => by cases hm; exact ⟨Like.refl _ _, by simp⟩
  | (v2, h2) :: l, a, A, hm => by
    have h1 : (Option.rec (motive := fun _ => Option Heap) none (fun s => mrgAll h v l (tidy h.next s a)) (mrg h.next [v] (relog h a) [v2] (relog h h2))) = some A := hm
    cases hs : mrg h.next [v] (relog h a) [v2] (relog h h2) with
    | none => rw [hs] at h1; cases h1
    | some s =>
      rw [hs] at h1
      obtain ⟨g1, g2⟩ := mrgAll_run (l := l) h1
      refine ⟨(Like.tidy _ s a).trans g1, fun p hp => ?_⟩
      rcases List.mem_cons.1 hp with rfl | hp
      · exact ⟨a, s, Like.refl _ _, hs, g1.1⟩
      · obtain ⟨b, s', h3, h4, h5⟩ := g2 p hp
        exact ⟨b, s', (Like.tidy _ s a).trans h3, h4, h5⟩
theorem mergeL_run {h : Heap} {L : List (AV × Heap)} (hg : ∀ p ∈ L, Grows h p.2) : (∀ p ∈ mergeL h L, Grows h p.2) ∧ ∀ φ w0 w, R P φ h w0 w → ∀ e w', LPost P φ w0 L e w' → LPost P φ w0 (mergeL h L) e w' := by
  match L, hg with
  | [], _ => exact ⟨by simp [mergeL], fun φ w0 w _ e w' hp => hp⟩
  | [p], hg => exact ⟨hg, fun φ w0 w _ e w' hp => hp⟩
  | (v, h1) :: q :: ps, hg =>
    have hdef : mergeL h ((v, h1) :: q :: ps) = Option.rec (motive := fun _ => List (AV × Heap)) ((v, h1) :: q :: ps) (fun a => [(v, a)]) (mrgAll h v (q :: ps) h1) := rfl
    rw [hdef]
    cases hm : mrgAll h v (q :: ps) h1 with
    | none => exact ⟨hg, fun φ w0 w _ e w' hp => hp⟩
    | some A =>
      obtain ⟨f1, f2⟩ := mrgAll_run hm
      have hg1 := hg _ List.mem_cons_self
      refine ⟨fun p hp => ?_, fun φ w0 w hR e w' hp => ?_⟩
      · have hp : p ∈ [(v, A)] := hp
        rw [List.mem_singleton] at hp
        subst hp
        exact f1.grows hg1
      · show LPost P φ w0 [(v, A)] e w'
        obtain ⟨p, hpL, φ2, v', rfl, hu, hR2, hv⟩ := hp
        rcases List.mem_cons.1 hpL with rfl | hpl
        · exact ⟨_, List.mem_singleton.2 rfl, φ2, v', rfl, hu, hR2.less f1.1, hv⟩
        · obtain ⟨b, s, hlb, hms, hless⟩ := f2 p hpl
          have hgb := hlb.grows hg1
          have hg2 := hg p hpL
          have hR2' : R P φ2 (relog h p.2) w0 w' := hR2.relog rfl (fun _ => rfl)
          obtain ⟨φ1, hu1, hR1, hv1⟩ := merge_run hms hR hu hR2' (relog_logged hgb) (relog_logged hg2) (show Wfh (relog h b) from hgb.2.2.1 hR.wfh)
          have hR1' : R P φ1 (tidy h.next s b) w0 w' := hR1.relog (by rw [tidy_next, tidy_next]; rfl) (fun i => (tidy_relog i).symm)
          have hvs := hv1 [v'] (by rw [Vs_cons]; exact ⟨hv, by simp [Vs]⟩)
          rw [Vs_cons] at hvs
          exact ⟨_, List.mem_singleton.2 rfl, φ1, v', rfl, hu1, hR1'.less hless, hvs.1⟩
end
end Go.Am
