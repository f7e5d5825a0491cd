/- Functions without a body: the marks of internal/race, and sync/atomic's words. -/
import Derived.Test.YtnllflgijnloiaaAmWp
import Derived.Laws.LoneSync
namespace Go.Am
open Go.RowKit

inductive NK where
  | mark0
  | marked
  | load (k : IntKind)
  | store
  | cas (k : IntKind)
  | add (k : IntKind)

def readI (h : Heap) (l : Loc) (k : IntKind) : Option Int :=
  match readA h l 1 with
  | some [.int k' n] => if k' = k then some n else none
  | _ => none
theorem readI_some {h : Heap} {l : Loc} {k : IntKind} {n : Int} (hr : readI h l k = some n) : readA h l 1 = some [.int k n] := by
  unfold readI at hr
  split at hr
  · rename_i k' m hx
    split at hr
    · rename_i hk; cases hr; rw [hx, hk]
    · cases hr
  · cases hr

def natA (h : Heap) (k : NK) (args : List AV) : Option CRes :=
  match k, args with
  | .mark0, [] => some (.ret (.tuple []) h)
  | .marked, [.ptr (some _)] => some (.ret (.tuple []) h)
  | .load k, [.ptr (some l)] => (match readI h l k with | some n => some (.ret (.int k n) h) | none => none)
  | .store, [.ptr (some l), .int k n] => (match readA h l 1, writeA h l [.int k n] with | some _, some h' => some (.ret (.tuple []) h') | _, _ => none)
  | .cas k, [.ptr (some l), .int k1 old, .int k2 new] => if k1 = k ∧ k2 = k then
      (match readI h l k, writeA h l [.int k new] with
      | some n, some h' => if n = old then some (.ret (.bool true) h') else some (.ret (.bool false) h)
      | _, _ => none) else none
  | .add k, [.ptr (some l), .int k2 y] => if k2 = k then
      (match readI h l k with
      | some n => (match writeA h l [.int k (k.wrap (n + y))] with | some h' => some (.ret (.int k (k.wrap (n + y))) h') | none => none)
      | none => none) else none
  | _, _ => none

def NatOk (P : Program) (f : FuncId) (k : NK) : Prop :=
  ∃ fn, P.funcs[f]? = some fn ∧ (fn.name == "runtime.NumGoroutine") = false ∧ fn.body.isNone = true ∧ Extern.findNext fn = none ∧
    (match k with
    | .mark0 => ∃ m, Extern.find fn = some (fun _ => do mark m; pure Extern.Race.none_)
    | .marked => ∃ m, Extern.find fn = some (Extern.Race.marked m)
    | .load k => Extern.find fn = some (Extern.Atomic.loadT (.int k))
    | .store => Extern.find fn = some Extern.Atomic.storeT
    | .cas k => Extern.find fn = some (Extern.Atomic.casT (.int k))
    | .add k => Extern.find fn = some (Extern.Atomic.update (Op.intArith .add) k true))

section
variable {P : Program} {φ : List Emb} {h : Heap} {w0 w : World}

theorem readA_one (hR : R P φ h w0 w) {l : Loc} {k : IntKind} {n : Int} (hr : readA h l 1 = some [.int k n]) : ∃ e, φ[l.id]? = some e ∧ w.cell? ⟨e.blk, e.off + l.off, none⟩ = some (.int k n) := by
  obtain ⟨e, vs, he, hv, hl, hc⟩ := read_cells hR hr
  refine ⟨e, he, ?_⟩
  match vs, hl, hv with
  | [v], _, hv =>
    rw [Vs_cons] at hv
    have h0 := hc 0 v rfl
    have h1 : v = .int k n := by simpa [V] using hv.1
    rw [h1] at h0
    simpa [Addr.add_lit] using h0
theorem writeA_one (hR : R P φ h w0 w) {l : Loc} {v : AV} {h' : Heap} (hw : writeA h l [v] = some h') {v' : Value} (hv : V φ v v') : ∃ e, φ[l.id]? = some e ∧ (w.cell? ⟨e.blk, e.off + l.off, none⟩).isSome = true ∧ w.frozen? ⟨e.blk, e.off + l.off, none⟩ = false ∧ R P φ h' w0 (w.setCell ⟨e.blk, e.off + l.off, none⟩ v') := by
  obtain ⟨e, w', he, _, hR', rfl, h1, h2, _⟩ := write_run (vs := [v']) hR hw (by rw [Vs_cons]; exact ⟨hv, by simp [Vs]⟩)
  refine ⟨e, he, by simpa using h1 0 (by simp), by simpa using h2 0 (by simp), ?_⟩
  simpa [World.setCells] using hR'

theorem natA_ok {f : FuncId} {k : NK} (hk : NatOk P f k) {args : List AV} {r : CRes} (hr : natA h k args = some r) : CallOk P f args h r := by
  obtain ⟨fn, hf, hname, hb, hn, he⟩ := hk
  intro φ w0 w args' hR hV
  right
  unfold natA at hr
  split at hr
  · cases hr
    obtain ⟨m, he⟩ := he
    have ha : args' = #[] := by rw [Vs_nil] at hV; exact Array.ext' (by simpa using hV)
    subst ha
    exact ⟨_, _, run_call_mark0 hf hname hb hn m he w, φ, _, rfl, Up.refl _, hR, undef_V φ⟩
  · cases hr
    obtain ⟨m, he⟩ := he
    simp only [Vs] at hV
    obtain ⟨y, ys, h1, h2, rfl⟩ := hV
    simp only [V] at h2
    obtain ⟨e, _, rfl⟩ := h2
    have ha : args' = #[Value.pointer (some ⟨e.blk, _, none⟩)] := Array.ext' (by simpa using h1)
    subst ha
    exact ⟨_, _, run_call_marked hf hname hb hn m he _ w, φ, _, rfl, Up.refl _, hR, undef_V φ⟩
  · rename_i k l
    split at hr
    · rename_i n hx
      cases hr
      simp only [Vs] at hV
      obtain ⟨y, ys, h1, h2, rfl⟩ := hV
      simp only [V] at h2
      obtain ⟨e, hel, rfl⟩ := h2
      have ha : args' = #[Value.pointer (some ⟨e.blk, e.off + l.off, none⟩)] := Array.ext' (by simpa using h1)
      subst ha
      obtain ⟨e', he', hc⟩ := readA_one hR (readI_some hx)
      rw [hel] at he'; cases he'
      exact ⟨_, _, run_call_load hf hname hb hn k he hc, φ, _, rfl, Up.refl _, hR, by simp [V]⟩
    · cases hr
  · rename_i l k n
    split at hr
    · rename_i x h' hx hw
      cases hr
      simp only [Vs] at hV
      obtain ⟨y, ys, h1, h2, y2, ys2, rfl, h3, rfl⟩ := hV
      simp only [V] at h2 h3
      obtain ⟨e, hel, rfl⟩ := h2
      subst h3
      have ha : args' = #[Value.pointer (some ⟨e.blk, e.off + l.off, none⟩), .int k n] := Array.ext' (by simpa using h1)
      subst ha
      obtain ⟨e', he', hc, hz, hR'⟩ := writeA_one hR hw (v' := .int k n) (by simp [V])
      rw [hel] at he'; cases he'
      obtain ⟨u, hu⟩ := Option.isSome_iff_exists.1 hc
      exact ⟨_, _, run_call_store hf hname hb hn he hu hz, φ, _, rfl, Up.refl _, hR', undef_V φ⟩
    · cases hr
  · rename_i k l k1 old k2 new
    split at hr
    · rename_i hkk
      obtain ⟨rfl, rfl⟩ := hkk
      split at hr
      · rename_i n h' hx hw
        simp only [Vs] at hV
        obtain ⟨y, ys, h1, h2, y2, ys2, rfl, h3, y4, ys4, rfl, h5, rfl⟩ := hV
        simp only [V] at h2 h3 h5
        obtain ⟨e, hel, rfl⟩ := h2
        subst h3 h5
        have ha : args' = #[Value.pointer (some ⟨e.blk, e.off + l.off, none⟩), .int k2 old, .int k2 new] := Array.ext' (by simpa using h1)
        subst ha
        obtain ⟨e', he', hc, hz, hR'⟩ := writeA_one hR hw (v' := .int k2 new) (by simp [V])
        rw [hel] at he'; cases he'
        obtain ⟨e', he', hc2⟩ := readA_one hR (readI_some hx)
        rw [hel] at he'; cases he'
        split at hr
        · rename_i hno
          subst hno
          cases hr
          exact ⟨_, _, run_call_cas_hit hf hname hb hn _ he hc2 hz, φ, _, rfl, Up.refl _, hR', by simp [V]⟩
        · rename_i hno
          cases hr
          exact ⟨_, _, run_call_cas_miss hf hname hb hn _ he hc2 hz hno, φ, _, rfl, Up.refl _, hR, by simp [V]⟩
      · cases hr
    · cases hr
  · rename_i k l k2 y
    split at hr
    · rename_i hkk
      subst hkk
      split at hr
      · rename_i n hx
        split at hr
        · rename_i h' hw
          cases hr
          simp only [Vs] at hV
          obtain ⟨y1, ys, h1, h2, y2, ys2, rfl, h3, rfl⟩ := hV
          simp only [V] at h2 h3
          obtain ⟨e, hel, rfl⟩ := h2
          subst h3
          have ha : args' = #[Value.pointer (some ⟨e.blk, e.off + l.off, none⟩), .int k2 y] := Array.ext' (by simpa using h1)
          subst ha
          obtain ⟨e', he', hc, hz, hR'⟩ := writeA_one hR hw (v' := .int k2 (k2.wrap (n + y))) (by simp [V])
          rw [hel] at he'; cases he'
          obtain ⟨e', he', hc2⟩ := readA_one hR (readI_some hx)
          rw [hel] at he'; cases he'
          exact ⟨_, _, run_call_add hf hname hb hn _ he hc2 hz (by rfl), φ, _, rfl, Up.refl _, hR', by simp [V]⟩
        · cases hr
      · cases hr
    · cases hr
  · cases hr

def natOf : List (FuncId × NK) → FuncId → Option NK
  | [], _ => none
  | (g, k) :: r, f => bif Nat.beq f g then some k else natOf r f
def natCall (ns : List (FuncId × NK)) : CallF := fun f args h => match natOf ns f with | some k => natA h k args | none => none
def NatsOk (P : Program) (ns : List (FuncId × NK)) : Prop := ∀ x ∈ ns, NatOk P x.1 x.2
theorem natOf_mem {f : FuncId} {k : NK} : ∀ {ns : List (FuncId × NK)}, natOf ns f = some k → (f, k) ∈ ns
  | [], h => by simp [natOf] at h
  | (g, k') :: r, h => by
    simp only [natOf] at h
    cases hb : Nat.beq f g with
    | true => simp only [hb, cond_true, Option.some.injEq] at h; have := Nat.eq_of_beq_eq_true hb; subst this; subst h; exact List.mem_cons_self
    | false => simp only [hb, cond_false] at h; exact List.mem_cons_of_mem _ (natOf_mem h)
theorem natCall_ok {ns : List (FuncId × NK)} (hn : NatsOk P ns) : CallsOk P (natCall ns) := by
  intro f args h r hr
  unfold natCall at hr
  split at hr
  · rename_i k hk; exact natA_ok (hn _ (natOf_mem hk)) hr
  · cases hr

/-- One that knows, else another. -/
def orCall (c d : CallF) : CallF := fun f a h => match c f a h with | some r => some r | none => d f a h
theorem orCall_ok {c d : CallF} (hc : CallsOk P c) (hd : CallsOk P d) : CallsOk P (orCall c d) := by
  intro f a h r hr
  unfold orCall at hr
  split at hr
  · rename_i r' hx; cases hr; exact hc f a h _ hx
  · exact hd f a h r hr
end
section
variable {P : Program} {f : FuncId} {fn : Func}
theorem natMark0 (m : Mark) (hf : P.funcs[f]? = some fn) (h1 : (fn.name == "runtime.NumGoroutine") = false) (h2 : fn.body.isNone = true) (h3 : Extern.findNext fn = none) (h4 : Extern.find fn = some (fun _ => do mark m; pure Extern.Race.none_)) : NatOk P f .mark0 := ⟨fn, hf, h1, h2, h3, m, h4⟩
theorem natMarked (m : Addr → Mark) (hf : P.funcs[f]? = some fn) (h1 : (fn.name == "runtime.NumGoroutine") = false) (h2 : fn.body.isNone = true) (h3 : Extern.findNext fn = none) (h4 : Extern.find fn = some (Extern.Race.marked m)) : NatOk P f .marked := ⟨fn, hf, h1, h2, h3, m, h4⟩
theorem natLoad {k : IntKind} (hf : P.funcs[f]? = some fn) (h1 : (fn.name == "runtime.NumGoroutine") = false) (h2 : fn.body.isNone = true) (h3 : Extern.findNext fn = none) (h4 : Extern.find fn = some (Extern.Atomic.loadT (.int k))) : NatOk P f (.load k) := ⟨fn, hf, h1, h2, h3, h4⟩
theorem natStore (hf : P.funcs[f]? = some fn) (h1 : (fn.name == "runtime.NumGoroutine") = false) (h2 : fn.body.isNone = true) (h3 : Extern.findNext fn = none) (h4 : Extern.find fn = some Extern.Atomic.storeT) : NatOk P f .store := ⟨fn, hf, h1, h2, h3, h4⟩
theorem natCas {k : IntKind} (hf : P.funcs[f]? = some fn) (h1 : (fn.name == "runtime.NumGoroutine") = false) (h2 : fn.body.isNone = true) (h3 : Extern.findNext fn = none) (h4 : Extern.find fn = some (Extern.Atomic.casT (.int k))) : NatOk P f (.cas k) := ⟨fn, hf, h1, h2, h3, h4⟩
theorem natAdd {k : IntKind} (hf : P.funcs[f]? = some fn) (h1 : (fn.name == "runtime.NumGoroutine") = false) (h2 : fn.body.isNone = true) (h3 : Extern.findNext fn = none) (h4 : Extern.find fn = some (Extern.Atomic.update (Op.intArith .add) k true)) : NatOk P f (.add k) := ⟨fn, hf, h1, h2, h3, h4⟩
end
end Go.Am
