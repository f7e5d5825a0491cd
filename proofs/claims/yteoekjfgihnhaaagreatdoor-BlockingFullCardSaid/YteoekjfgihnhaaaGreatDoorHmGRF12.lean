/- Parts of the proof by the abstract machine: Misc, Op, Op2, Exec. -/
import Derived.Test.YteoekjfgihnhaaaGreatDoorHmGRF10
import Derived.Test.YteoekjfgihnhaaaGreatDoorHmGRF11
import Derived.Test.YteoekjfgihnhaaaGreatDoorHmGRF6
import Derived.Test.YteoekjfgihnhaaaGreatDoorHmGRF9
import Derived.Lib.UnsafeStr
import Derived.Lib.Builder
import Derived.Lib.AppendZeros
import Derived.RangeFuncRecord
set_option linter.all false
noncomputable section
namespace Go.Am
open Go.RowKit

def capA (P : Program) (t : TypeId) (x : AV) : Option AV :=
  match P.underlying t, x with
  | some (.slice _), .slice none _ _ => some (.int .i64 0)
  | some (.slice _), .slice (some _) _ (.exact c) => some (.int .i64 c)
  | _, _ => none
theorem capA_run {P : Program} {φ : List Emb} {w : World} {t : TypeId} {x r : AV} (h : capA P t x = some r) {x' : Value} (hx : V φ x x') (ts : List TypeId) (ty : TypeId) : ∃ r', (Builtin.cap_ ⟨t :: ts⟩ ty #[x']).run P w = .ok r' w ∧ V φ r r' := by
  unfold capA at h
  split at h
  · rename_i e n c hu
    cases h
    simp only [V] at hx
    obtain ⟨_, rfl, _⟩ := hx
    exact ⟨.int .i64 0, by simp [Builtin.cap_, run_underlying hu, goInt], by simp [V]⟩
  · rename_i e l n c hu
    cases h
    simp only [V, CapOk] at hx
    obtain ⟨_, cap, a, _, rfl, _, rfl, _⟩ := hx
    exact ⟨.int .i64 cap, by simp [Builtin.cap_, run_underlying hu, goInt], by simp [V]⟩
  · cases h

def clearA (P : Program) (t : TypeId) (x : AV) : Option AV :=
  match P.underlying t, x with
  | some _, .slice _ 0 _ => some (.tuple [])
  | _, _ => none
theorem clearA_run {P : Program} {φ : List Emb} {w : World} {t : TypeId} {x r : AV} (h : clearA P t x = some r) {x' : Value} (hx : V φ x x') (ts : List TypeId) (ty : TypeId) : ∃ r', (Builtin.clear_ ⟨t :: ts⟩ ty #[x']).run P w = .ok r' w ∧ V φ r r' := by
  unfold clearA at h
  split at h
  · rename_i d l c hu
    cases h
    refine ⟨.tuple #[], ?_, by simp only [V]; exact ⟨#[], rfl, by simp [Vs]⟩⟩
    have hx2 : ∃ a k, x' = .slice a 0 k := by
      cases l with
      | none => simp only [V] at hx; obtain ⟨_, rfl, _⟩ := hx; exact ⟨_, _, rfl⟩
      | some l => simp only [V] at hx; obtain ⟨_, cap, a, _, rfl, _⟩ := hx; exact ⟨_, _, rfl⟩
    obtain ⟨a, k, rfl⟩ := hx2
    unfold Builtin.clear_
    cases a <;> simp [run_underlying hu]
  · cases h

def dataA (x : AV) : Option AV :=
  match x with
  | .slice none _ _ => some (.ptr none)
  | .slice (some l) (_ + 1) _ => some (.ptr (some l))
  | _ => none
theorem dataA_run {P : Program} {φ : List Emb} {w : World} {x r : AV} (h : dataA x = some r) {x' : Value} (hx : V φ x x') (ts : Array TypeId) (ty : TypeId) : ∃ r', (Builtin.unsafeSliceData_ ts ty #[x']).run P w = .ok r' w ∧ V φ r r' := by
  unfold dataA at h
  split at h
  · cases h
    simp only [V] at hx
    obtain ⟨_, rfl, _⟩ := hx
    exact ⟨.pointer none, Lib.run_unsafeSliceData_nil w ts ty 0 0, by simp [V]⟩
  · rename_i l n c
    cases h
    simp only [V] at hx
    obtain ⟨e, cap, a, he, rfl, hle, _, ha⟩ := hx
    have ha : a = ⟨e.blk, e.off + l.off, none⟩ := ha.resolve_right (by simp)
    subst ha
    exact ⟨_, Lib.run_unsafeSliceData_row w ts ty _ _ cap (by omega), by simp only [V]; exact ⟨e, he, rfl⟩⟩
  · cases h

theorem liesAt_bytes_at {P : Program} {e : TypeId} (hc : P.cellsOf e = 1) (count off n : Nat) (hn : off + n ≤ count) : liesAt P P.depth e count off e n = true := by
  have hd : P.depth = (2 * (P.types.size + Made.depth) + 1) + 1 := rfl
  rw [hd]
  simp only [liesAt, Bool.or_eq_true]
  left
  rw [hd]
  simp [rowAt, hc, hn, sameLayout, Nat.mod_one]

theorem loadBytes_X {P : Program} (w : World) : ∀ (xs : List Int) (a : Addr) (acc : ByteArray), (∀ j x, xs[j]? = some x → w.cell? (a.add j) = some (.int .u8 x)) →
    (loadBytes a acc xs.length).run P w = .ok ⟨acc.data ++ (xs.map fun x => x.toNat.toUInt8).toArray⟩ w
  | [], a, acc, _ => by simp [loadBytes]
  | x :: l, a, acc, h => by
    have h0 : w.cell? a = some (.int .u8 x) := by
      have := h 0 x rfl
      simpa [Addr.add] using this
    have ih := loadBytes_X (P := P) w l (a.add 1) (acc.push x.toNat.toUInt8) (fun j y hy => by
      have := h (j + 1) y (by simpa using hy)
      have e : (a.add 1).add j = a.add (j + 1) := by
        unfold Addr.add
        by_cases hj : j = 0
        · subst hj; simp
        · simp [hj]; omega
      rw [e]; exact this)
    simp only [List.length_cons, loadBytes, Sem.run_bind, run_load, h0, Result.andThen]
    rw [ih]
    congr 1
    apply ByteArray.ext
    simp [ByteArray.push]

def ustr1A (P : Program) (h : Heap) (pt : TypeId) (x n : AV) : Option (AV × Heap) :=
  match x, n, P.underlying pt with
  | .ptr (some l), .int .i64 (.ofNat (m + 1)), some (.pointer e) =>
    (match h.get l.id with
    | some (.cells cs (.own (some t))) => bif Nat.beq t e && Nat.beq (P.cellsOf e) 1 && Nat.ble (l.off + (m + 1)) cs.length && Nat.ble (m + 1) 9223372036854775807 then
        (match unbytes ((cs.drop l.off).take (m + 1)) with
        | some ns => some (.str (ns.map fun n => n.toNat.toUInt8), h.set l.id (.cells cs .ro))
        | none => none) else none
    | _ => none)
  | _, _, _ => none
theorem ustr1A_run {P : Program} {φ : List Emb} {h h' : Heap} {w0 w : World} (hR : R P φ h w0 w) {pt : TypeId} {x n r : AV} (hu : ustr1A P h pt x n = some (r, h')) {x' n' : Value} (hx : V φ x x') (hn : V φ n n') (it ty : TypeId) :
    ∃ r' w', (Builtin.unsafeString_ #[pt, it] ty #[x', n']).run P w = .ok r' w' ∧ R P φ h' w0 w' ∧ V φ r r' := by
  unfold ustr1A at hu
  split at hu
  · rename_i l m e hpt
    split at hu
    · rename_i cs t hg
      cases hb : (Nat.beq t e && Nat.beq (P.cellsOf e) 1 && Nat.ble (l.off + (m + 1)) cs.length && Nat.ble (m + 1) 9223372036854775807) with
      | false => rw [hb] at hu; cases hu
      | true =>
        rw [hb, cond_true] at hu
        simp only [Bool.and_eq_true] at hb
        obtain ⟨⟨⟨b1, b2⟩, b3⟩, b4⟩ := hb
        have b1 := Nat.eq_of_beq_eq_true b1
        have b2 := Nat.eq_of_beq_eq_true b2
        have b3 := Nat.le_of_ble_eq_true b3
        have b4 := Nat.le_of_ble_eq_true b4
        subst b1
        split at hu
        · rename_i ns hns
          cases hu
          simp only [V] at hx hn
          obtain ⟨em, hem, rfl⟩ := hx
          subst hn
          have hrd : readA h l (m + 1) = some ((cs.drop l.off).take (m + 1)) := by
            unfold readA
            rw [hg]
            simp only
            rw [(ble_iff _ _).2 b3]
            rfl
          obtain ⟨em2, vs, he2, hv, hlen, hcell⟩ := read_cells hR hrd
          rw [hem] at he2; cases he2
          obtain ⟨em3, he3, ⟨C, u, fr, h1, h2, h3, h4, h5, h6⟩, hown⟩ := hR.objs _ _ hg
          rw [hem] at he3; cases he3
          have htu := (h4.1 _ rfl).2 _ rfl
          subst htu
          have hvs := unbytes_V hns hv
          have hnl : ns.length = m + 1 := by rw [hvs] at hlen; simpa using hlen
          have hlb := loadBytes_X (P := P) w ns ⟨em.blk, em.off + l.off, none⟩ .empty (fun j y hj => hcell j _ (by rw [hvs]; simp [hj]))
          rw [hnl] at hlb
          have hsh : w.shape? em.blk = some (u, C.size) := by simp [World.shape?, h1]
          have hlies := liesAt_bytes_at (P := P) b2 (C.size / P.cellsOf u) (em.off + l.off) (m + 1) (by rw [b2]; simp; omega)
          refine ⟨.string ⟨(ns.map fun x => x.toNat.toUInt8).toArray⟩, w.freeze ⟨em.blk, em.off + l.off, none⟩ (m + 1), ?_, ?_, by simp [V]⟩
          · obtain ⟨msg, hdef⟩ : ∃ msg : String, Builtin.unsafeString_ #[pt, it] ty #[.pointer (some ⟨em.blk, em.off + l.off, none⟩), .int .i64 (Int.ofNat (m + 1))] =
                (do
                  let n ← asInt (.int .i64 (Int.ofNat (m + 1)))
                  if n < 0 then runtimePanic (.error msg)
                  if n > IntKind.i64.max then unsupported (.unsafePointer "String: a length above the largest int")
                  if n = 0 then pure (.string .empty)
                  else if ← variablesAt ⟨em.blk, em.off + l.off, none⟩ (← elemOf pt) n.toNat then do
                    let s ← loadBytes ⟨em.blk, em.off + l.off, none⟩ .empty n.toNat
                    freeze ⟨em.blk, em.off + l.off, none⟩ n.toNat
                    pure (.string s)
                  else unsupported (.unsafePointer "String: not so many bytes at ptr")) := ⟨_, rfl⟩
            rw [hdef]
            have hmax : IntKind.i64.max = 9223372036854775807 := rfl
            have g1 : ¬ (Int.ofNat (m + 1) < 0) := by simp; omega
            have g2 : ¬ (Int.ofNat (m + 1) > IntKind.i64.max) := by rw [hmax]; simp; omega
            have g3 : ¬ (Int.ofNat (m + 1) = 0) := by simp; omega
            have g4 : (Int.ofNat (m + 1)).toNat = m + 1 := rfl
            simp only [asInt, asIntOf, Sem.run_bind, Sem.run_pure, Result.andThen_ok, if_neg g1, if_neg g2, if_neg g3, g4, elemOf, run_underlying hpt, variablesAt, run_program, run_shape, hsh, hlies, if_true, hlb, run_freeze]
            simp
          · have hsz := (Array.getElem?_eq_some_iff.1 h1).1
            have hfz : (w.freeze ⟨em.blk, em.off + l.off, none⟩ (m + 1)).heap = w.heap.modify em.blk fun
                | .cells c elem (lo, hi) => .cells c elem (if lo == hi then (em.off + l.off, em.off + l.off + (m + 1)) else (min lo (em.off + l.off), max hi (em.off + l.off + (m + 1))))
                | o => o := by
              unfold World.freeze
              rw [if_neg (by omega)]
              rfl
            obtain ⟨fr', hblk⟩ : ∃ fr', (w.freeze ⟨em.blk, em.off + l.off, none⟩ (m + 1)).heap[em.blk]? = some (.cells C u fr') := by
              rw [hfz, Array.getElem?_modify, if_pos rfl, h1]
              exact ⟨_, rfl⟩
            refine R.set hR hg rfl hem (fun k hk => ?_) (by rw [hfz]; simp) ?_ ?_ ?_ ⟨C, u, fr', hblk, h2, h3, OwnOk.free (fun _ => by simp) (fun _ => by simp), (fun hk => by cases hk), h6⟩
            · rw [hfz, Array.getElem?_modify, if_neg (Ne.symm hk)]
            · unfold World.freeze; rw [if_neg (by omega)]
            · unfold World.freeze; rw [if_neg (by omega)]
            · unfold World.freeze; rw [if_neg (by omega)]
        · cases hu
    · cases hu
  · cases hu

def ustrA (P : Program) (h : Heap) (pt : TypeId) (x n : AV) : Option (AV × Heap) :=
  match x, n with
  | .ptr _, .int .i64 (.ofNat 0) => some (.str [], h)
  | _, _ => ustr1A P h pt x n
theorem ustrA_run {P : Program} {φ : List Emb} {h h' : Heap} {w0 w : World} (hR : R P φ h w0 w) {pt : TypeId} {x n r : AV} (hu : ustrA P h pt x n = some (r, h')) {x' n' : Value} (hx : V φ x x') (hn : V φ n n') (it ty : TypeId) :
    ∃ r' w', (Builtin.unsafeString_ #[pt, it] ty #[x', n']).run P w = .ok r' w' ∧ R P φ h' w0 w' ∧ V φ r r' := by
  unfold ustrA at hu
  split at hu
  · rename_i l
    cases hu
    simp only [V] at hn
    subst hn
    have hp : ∃ p, x' = .pointer p := by
      cases l with
      | none => simp only [V] at hx; exact ⟨_, hx⟩
      | some l => simp only [V] at hx; obtain ⟨e, _, h⟩ := hx; exact ⟨_, h⟩
    obtain ⟨p, rfl⟩ := hp
    exact ⟨.string .empty, w, Lib.run_unsafeString_none _ pt it ty p, hR, by simp only [V]; rfl⟩
  · exact ustr1A_run hR hu hx hn it ty
/-- A pointer without a type turned to a pointer at a variable of the type itself, or laid out alike. -/
def fromUnsafeA (P : Program) (h : Heap) (src dst : TypeId) (x : AV) : Option AV :=
  match P.underlying src, P.underlying dst, x with
  | some .unsafePointer, some (.pointer _), .ptr none => some (.ptr none)
  | some .unsafePointer, some (.pointer u), .ptr (some l) =>
    (match P.info? u, l.off, h.get l.id with
    | some _, 0, some (.cells cs (.var t)) => bif liesAt P P.depth t (cs.length / P.cellsOf t) 0 u 1 then some (.ptr (some l)) else none
    | _, _, _ => none)
  | _, _, _ => none
theorem fromUnsafeA_run {P : Program} {φ : List Emb} {h : Heap} {w0 w : World} (hR : R P φ h w0 w) {src dst : TypeId} {x r : AV} (hc : fromUnsafeA P h src dst x = some r) {x' : Value} (hx : V φ x x') : ∃ r', (convert src dst x').run P w = .ok r' w ∧ V φ r r' := by
  unfold fromUnsafeA at hc
  split at hc
  · rename_i u hs hd
    cases hc
    simp only [V] at hx
    subst hx
    exact ⟨.pointer none, by simp [convert, run_underlying hs, run_underlying hd, Conv.unsafePointer], by simp [V]⟩
  · rename_i u l hs hd
    split at hc
    · rename_i i cs t hi hoff hg
      cases hb : liesAt P P.depth t (cs.length / P.cellsOf t) 0 u 1 with
      | false => rw [hb] at hc; cases hc
      | true =>
        rw [hb, cond_true] at hc
        cases hc
        simp only [V] at hx
        obtain ⟨e, he, rfl⟩ := hx
        obtain ⟨e', he', ⟨C, t', fr, h1, h2, h3, h4, _⟩, _⟩ := hR.objs _ _ hg
        rw [he] at he'; cases he'
        obtain ⟨_, rfl, h5, h6⟩ := h4.2 _ rfl
        have hsh : w.shape? e.blk = some (t', C.size) := by simp [World.shape?, h1]
        refine ⟨_, Lib.run_from_unsafe (P := P) w ⟨e.blk, e.off + l.off, none⟩ hs hd hi hsh (by rw [h5, hoff, h6]; exact hb), ?_⟩
        simp only [V]; exact ⟨e, he, rfl⟩
    · cases hc
  · cases hc

/-- append(.., make(..)..). -/
def appendZA (P : Program) (h : Heap) (ts tn : TypeId) (s n : AV) : Option (AV × Heap) :=
  match P.underlying ts, P.underlying tn, n with
  | some (.slice e), some (.int _), .int _ (.ofNat m) =>
    (match P.info? e with
    | some i => (match i.zero with
      | some z => (match ofValue z with
        | some za => (match cellsA za with
          | some zs => bif Nat.ble m 9223372036854775807 && Nat.ble (m * i.bytes) 281474976710656 && Nat.ble 1 i.size && Nat.beq z.cells.size i.size && cellsOk zs then appendCore P h e i.size m (rep zs m) s else none
          | none => none)
        | none => none)
      | none => none)
    | none => none)
  | _, _, _ => none
theorem zeroCells_list {z : Array Value} (hz : 0 < z.size) (m : Nat) : (Builtin.zeroCells z m).toList = (List.range (m * z.toList.length)).map fun i => z.toList.getD (i % z.toList.length) undef := by
  simp only [Builtin.zeroCells, Array.toList_map, Array.toList_range, Array.length_toList]
  refine List.map_congr_left fun j hj => ?_
  simp [Array.getElem!_eq_getD, Array.getD_eq_getD_getElem?, List.getD_eq_getElem?_getD, undef]
  rw [Array.getElem?_eq_getElem (Nat.mod_lt _ hz)]
  rfl
/-- Zeros, as they are appended. -/
theorem App.ofZeros {P : Program} {ts tn ty e : TypeId} {i : TypeInfo} {z : Value} {k kn : IntKind} (ht : P.underlying ts = some (.slice e)) (htn : P.underlying tn = some (.int kn)) (hi : P.info? e = some i) (hz : i.zero = some z) {m : Nat}
    (h63 : m ≤ 9223372036854775807) (h48 : m * i.bytes ≤ 281474976710656) (hs : 1 ≤ i.size) (hzs : z.cells.size = i.size) (hone : ∀ u ∈ z.cells.toList, u.oneCell' = true) (w : World) :
    App P ts tn ty e i (.int k (Int.ofNat m)) m (Builtin.zeroCells z.cells m).toList w := by
  have hw : IntKind.i64.wrap (m : Int) = m := by rw [IntKind.wrap_i64]; omega
  have hneg : ¬ ((m : Int) < 0) := by omega
  have h48i : ¬ (281474976710656 < (m : Int) * (i.bytes : Int)) := by rw [← Int.natCast_mul]; omega
  refine ⟨by simp [zeroCells_size, hzs], fun hm base len cap hle => ?_, fun z' hz' base sLen sCap olds hold hpos hg hn63 hfit hb => ?_, fun b off sLen sCap hpos hroom hc hf => ?_⟩
  · subst hm
    have h0 : ¬ ((281474976710656 : Int) < 0) := by omega
    cases base <;> simp [Builtin.append_, run_underlying ht, run_underlying htn, sizeOf, typeInfo, hi, asInt, asIntOf, IntKind.wrap_i64, hle, storeCells, h0]
  · rw [hz] at hz'; cases hz'
    have hn : ¬ (sLen + m ≤ sCap) := by omega
    have h63' : ¬ (9223372036854775807 < ((sLen : Int) + (m : Int))) := by omega
    have h48' : ¬ (281474976710656 < Builtin.nextslicecap (sLen + m) sCap * i.bytes) := by omega
    have hns : ¬ (m * i.size = 0) := Nat.mul_ne_zero (by omega) (by omega)
    simp [Builtin.append_, run_underlying ht, run_underlying htn, sizeOf, typeInfo, zeroValue, hi, hz, asInt, asIntOf, hw, hn, hneg, hns, h63', h48', h48i, Question.forced, hold, newRow, grownCap]
    try (congr 2; apply Array.ext'; simp [List.append_assoc])
  · have hst := run_storeCells_cells (P := P) b (off + sLen * i.size) (Builtin.zeroCells z.cells m).toList 0 w (by simpa using hc) (by simpa using hf) (fun u hu => by
      rw [zeroCells_list (by omega)] at hu
      obtain ⟨j, hj, rfl⟩ := List.mem_map.1 hu
      have hlt : j % z.cells.toList.length < z.cells.toList.length := Nat.mod_lt _ (by simp; omega)
      rw [List.getD_eq_getElem?_getD, List.getElem?_eq_getElem hlt]
      exact hone _ (List.getElem_mem hlt))
    simp only [Nat.add_zero] at hst
    have hns : ¬ (m * i.size = 0) := Nat.mul_ne_zero (by omega) (by omega)
    simp [Builtin.append_, run_underlying ht, run_underlying htn, sizeOf, typeInfo, zeroValue, hi, hz, asInt, asIntOf, hw, hneg, hns, h48i, hroom, Addr.add_lit, hst]
theorem appendZA_run {P : Program} {φ : List Emb} {h h' : Heap} {w0 w : World} (hR : R P φ h w0 w) {ts tn ty : TypeId} {s n r : AV} (ha : appendZA P h ts tn s n = some (r, h')) {s' n' : Value} (hs : V φ s s') (hn : V φ n n') :
    ∃ r' φ' w', (Builtin.append_ #[ts, tn] ty #[s', n']).run P w = .ok r' w' ∧ Up φ φ' ∧ R P φ' h' w0 w' ∧ V φ' r r' := by
  unfold appendZA at ha
  split at ha
  · rename_i e kn k m ht htn
    split at ha
    · rename_i i hi
      split at ha
      · rename_i z hz
        split at ha
        · rename_i za hza
          split at ha
          · rename_i zs hzs
            cases hb : (Nat.ble m 9223372036854775807 && Nat.ble (m * i.bytes) 281474976710656 && Nat.ble 1 i.size && Nat.beq z.cells.size i.size && cellsOk zs) with
            | false => rw [hb] at ha; cases ha
            | true =>
              rw [hb, cond_true] at ha
              simp only [Bool.and_eq_true] at hb
              obtain ⟨⟨⟨⟨b1, b2⟩, b3⟩, b4⟩, b5⟩ := hb
              have b1 := Nat.le_of_ble_eq_true b1
              have b2 := Nat.le_of_ble_eq_true b2
              have b3 := Nat.le_of_ble_eq_true b3
              have b4 := Nat.eq_of_beq_eq_true b4
              simp only [V] at hn
              subst hn
              have hzv : Vs φ zs z.cells.toList := cellsA_V hzs (ofValue_V hza)
              have hone : ∀ u ∈ z.cells.toList, u.oneCell' = true := cellsOk_one b5 hzv
              have hrv := rep_V hzv m
              rw [← zeroCells_list (by omega)] at hrv
              exact appendCore_run hR hi ha hs hrv (App.ofZeros ht htn hi hz b1 b2 b3 b4 hone w)
          · cases ha
        · cases ha
      · cases ha
    · cases ha
  · cases ha

/-! ### A slice is cleared -/

def clearSA (P : Program) (h : Heap) (t : TypeId) (x : AV) : Option Heap :=
  match P.underlying t, x with
  | some (.slice el), .slice (some l) (n + 1) _ => (match zeroA P el with
    | some z => (match cellsA z with | some cs => bif Nat.blt 0 cs.length then writeA h l (rep cs (n + 1)) else none | none => none)
    | none => none)
  | _, _ => none
theorem clearSA_run {P : Program} {φ : List Emb} {h h' : Heap} {w0 w : World} (hR : R P φ h w0 w) {t : TypeId} {x : AV} (hu : clearSA P h t x = some h') {x' : Value} (hx : V φ x x') (ts : List TypeId) (ty : TypeId) :
    ∃ r' w', (Builtin.clear_ ⟨t :: ts⟩ ty #[x']).run P w = .ok r' w' ∧ R P φ h' w0 w' ∧ V φ (.tuple []) r' := by
  unfold clearSA at hu
  split at hu
  · rename_i el l n c hty
    split at hu
    · rename_i z hz
      split at hu
      · rename_i cs hcs
        rw [cond_eq_ite] at hu
        split at hu
        · rename_i hpos
          have hpos := (blt_iff _ _).1 hpos
          obtain ⟨z', hz1, hz2⟩ := run_zeroA hz w
          have hV := cellsA_V hcs (hz2 φ)
          have hl : z'.cells.size = cs.length := by rw [← Array.length_toList, hV.length]
          have hrv := rep_V hV (n + 1)
          rw [← zeroCells_list (by omega)] at hrv
          simp only [V] at hx
          obtain ⟨e, cap, a, he, rfl, _, _, ha⟩ := hx
          have ha : a = ⟨e.blk, e.off + l.off, none⟩ := ha.resolve_right (by simp)
          subst ha
          unfold writeA at hu
          split at hu
          · rename_i cs0 k hg
            have go : k ≠ .ro → (bif cellsOk (rep cs (n + 1)) && Nat.ble (l.off + (rep cs (n + 1)).length) cs0.length then some (h.set l.id (.cells (over cs0 l.off (rep cs (n + 1))) k)) else none) = some h' → ∃ r' w', (Builtin.clear_ ⟨t :: ts⟩ ty #[.slice (some ⟨e.blk, e.off + l.off, none⟩) (n + 1) cap]).run P w = .ok r' w' ∧ R P φ h' w0 w' ∧ V φ (.tuple []) r' := by
              intro hk hu
              rw [cond_eq_ite] at hu
              split at hu
              · rename_i hb
                simp only [Bool.and_eq_true] at hb
                cases hu
                obtain ⟨e2, w', h1, h2, h3, _⟩ := write_aux hR hg hk hb.1 (Nat.le_of_ble_eq_true hb.2) hrv
                rw [he] at h1; cases h1
                refine ⟨.tuple #[], w', ?_, h3, by simp [V, Vs]⟩
                unfold Builtin.clear_
                simp [run_underlying hty, hz1, h2]
              · cases hu
            cases k with
            | ro => cases hu
            | own u => exact go (by simp) hu
            | var u => exact go (by simp) hu
            | str => exact go (by simp) hu
          · cases hu
        · cases hu
      · cases hu
    · cases hu
  · cases hu

/-! ### A slice is cut beyond its length: the block is known to be long enough -/

def sliceUp (P : Program) (h : Heap) (t : TypeId) (x : AV) (lo hi mx : Option AV) : Option AV :=
  match P.underlying t, x, hi, mx with
  | some (.slice e), .slice (some l) _ (.tip s), some (.int _ H), none => (match sizeA P e, h.get l.id with
    | some sz, some (.cells cs _) => bif Nat.beq sz s && decide (0 ≤ H) && Nat.ble (l.off + H.toNat * s) cs.length then (match boundA lo 0 H.toNat with
        | some L => bif Nat.blt L H.toNat then some (.slice (some (locAdd l (L * s))) (H.toNat - L) (.tip s)) else some (.slice (some l) 0 .dim)
        | none => none) else none
    | _, _ => none)
  | _, _, _, _ => none
theorem sliceUp_run {P : Program} {φ : List Emb} {h : Heap} {w0 w : World} (hR : R P φ h w0 w) {t : TypeId} {x r : AV} {lo hi mx : Option AV} (hu : sliceUp P h t x lo hi mx = some r) {x' : Value} (hx : V φ x x') {lo' hi' mx' : Option Value} (h1 : VO φ lo lo') (h2 : VO φ hi hi') (h3 : VO φ mx mx') :
    ∃ r', (Instr.sliceAt t x' lo' hi' mx').run P w = .ok r' w ∧ V φ r r' := by
  unfold sliceUp at hu
  split at hu
  · rename_i e l n s k H hty
    split at hu
    · rename_i sz cs kd hs hg
      rw [cond_eq_ite] at hu
      split at hu
      · rename_i hb
        simp only [Bool.and_eq_true, decide_eq_true_eq] at hb
        obtain ⟨⟨b1, b2⟩, b3⟩ := hb
        have b1 := Nat.eq_of_beq_eq_true b1
        subst b1
        have b3 := Nat.le_of_ble_eq_true b3
        simp only [V] at hx
        obtain ⟨em, cap, a, he, rfl, hle, hcap, ha⟩ := hx
        have ha : a = ⟨em.blk, em.off + l.off, none⟩ := ha.resolve_right (fun hh => by cases hh.2)
        subst ha
        obtain ⟨hpos, hcap⟩ := hcap
        obtain ⟨e2, he2, ⟨C, t0, fr, g1, g2, g3, _⟩, _⟩ := hR.objs _ _ hg
        rw [he] at he2; cases he2
        have hHc : H.toNat ≤ cap := by
          have : l.off + H.toNat * sz ≤ l.off + cap * sz := by omega
          exact Nat.le_of_mul_le_mul_right (by omega) hpos
        split at hu
        · rename_i L hl
          have hLH := boundA_le hl (Nat.zero_le _)
          have hhi : boundA (some (.int k H)) n H.toNat = some H.toNat := by
            simp only [boundA]
            rw [if_pos ⟨b2, by omega⟩]
          have hb := bounds_run (P := P) (w := w) h1 h2 h3 true (m := cap) (bm := 0) (mx := none) (cap := cap) rfl (Nat.zero_le _) hhi (fun hh => by cases hh) hHc hl (by simp) (len := n)
          have hst : (Instr.sliceAt t (.slice (some ⟨em.blk, em.off + l.off, none⟩) n cap) lo' hi' mx').run P w = .ok (.slice (if cap = L then some ⟨em.blk, em.off + l.off, none⟩ else (some (⟨em.blk, em.off + l.off, none⟩ : Addr)).map (·.add (L * sz))) (H.toNat - L) (cap - L)) w := by
            simp [Instr.sliceAt, Instr.slice, run_underlying hty, hb, run_sizeA hs]
          refine ⟨_, hst, ?_⟩
          rw [cond_eq_ite] at hu
          split at hu
          · rename_i hlt
            have hlt := (blt_iff _ _).1 hlt
            cases hu
            have hne : cap ≠ L := by omega
            rw [if_neg hne]
            simp only [Option.map_some, Addr.add_lit]
            refine V_slice he rfl (by omega) ⟨hpos, ?_⟩ (.inl (by simp [locAdd, Nat.add_assoc]))
            have : L * sz + (cap - L) * sz = cap * sz := by rw [← Nat.add_mul, Nat.add_sub_cancel' (by omega)]
            simp only [locAdd]
            omega
          · rename_i hlt
            have hlt : ¬ L < H.toNat := fun hh => hlt ((blt_iff _ _).2 hh)
            cases hu
            have hz : H.toNat - L = 0 := by omega
            rw [hz]
            by_cases hne : cap = L
            · rw [if_pos hne]
              exact V_slice he rfl (Nat.zero_le _) trivial (.inr ⟨rfl, rfl⟩)
            · rw [if_neg hne]
              exact V_slice he rfl (Nat.zero_le _) trivial (.inr ⟨rfl, rfl⟩)
        · cases hu
      · cases hu
    · cases hu
  · cases hu
/-- hi is asked in the text, so that what hangs on memory is seen in it. -/
def sliceHA (P : Program) (h : Heap) (t : TypeId) (x : AV) (lo hi mx : Option AV) : Option AV := match sliceA P t x lo hi mx with
  | some r => some r
  | none => sliceUp P h t x lo hi mx
theorem sliceHA_run {P : Program} {φ : List Emb} {h : Heap} {w0 w : World} (hR : R P φ h w0 w) {t : TypeId} {x r : AV} {lo hi mx : Option AV} (hu : sliceHA P h t x lo hi mx = some r) {x' : Value} (hx : V φ x x') {lo' hi' mx' : Option Value} (h1 : VO φ lo lo') (h2 : VO φ hi hi') (h3 : VO φ mx mx') :
    ∃ r', (Instr.sliceAt t x' lo' hi' mx').run P w = .ok r' w ∧ V φ r r' := by
  unfold sliceHA at hu
  split at hu
  · rename_i r0 hr
    cases hu
    exact sliceA_run hr hx h1 h2 h3
  · exact sliceUp_run hR hu hx h1 h2 h3
theorem sliceHA_free {P : Program} {h : Heap} {t : TypeId} {x r : AV} {lo hi mx : Option AV} (ht : ∀ e, P.underlying t = some (.slice e) → hi = none) (hb : sliceHA P h t x lo hi mx = some r) (h2 : Heap) : sliceHA P h2 t x lo hi mx = some r := by
  unfold sliceHA at hb ⊢
  split at hb
  · exact hb
  · unfold sliceUp at hb
    split at hb
    · cases ht _ (by assumption)
    · cases hb
end Go.Am

noncomputable section
namespace Go.Am
open Go.RowKit

inductive CRes where
  | ret (v : AV) (h : Heap)
  | pan (v : AV) (h : Heap)

abbrev CallF := FuncId → List AV → Heap → Option CRes

def evals (P : Program) (env : List AV) (xs : List Operand) : List AV := xs.map (evalA P env)
def evalParts (P : Program) (env : List AV) (xs : List (Nat × Operand)) : List (Nat × AV) := xs.map fun x => (x.1, evalA P env x.2)
def evalO (P : Program) (env : List AV) (x : Option Operand) : Option AV := x.map (evalA P env)

def withH (h : Heap) : Option AV → Option (AV × Heap)
  | some v => some (v, h)
  | none => none

def builtinA (P : Program) (h : Heap) (b : Builtin) (ts : List TypeId) (args : List AV) : Option (AV × Heap) :=
  match b, ts, args with
  | .len, [t], [x] => withH h (lenA P h t x)
  | .append, [t, u], [s, x] => (match appendA P h t u s x with | some r => some r | none => appendZA P h t u s x)
  | .copy, [t, _], [d, s] => copyA P h t d s
  | .max, _, x :: rest => withH h (maxA x rest)
  | .min, _, x :: rest => withH h (minA x rest)
  | .close, _, [.chan (some i)] => closeA h i
  | .cap, t :: _, [x] => withH h (capA P t x)
  | .clear, t :: _, [x] => (match clearA P t x with | some r => some (r, h) | none => (match clearSA P h t x with | some h' => some (.tuple [], h') | none => none))
  | .unsafeSliceData, _, [x] => withH h (dataA x)
  | .unsafeString, [pt, _], [x, n] => ustrA P h pt x n
  | .delete, [t, _], [m, k] => deleteA P h t m k
  | _, _, _ => none

/-- The array that a slice's places are. -/
def arrayAtA (P : Program) (arr : TypeId) (x : AV) : Option AV :=
  match P.underlying arr, x with
  | some (.array n _), .slice (some l) (m + 1) _ => bif Nat.ble n (m + 1) then some (.ptr (some l)) else none
  | _, _ => none
theorem arrayAtA_run {P : Program} {φ : List Emb} {w : World} {arr : TypeId} {x r : AV} (h : arrayAtA P arr x = some r) {x' : Value} (hx : V φ x x') : ∃ r', (Instr.arrayAt arr x').run P w = .ok r' w ∧ V φ r r' := by
  unfold arrayAtA at h
  split at h
  · rename_i n e l m c hu
    cases hb : Nat.ble n (m + 1) with
    | false => rw [hb] at h; cases h
    | true =>
      rw [hb, cond_true, Option.some.injEq] at h
      subst h
      have hle := (ble_iff _ _).1 hb
      simp only [V] at hx
      obtain ⟨em, cap, a, he, rfl, _, _, ha⟩ := hx
      have ha : a = ⟨em.blk, em.off + l.off, none⟩ := ha.resolve_right (by omega)
      subst ha
      refine ⟨.pointer (some ⟨em.blk, em.off + l.off, none⟩), ?_, ?_⟩
      · unfold Instr.arrayAt
        simp only [Sem.run_bind, run_underlying hu, Result.andThen_ok]
        rw [if_neg (by omega)]
        rfl
      · simp only [V]; exact ⟨em, he, rfl⟩
  · cases h

/-- []byte([]byte{..}): what is behind the block's end is not to be told. -/
def convSlA (P : Program) (h : Heap) (src dst : TypeId) (x : AV) : Option (AV × Heap) :=
  match P.underlying src, x with
  | some (.slice e), .slice (some l) (n + 1) c => (match P.underlying e, h.get l.id with
    | some (.int .u8), some (.cells cs (.own _)) => bif Nat.beq src dst then some (.slice (some l) (n + 1) c, h.set l.id (.cells cs .str)) else none
    | _, _ => none)
  | _, _ => none
theorem convSlA_run {P : Program} {φ : List Emb} {h h' : Heap} {w0 w : World} (hR : R P φ h w0 w) {src dst : TypeId} {x r : AV} (hc : convSlA P h src dst x = some (r, h')) {x' : Value} (hx : V φ x x') :
    ∃ r' w', (convert src dst x').run P w = .ok r' w' ∧ R P φ h' w0 w' ∧ V φ r r' := by
  unfold convSlA at hc
  split at hc
  · rename_i el l n c hs
    split at hc
    · rename_i cs u he hg
      rw [cond_eq_ite] at hc
      split at hc
      · rename_i hsd
        have hsd := Nat.eq_of_beq_eq_true hsd
        subst hsd
        cases hc
        have hx0 := hx
        simp only [V] at hx
        obtain ⟨e, cap, a, he1, rfl, _, _, ha⟩ := hx
        have ha : a = ⟨e.blk, e.off + l.off, none⟩ := ha.resolve_right (by omega)
        subst ha
        obtain ⟨e2, he2, ⟨C, t, fr, h1, h2, h3, h4, h5, h6⟩, hown⟩ := hR.objs _ _ hg
        rw [he1] at he2; cases he2
        have hfr : fr = (0, 0) := (h4.1 u rfl).1
        subst hfr
        have hlt := (Array.getElem?_eq_some_iff.1 h1).1
        let w' : World := { w with heap := w.heap.setIfInBounds e.blk (.cells C t (C.size, C.size + 1)) }
        have hf : w.freeze ⟨e.blk, C.size, none⟩ 1 = w' := by
          unfold World.freeze
          rw [if_neg (by decide)]
          simp only [w']
          congr 1
          apply Array.ext
          · simp
          · intro i i1 i2
            simp only [Array.getElem_modify, Array.getElem_setIfInBounds]
            by_cases hi : e.blk = i
            · subst hi
              have hce : w.heap[e.blk] = .cells C t (0, 0) := by rw [Array.getElem?_eq_getElem hlt] at h1; exact Option.some.inj h1
              simp [hce]
            · simp only [hi, if_false]; rw [Array.getElem_setIfInBounds_ne (by simpa using i1) hi]
        have hsh : (shape e.blk).run P w = .ok (some (t, C.size)) w := by simp [shape, Sem.run, World.shape?, h1]
        refine ⟨_, w', ?_, ?_, hx0⟩
        · simp [convert, run_underlying hs, run_underlying he, markStringish, hsh]
          exact hf
        · refine R.set hR hg rfl he1 (fun k hk => ?_) (by simp [w']) rfl rfl rfl ⟨C, t, (C.size, C.size + 1), ?_, h2, h3, OwnOk.free (by simp) (by simp), fun _ k hk => by omega, h6⟩
          · simp [w', Ne.symm hk]
          · simp [w', hlt]
      · cases hc
    · cases hc
  · cases hc
def convA (P : Program) (h : Heap) (src dst : TypeId) (x : AV) : Option (AV × Heap) := match convertA P h src dst x with | some r => some r | none => (match convSlA P h src dst x with | some r => some r | none => withH h (fromUnsafeA P h src dst x))
/-- An operation that is no call of a Go function. -/
def aop (P : Program) (env : List AV) (h : Heap) (op : Op) : Option (AV × Heap) :=
  match op with
  | .move x | .assign x => some (evalA P env x, h)
  | .pick c a b => (match evalA P env c with | .bool t => some (bif t then evalA P env a else evalA P env b, h) | _ => none)
  | .alloc t => allocA P h t
  | .box t x => boxA t h (evalA P env x)
  | .build t parts => withH h (buildA P t (evalParts P env parts.toList))
  | .buildSlice t len parts => buildSliceA P h t len (evalParts P env parts.toList)
  | .load t a => (match evalA P env a with | .ptr (some l) => withH h (loadA P h t l) | _ => none)
  | .store t a x => (match evalA P env a with | .ptr (some l) => (match storeA P h t l (evalA P env x) with | some h' => some (.tuple [], h') | none => none) | _ => none)
  | .nilCheck x => withH h (nilCheckA (evalA P env x))
  | .binOp op t x y _ => withH h (binA P h op t x y (evalA P env x) (evalA P env y))
  | .unOp op _ x => withH h (unA op (evalA P env x))
  | .convert src dst x => convA P h src dst (evalA P env x)
  | .sliceToArrayPointer arr x => withH h (arrayAtA P arr (evalA P env x))
  | .makeInterface t x => withH h (makeInterfaceA P t (evalA P env x))
  | .makeFunc fn first captured => some (.func fn (evals P env first.toList) (evals P env captured.toList), h)
  | .makeSlice t l c => makeSliceA P h t (evalA P env l) (evalA P env c)
  | .makeChan t n => makeChanA P h t (evalA P env n)
  | .slice t x lo hi mx => withH h (sliceHA P h t (evalA P env x) (evalO P env lo) (evalO P env hi) (evalO P env mx))
  | .fieldAddr s x f => withH h (fieldAddrA P s (evalA P env x) f)
  | .field t x f => withH h (fieldA P t (evalA P env x) f)
  | .indexAddr t x i => withH h (indexAddrA P t (evalA P env x) (evalA P env i))
  | .index t x i => withH h (indexA P t (evalA P env x) (evalA P env i))
  | .typeAssert x _ asserted ok => withH h (typeAssertA P (evalA P env x) asserted ok)
  | .extract x i => withH h (extractA (evalA P env x) i)
  | .call c => (match c.callee with | .builtin b => builtinA P h b c.argTypes.toList (evals P env c.args.toList) | _ => none)
  | .makeMap _ none => some (makeMapA h)
  | .lookup t x i ok => withH h (lookupM P h t (evalA P env x) (evalA P env i) ok)
  | .mapUpdate t m k x | .insert t m k x => (match mapUpdateM P h t (evalA P env m) (evalA P env k) (evalA P env x) with | some h' => some (.tuple [], h') | none => none)
  | .mapEntry t m k => mapEntryA P h t (evalA P env m) (evalA P env k)
  | .entryStore _ m s x => (match entryStoreA h (evalA P env m) (evalA P env s) (evalA P env x) with | some h' => some (.tuple [], h') | none => none)
  | .range t x => rangeA P h t (evalA P env x)
  | .entry it => withH h (entryA h (evalA P env it))
  | _ => none

/-- The same, whatever tells an operand's value. -/
def aopE (P : Program) (ev : Operand → AV) (h : Heap) (op : Op) : Option (AV × Heap) :=
  match op with
  | .move x | .assign x => some (ev x, h)
  | .pick c a b => (match ev c with | .bool t => some (bif t then ev a else ev b, h) | _ => none)
  | .alloc t => allocA P h t
  | .box t x => boxA t h (ev x)
  | .build t parts => withH h (buildA P t (parts.toList.map fun x => (x.1, ev x.2)))
  | .buildSlice t len parts => buildSliceA P h t len (parts.toList.map fun x => (x.1, ev x.2))
  | .load t a => (match ev a with | .ptr (some l) => withH h (loadA P h t l) | _ => none)
  | .store t a x => (match ev a with | .ptr (some l) => (match storeA P h t l (ev x) with | some h' => some (.tuple [], h') | none => none) | _ => none)
  | .nilCheck x => withH h (nilCheckA (ev x))
  | .binOp op t x y _ => withH h (binA P h op t x y (ev x) (ev y))
  | .unOp op _ x => withH h (unA op (ev x))
  | .convert src dst x => convA P h src dst (ev x)
  | .sliceToArrayPointer arr x => withH h (arrayAtA P arr (ev x))
  | .makeInterface t x => withH h (makeInterfaceA P t (ev x))
  | .makeFunc fn first captured => some (.func fn (first.toList.map ev) (captured.toList.map ev), h)
  | .makeSlice t l c => makeSliceA P h t (ev l) (ev c)
  | .makeChan t n => makeChanA P h t (ev n)
  | .slice t x lo hi mx => withH h (sliceHA P h t (ev x) (lo.map ev) (hi.map ev) (mx.map ev))
  | .fieldAddr s x f => withH h (fieldAddrA P s (ev x) f)
  | .field t x f => withH h (fieldA P t (ev x) f)
  | .indexAddr t x i => withH h (indexAddrA P t (ev x) (ev i))
  | .index t x i => withH h (indexA P t (ev x) (ev i))
  | .typeAssert x _ asserted ok => withH h (typeAssertA P (ev x) asserted ok)
  | .extract x i => withH h (extractA (ev x) i)
  | .call c => (match c.callee with | .builtin b => builtinA P h b c.argTypes.toList (c.args.toList.map ev) | _ => none)
  | .makeMap _ none => some (makeMapA h)
  | .lookup t x i ok => withH h (lookupM P h t (ev x) (ev i) ok)
  | .mapUpdate t m k x | .insert t m k x => (match mapUpdateM P h t (ev m) (ev k) (ev x) with | some h' => some (.tuple [], h') | none => none)
  | .mapEntry t m k => mapEntryA P h t (ev m) (ev k)
  | .entryStore _ m s x => (match entryStoreA h (ev m) (ev s) (ev x) with | some h' => some (.tuple [], h') | none => none)
  | .range t x => rangeA P h t (ev x)
  | .entry it => withH h (entryA h (ev it))
  | _ => none
theorem aop_eq (P : Program) (env : List AV) (h : Heap) (op : Op) : aop P env h op = aopE P (evalA P env) h op := by
  cases op <;> first
    | rfl
    | (rename_i r; cases r <;> rfl)

theorem evals_V {P : Program} {φ : List Emb} {env : List AV} {ρ : Operand → Value} (hρ : ∀ x, V φ (evalA P env x) (ρ x)) : ∀ xs : List Operand, Vs φ (evals P env xs) (xs.map ρ)
  | [] => by simp [evals, Vs]
  | x :: xs => by simp only [evals, List.map_cons, Vs_cons]; exact ⟨hρ x, evals_V hρ xs⟩
theorem evalParts_V {P : Program} {φ : List Emb} {env : List AV} {ρ : Operand → Value} (hρ : ∀ x, V φ (evalA P env x) (ρ x)) : ∀ xs : List (Nat × Operand), Parts φ (evalParts P env xs) (xs.map fun (i, x) => (i, ρ x))
  | [] => by simp only [evalParts, List.map_nil]; exact .nil
  | x :: xs => by simp only [evalParts, List.map_cons]; exact .cons (hρ x.2) (evalParts_V hρ xs)
theorem evalO_V {P : Program} {φ : List Emb} {env : List AV} {ρ : Operand → Value} (hρ : ∀ x, V φ (evalA P env x) (ρ x)) (x : Option Operand) : VO φ (evalO P env x) (x.map ρ) := by
  cases x with
  | none => simp [evalO, VO]
  | some x => simp only [evalO, VO, Option.map_some]; exact ⟨_, rfl, hρ x⟩

theorem withH_some {h h' : Heap} {x : Option AV} {v : AV} (e : withH h x = some (v, h')) : x = some v ∧ h' = h := by
  cases x with
  | none => simp [withH] at e
  | some y => simp only [withH, Option.some.injEq, Prod.mk.injEq] at e; exact ⟨by rw [e.1], e.2.symm⟩

/-- No number, no string, no struct. -/
def Plainly (v : Value) : Prop := (∀ k a, v ≠ .int k a) ∧ (∀ k a, v ≠ .float k a) ∧ (∀ k a b, v ≠ .complex k a b) ∧ (∀ a, v ≠ .string a) ∧ (∀ cs, v ≠ .agg cs)

theorem plainly_of {φ : List Emb} {a : AV} {v : Value} (ha : (match a with | .unk | .int _ _ | .str _ | .agg _ => false | _ => true) = true) (hv : V φ a v) : Plainly v := by
  cases a with
  | unk => cases ha
  | int _ _ => cases ha
  | str _ => cases ha
  | agg _ => cases ha
  | ptr l => cases l <;> simp only [V] at hv <;> first | (subst hv; simp [Plainly]; done) | (obtain ⟨_, _, rfl⟩ := hv; simp [Plainly])
  | map l => cases l <;> simp only [V] at hv <;> first | (subst hv; simp [Plainly]; done) | (obtain ⟨_, _, rfl⟩ := hv; simp [Plainly])
  | chan l => cases l <;> simp only [V] at hv <;> first | (subst hv; simp [Plainly]; done) | (obtain ⟨_, _, rfl⟩ := hv; simp [Plainly])
  | slice l n c => cases l <;> simp only [V] at hv <;> first | (obtain ⟨_, rfl, _⟩ := hv; simp [Plainly]; done) | (obtain ⟨_, _, _, _, rfl, _⟩ := hv; simp [Plainly])
  | func fn x y => simp only [V] at hv; obtain ⟨_, _, rfl, _⟩ := hv; simp [Plainly]
  | iface t x => simp only [V] at hv; obtain ⟨_, rfl, _⟩ := hv; simp [Plainly]
  | tuple x => simp only [V] at hv; obtain ⟨_, rfl, _⟩ := hv; simp [Plainly]
  | yield k => simp only [V] at hv; obtain ⟨_, _, rfl⟩ := hv; simp [Plainly]
  | _ => simp only [V] at hv; subst hv; simp [Plainly]

theorem eqA_shape {P : Program} {φ : List Emb} {h : Heap} {t : TypeId} {x y : AV} {b : Bool} (he : eqA P h t x y = some b) {x' : Value} (hx : V φ x x') : (∃ k a k' b, x = .int k a ∧ y = .int k' b) ∨ (∃ a b, x = .str a ∧ y = .str b) ∨ Plainly x' := by
  cases x with
  | int k a =>
    cases y with
    | int k' b => exact .inl ⟨_, _, _, _, rfl, rfl⟩
    | _ => unfold eqA at he; split at he <;> first | (cases he; done) | simp_all
  | str a =>
    cases y with
    | str b => exact .inr (.inl ⟨_, _, rfl, rfl⟩)
    | _ => unfold eqA at he; split at he <;> first | (cases he; done) | simp_all
  | agg a => unfold eqA at he; split at he <;> first | (cases he; done) | simp_all
  | unk => unfold eqA at he; split at he <;> first | (cases he; done) | simp_all
  | _ => exact .inr (.inr (plainly_of (by rfl) hx))

theorem eqGuard_run {P : Program} {w : World} {op : BinOp} {t : TypeId} {xo yo : Operand} {x y : Value} (h1 : ∀ cs, x ≠ .agg cs) (h2 : x = .nilIface → y = .nilIface → (isConst xo || isConst yo) = true) : (eqGuard op t xo yo x y).run P w = .ok () w := by
  unfold eqGuard
  cases op <;> first
    | rfl
    | (simp only [Bool.not_true, Bool.false_eq_true, if_false]
       split
       · have := h2 rfl rfl
         rw [if_pos (by revert this; cases xo <;> cases yo <;> simp [isConst])]
         rfl
       · exact absurd rfl (h1 _)
       · rfl)

theorem binA_run {P : Program} {φ : List Emb} {h : Heap} {w0 w : World} (hR : R P φ h w0 w) {op : BinOp} {t : TypeId} {xo yo : Operand} {x y r : AV} (hb : binA P h op t xo yo x y = some r) {x' y' : Value} (hx : V φ x x') (hy : V φ y y') :
    ∃ r', (do eqGuard op t xo yo x' y'; binOp op t x' y' : Sem Value).run P w = .ok r' w ∧ V φ r r' := by
  have general : Plainly x' → (x' = .nilIface → y' = .nilIface → (isConst xo || isConst yo) = true) → ∀ b, eqA P h t x y = some b → (op = .eql ∧ r = .bool b ∨ op = .neq ∧ r = .bool !b) →
      ∃ r', (do eqGuard op t xo yo x' y'; binOp op t x' y' : Sem Value).run P w = .ok r' w ∧ V φ r r' := by
    intro hp hg b hb hr
    have heq := eqA_run hR hb hx hy
    have hgr := eqGuard_run (P := P) (w := w) (op := op) (t := t) hp.2.2.2.2 hg
    obtain ⟨h1, h2, h3, h4, h5⟩ := hp
    rcases hr with ⟨rfl, rfl⟩ | ⟨rfl, rfl⟩
    · refine ⟨.bool b, ?_, by simp [V]⟩
      simp only [Sem.run_bind, hgr, Result.andThen_ok]
      cases x' <;> first | (exact absurd rfl (h1 _ _)) | (exact absurd rfl (h2 _ _)) | (exact absurd rfl (h3 _ _ _)) | (exact absurd rfl (h4 _)) | (simp [binOp, heq])
    · refine ⟨.bool !b, ?_, by simp [V]⟩
      simp only [Sem.run_bind, hgr, Result.andThen_ok]
      cases x' <;> first | (exact absurd rfl (h1 _ _)) | (exact absurd rfl (h2 _ _)) | (exact absurd rfl (h3 _ _ _)) | (exact absurd rfl (h4 _)) | (simp [binOp, heq])
  unfold binA at hb
  split at hb
  · rename_i k a k' b
    simp only [V] at hx hy
    subst hx hy
    have hgr := eqGuard_run (P := P) (w := w) (op := op) (t := t) (xo := xo) (yo := yo) (x := .int k a) (y := .int k' b) (by simp) (by simp)
    simp only [Sem.run_bind, hgr, Result.andThen_ok]
    split at hb
    · obtain ⟨v, h1, h2⟩ := shiftA_run (P := P) (w := w) (k' := k') hb t; exact ⟨v, h1, h2 φ⟩
    · obtain ⟨v, h1, h2⟩ := shiftA_run (P := P) (w := w) (k' := k') hb t; exact ⟨v, h1, h2 φ⟩
    · rename_i hn1 hn2
      split at hb
      · rename_i hk
        subst hk
        obtain ⟨v, h1, h2⟩ := intA_run (P := P) (w := w) hb t (fun h => hn1 h) (fun h => hn2 h); exact ⟨v, h1, h2 φ⟩
      · cases hb
  · rename_i a b
    simp only [V] at hx hy
    subst hx hy
    have hgr := eqGuard_run (P := P) (w := w) (op := op) (t := t) (xo := xo) (yo := yo) (x := .string ⟨a.toArray⟩) (y := .string ⟨b.toArray⟩) (by simp) (by simp)
    simp only [Sem.run_bind, hgr, Result.andThen_ok]
    obtain ⟨v, h1, h2⟩ := strA_run (P := P) (w := w) hb t
    exact ⟨v, h1, h2 φ⟩
  · split at hb
    · rename_i hconst
      have hp : Plainly x' := by simp only [V] at hx; subst hx; simp [Plainly]
      split at hb
      · simp only [Option.map_eq_some_iff] at hb
        obtain ⟨b, hb, rfl⟩ := hb
        exact general hp (fun _ _ => hconst) b hb (.inl ⟨rfl, rfl⟩)
      · simp only [Option.map_eq_some_iff] at hb
        obtain ⟨b, hb, rfl⟩ := hb
        exact general hp (fun _ _ => hconst) b hb (.inr ⟨rfl, rfl⟩)
      · cases hb
    · cases hb
  · rename_i xs ys
    simp only [V] at hx hy
    obtain ⟨X, rfl, hX⟩ := hx
    obtain ⟨Y, rfl, hY⟩ := hy
    have agg : ∀ b, eqAggA P t xs ys = some b → (op = .eql ∧ r = .bool b ∨ op = .neq ∧ r = .bool !b) → ∃ r', (do eqGuard op t xo yo (.agg X) (.agg Y); binOp op t (.agg X) (.agg Y) : Sem Value).run P w = .ok r' w ∧ V φ r r' := by
      intro b hb hr
      obtain ⟨hg, he⟩ := eqAggA_run (w := w) hb hX hY
      rcases hr with ⟨rfl, rfl⟩ | ⟨rfl, rfl⟩
      · refine ⟨.bool b, ?_, by simp [V]⟩
        simp only [Sem.run_bind, eqGuard, run_program, Result.andThen_ok, hg, Bool.not_false, if_true, Bool.not_true, Bool.false_eq_true, if_false, Sem.run_pure, run_eql_struct, he]
      · refine ⟨.bool !b, ?_, by simp [V]⟩
        simp only [Sem.run_bind, eqGuard, run_program, Result.andThen_ok, hg, Bool.not_false, if_true, Bool.not_true, Bool.false_eq_true, if_false, Sem.run_pure, run_neq_struct, he]
    split at hb
    · simp only [Option.map_eq_some_iff] at hb
      obtain ⟨b, hb, rfl⟩ := hb
      exact agg b hb (.inl ⟨rfl, rfl⟩)
    · simp only [Option.map_eq_some_iff] at hb
      obtain ⟨b, hb, rfl⟩ := hb
      exact agg b hb (.inr ⟨rfl, rfl⟩)
    · cases hb
  · cases hb
  · rename_i hn1 hn2 hn3 hn4 hn5
    have fin : ∀ b, eqA P h t x y = some b → Plainly x' ∧ (x' = .nilIface → y' = .nilIface → (isConst xo || isConst yo) = true) := by
      intro b hb
      rcases eqA_shape hb hx with ⟨k, a, k', b', rfl, rfl⟩ | ⟨a, b', rfl, rfl⟩ | hp
      · exact (hn2 _ _ _ _ rfl rfl).elim
      · exact (hn3 _ _ rfl rfl).elim
      · refine ⟨hp, fun e1 e2 => ?_⟩
        subst e1 e2
        unfold eqA at hb
        split at hb
        case h_7 => exact (hn4 rfl rfl).elim
        case h_18 => cases hb
        all_goals first | (simp [V] at hx; done) | (simp [V] at hy; done)
    split at hb
    · simp only [Option.map_eq_some_iff] at hb
      obtain ⟨b, hb, rfl⟩ := hb
      exact general (fin b hb).1 (fin b hb).2 b hb (.inl ⟨rfl, rfl⟩)
    · simp only [Option.map_eq_some_iff] at hb
      obtain ⟨b, hb, rfl⟩ := hb
      exact general (fin b hb).1 (fin b hb).2 b hb (.inr ⟨rfl, rfl⟩)
    · cases hb
end Go.Am

noncomputable section
namespace Go.Am
open Go.RowKit

def Done (P : Program) (φ : List Emb) (w0 : World) (v : AV) (h' : Heap) (s : Sem Next) (w : World) : Prop :=
  ∃ nx φ' w', s.run P w = .ok nx w' ∧ (∃ v', (nx = .value v' ∨ (nx = .skip ∧ v' = undef)) ∧ V φ' v v') ∧ Up φ φ' ∧ R P φ' h' w0 w'

theorem Done.val {P : Program} {φ φ' : List Emb} {w0 w w' : World} {v : AV} {h' : Heap} {s : Sem Value} {v' : Value} (h : s.run P w = .ok v' w') (hu : Up φ φ') (hR : R P φ' h' w0 w') (hv : V φ' v v') : Done P φ w0 v h' (do pure (.value (← s))) w :=
  ⟨.value v', φ', w', by simp [h], ⟨v', .inl rfl, hv⟩, hu, hR⟩
theorem Done.quiet {P : Program} {φ : List Emb} {w0 w : World} {v : AV} {h : Heap} {s : Sem Value} {v' : Value} (hR : R P φ h w0 w) (hs : s.run P w = .ok v' w) (hv : V φ v v') : Done P φ w0 v h (do pure (.value (← s))) w :=
  Done.val hs (Up.refl _) hR hv

theorem builtinA_run {P : Program} {φ : List Emb} {h h' : Heap} {w0 w : World} (hR : R P φ h w0 w) {b : Builtin} {ts : Array TypeId} {ty : TypeId} {cs : Array Bool} {args : List AV} {r : AV} (hb : builtinA P h b ts.toList args = some (r, h')) {vs : Array Value} (hv : Vs φ args vs.toList) :
    Done P φ w0 r h' (builtin b ts ty cs vs) w := by
  obtain ⟨ts⟩ := ts
  obtain ⟨vs⟩ := vs
  simp only at hb hv
  unfold builtinA at hb
  split at hb
  · rename_i t x
    obtain ⟨h1, rfl⟩ := withH_some hb
    simp only [Vs] at hv
    obtain ⟨y, ys, rfl, hy, rfl⟩ := hv
    obtain ⟨r', h2, h3⟩ := lenA_run (ty := ty) hR h1 hy
    exact Done.quiet hR h2 h3
  · rename_i t u s x
    simp only [Vs] at hv
    obtain ⟨y, ys, rfl, hy, z, zs, rfl, hz, rfl⟩ := hv
    split at hb
    · rename_i p hp
      cases hb
      obtain ⟨r', φ', w', h1, h2, h3, h4⟩ := appendA_run (ty := ty) hR hp hy hz
      exact Done.val h1 h2 h3 h4
    · obtain ⟨r', φ', w', h1, h2, h3, h4⟩ := appendZA_run (ty := ty) hR hb hy hz
      exact Done.val h1 h2 h3 h4
  · rename_i t u d s
    simp only [Vs] at hv
    obtain ⟨y, ys, rfl, hy, z, zs, rfl, hz, rfl⟩ := hv
    obtain ⟨r', w', h1, h2, h3⟩ := copyA_run (sT := u) (ty := ty) hR hb hy hz
    exact Done.val h1 (Up.refl _) h2 h3
  · rename_i x rest
    obtain ⟨h1, rfl⟩ := withH_some hb
    simp only [Vs] at hv
    obtain ⟨y, ys, rfl, hy, hys⟩ := hv
    obtain ⟨r', h2, h3⟩ := maxA_run (P := P) (w := w) h1 hy hys
    exact Done.quiet hR (s := Builtin.max_ ⟨ts⟩ ty ⟨y :: ys⟩) h2 h3
  · rename_i x rest
    obtain ⟨h1, rfl⟩ := withH_some hb
    simp only [Vs] at hv
    obtain ⟨y, ys, rfl, hy, hys⟩ := hv
    obtain ⟨r', h2, h3⟩ := minA_run (P := P) (w := w) h1 hy hys
    exact Done.quiet hR (s := Builtin.min_ ⟨ts⟩ ty ⟨y :: ys⟩) h2 h3
  · rename_i i
    simp only [Vs] at hv
    obtain ⟨y, ys, rfl, hy, rfl⟩ := hv
    obtain ⟨r', w', h1, h2, h3⟩ := closeA_run hR hb hy ⟨ts⟩ ty
    exact Done.val h1 (Up.refl _) h2 h3
  · rename_i t ts' x
    obtain ⟨h1, rfl⟩ := withH_some hb
    simp only [Vs] at hv
    obtain ⟨y, ys, rfl, hy, rfl⟩ := hv
    obtain ⟨r', h2, h3⟩ := capA_run (P := P) (w := w) h1 hy ts' ty
    exact Done.quiet hR h2 h3
  · rename_i t ts' x
    simp only [Vs] at hv
    obtain ⟨y, ys, rfl, hy, rfl⟩ := hv
    split at hb
    · rename_i r0 h1
      cases hb
      obtain ⟨r', h2, h3⟩ := clearA_run (P := P) (w := w) h1 hy ts' ty
      exact Done.quiet hR h2 h3
    · split at hb
      · rename_i h2 h1
        cases hb
        obtain ⟨r', w', h3, h4, h5⟩ := clearSA_run hR h1 hy ts' ty
        exact Done.val h3 (Up.refl _) h4 h5
      · cases hb
  · rename_i x
    obtain ⟨h1, rfl⟩ := withH_some hb
    simp only [Vs] at hv
    obtain ⟨y, ys, rfl, hy, rfl⟩ := hv
    obtain ⟨r', h2, h3⟩ := dataA_run (P := P) (w := w) h1 hy ⟨ts⟩ ty
    exact Done.quiet hR h2 h3
  · rename_i pt it x n
    simp only [Vs] at hv
    obtain ⟨y, ys, rfl, hy, z, zs, rfl, hz, rfl⟩ := hv
    obtain ⟨r', w', h1, h2, h3⟩ := ustrA_run hR hb hy hz it ty
    exact Done.val h1 (Up.refl _) h2 h3
  · rename_i t u m k
    simp only [Vs] at hv
    obtain ⟨y, ys, rfl, hy, z, zs, rfl, hz, rfl⟩ := hv
    obtain ⟨r', w', h1, h2, h3⟩ := deleteA_run (ts := ⟨[t, u]⟩) (ty := ty) hR rfl hb hy hz
    exact Done.val h1 (Up.refl _) h2 h3
  · cases hb

theorem unA_run {P : Program} {φ : List Emb} {w : World} {op : UnOp} {x r : AV} (h : unA op x = some r) {x' : Value} (hx : V φ x x') : ∃ r', (Op.unary op x').run P w = .ok r' w ∧ V φ r r' := by
  unfold unA at h
  split at h
  · cases h; simp only [V] at hx; subst hx; exact ⟨_, rfl, by simp [V]⟩
  · cases h; simp only [V] at hx; subst hx; exact ⟨_, rfl, by simp [V]⟩
  · cases h; simp only [V] at hx; subst hx; exact ⟨_, rfl, by simp [V]⟩
  · cases h

theorem execOp_bi (ρ : Operand → Value) (dst : Option Tmp) (b : Builtin) (xs : Array Operand) (ats : Array TypeId) (ty : TypeId) (pos : String) (after : Array Edge) (guard : Option (Nat × Bool)) :
    execOp ρ ⟨dst, .call ⟨.builtin b, xs, ats⟩, ty, pos, after, guard⟩ = builtin b ats ty (xs.map fun | .const _ => true | _ => false) (xs.map ρ) := rfl

theorem aop_run {P : Program} {φ : List Emb} {h h' : Heap} {w0 w : World} (hR : R P φ h w0 w) {env : List AV} {ρ : Operand → Value} (hρ : ∀ x, V φ (evalA P env x) (ρ x)) {o : Oper} {r : AV} (ho : aop P env h o.op = some (r, h')) :
    Done P φ w0 r h' (execOp ρ o) w := by
  obtain ⟨dst, op, type, pos, after, guard⟩ := o
  simp only at ho
  cases op <;> simp only [aop] at ho <;> try (cases ho; done)
  case move x =>
    simp only [Option.some.injEq, Prod.mk.injEq] at ho
    obtain ⟨rfl, rfl⟩ := ho
    exact ⟨.value (ρ x), φ, w, rfl, ⟨_, .inl rfl, hρ x⟩, Up.refl _, hR⟩
  case assign x =>
    simp only [Option.some.injEq, Prod.mk.injEq] at ho
    obtain ⟨rfl, rfl⟩ := ho
    exact ⟨.value (ρ x), φ, w, rfl, ⟨_, .inl rfl, hρ x⟩, Up.refl _, hR⟩
  case pick c a b =>
    split at ho
    · rename_i t ht
      simp only [Option.some.injEq, Prod.mk.injEq] at ho
      obtain ⟨rfl, rfl⟩ := ho
      have hc := hρ c
      rw [ht] at hc
      simp only [V] at hc
      refine ⟨.value (if t then ρ a else ρ b), φ, w, by simp [execOp, hc, asBool], ⟨_, .inl rfl, ?_⟩, Up.refl _, hR⟩
      cases t
      · exact hρ b
      · exact hρ a
    · cases ho
  case alloc t =>
    obtain ⟨r', φ', w', h1, h2, h3, h4⟩ := allocA_run hR ho
    exact Done.val h1 h2 h3 h4
  case box t x =>
    obtain ⟨r', φ', w', h1, h2, h3, h4⟩ := boxA_run (t := t) hR ho (hρ x)
    exact Done.val h1 h2 h3 h4
  case build t parts =>
    obtain ⟨h1, rfl⟩ := withH_some ho
    have hp := evalParts_V hρ parts.toList
    obtain ⟨r', h2, h3⟩ := buildA_run (w := w) (qs := parts.map fun (i, x) => (i, ρ x)) h1 (by simpa using hp)
    exact Done.quiet hR h2 h3
  case buildSlice t len parts =>
    have hp := evalParts_V hρ parts.toList
    obtain ⟨r', φ', w', h1, h2, h3, h4⟩ := buildSliceA_run (qs := parts.map fun (i, x) => (i, ρ x)) hR ho (by simpa using hp)
    exact Done.val h1 h2 h3 h4
  case load t a =>
    split at ho
    · rename_i l hl
      obtain ⟨h1, rfl⟩ := withH_some ho
      have ha := hρ a
      rw [hl] at ha
      obtain ⟨r', h2, h3⟩ := loadA_run hR h1 ha
      exact Done.quiet hR h2 h3
    · cases ho
  case store t a x =>
    split at ho
    · rename_i l hl
      split at ho
      · rename_i h2 hs
        simp only [Option.some.injEq, Prod.mk.injEq] at ho
        obtain ⟨rfl, rfl⟩ := ho
        have ha := hρ a
        rw [hl] at ha
        obtain ⟨w', h3, h4⟩ := storeA_run hR hs ha (hρ x)
        exact ⟨.skip, φ, w', by simp [execOp, h3], ⟨undef, .inr ⟨rfl, rfl⟩, by simp only [V]; exact ⟨#[], rfl, by simp [Vs]⟩⟩, Up.refl _, h4⟩
      · cases ho
    · cases ho
  case nilCheck x =>
    obtain ⟨h1, rfl⟩ := withH_some ho
    have hx := hρ x
    unfold nilCheckA at h1
    split at h1
    · rename_i l hl
      cases h1
      rw [hl] at hx
      have hx2 := hx
      simp only [V] at hx2
      obtain ⟨e, _, hv⟩ := hx2
      exact ⟨.value (ρ x), φ, w, by simp only [execOp, hv, Sem.run_pure], ⟨_, .inl rfl, hx⟩, Up.refl _, hR⟩
    · rename_i f a b hl
      cases h1
      rw [hl] at hx
      have hx2 := hx
      simp only [V] at hx2
      obtain ⟨y, z, hv, _⟩ := hx2
      exact ⟨.value (ρ x), φ, w, by simp only [execOp, hv, Sem.run_pure], ⟨_, .inl rfl, hx⟩, Up.refl _, hR⟩
    · rename_i t v hl
      cases h1
      rw [hl] at hx
      have hx2 := hx
      simp only [V] at hx2
      obtain ⟨y, hv, _⟩ := hx2
      exact ⟨.value (ρ x), φ, w, by simp only [execOp, hv, Sem.run_pure], ⟨_, .inl rfl, hx⟩, Up.refl _, hR⟩
    · cases h1
  case binOp op t x y yt =>
    obtain ⟨h1, rfl⟩ := withH_some ho
    obtain ⟨r', h2, h3⟩ := binA_run hR h1 (hρ x) (hρ y)
    exact Done.quiet hR h2 h3
  case unOp op t x =>
    obtain ⟨h1, rfl⟩ := withH_some ho
    obtain ⟨r', h2, h3⟩ := unA_run (P := P) (w := w) h1 (hρ x)
    exact Done.quiet hR h2 h3
  case convert src dst x =>
    unfold convA at ho
    split at ho
    · rename_i p hp
      cases ho
      obtain ⟨r', φ', w', h1, h2, h3, h4⟩ := convertA_run hR hp (hρ x)
      exact Done.val h1 h2 h3 h4
    · split at ho
      · rename_i q hq
        cases ho
        obtain ⟨r', w', h1, h2, h3⟩ := convSlA_run hR hq (hρ x)
        exact Done.val h1 (Up.refl _) h2 h3
      · obtain ⟨h1, rfl⟩ := withH_some ho
        obtain ⟨r', h2, h3⟩ := fromUnsafeA_run hR h1 (hρ x)
        exact Done.quiet hR h2 h3
  case makeMap t reserve =>
    cases reserve with
    | none =>
      simp only [Option.some.injEq] at ho
      obtain ⟨r', φ', w', h1, h2, h3, h4⟩ := makeMapA_run hR t
      rw [ho] at h3 h4
      exact Done.val h1 h2 h3 h4
    | some x => simp only [reduceCtorEq] at ho
  case lookup t x i ok =>
    obtain ⟨h1, rfl⟩ := withH_some ho
    obtain ⟨r', h2, h3⟩ := lookupM_run hR h1 (hρ x) (hρ i)
    exact Done.quiet hR h2 h3
  case mapUpdate t m k x =>
    split at ho
    · rename_i h2 hs
      simp only [Option.some.injEq, Prod.mk.injEq] at ho
      obtain ⟨rfl, rfl⟩ := ho
      obtain ⟨w', h3, h4⟩ := mapUpdateM_run hR hs (hρ m) (hρ k) (hρ x)
      exact ⟨.skip, φ, w', by simp [execOp, h3], ⟨undef, .inr ⟨rfl, rfl⟩, by simp only [V]; exact ⟨#[], rfl, by simp [Vs]⟩⟩, Up.refl _, h4⟩
    · cases ho
  case insert t m k x =>
    split at ho
    · rename_i h2 hs
      simp only [Option.some.injEq, Prod.mk.injEq] at ho
      obtain ⟨rfl, rfl⟩ := ho
      obtain ⟨w', h3, h4⟩ := mapUpdateM_run hR hs (hρ m) (hρ k) (hρ x)
      exact ⟨.skip, φ, w', by simp [execOp, h3], ⟨undef, .inr ⟨rfl, rfl⟩, by simp only [V]; exact ⟨#[], rfl, by simp [Vs]⟩⟩, Up.refl _, h4⟩
    · cases ho
  case mapEntry t m k =>
    obtain ⟨r', w', h1, h2, h3⟩ := mapEntryA_run hR ho (hρ m) (hρ k)
    exact Done.val h1 (Up.refl _) h2 h3
  case entryStore t m s x =>
    split at ho
    · rename_i h2 hs
      simp only [Option.some.injEq, Prod.mk.injEq] at ho
      obtain ⟨rfl, rfl⟩ := ho
      obtain ⟨w', h3, h4⟩ := entryStoreA_run (t := t) hR hs (hρ m) (hρ s) (hρ x)
      exact ⟨.skip, φ, w', by simp [execOp, h3], ⟨undef, .inr ⟨rfl, rfl⟩, by simp only [V]; exact ⟨#[], rfl, by simp [Vs]⟩⟩, Up.refl _, h4⟩
    · cases ho
  case range t x =>
    obtain ⟨r', φ', w', h1, h2, h3, h4⟩ := rangeA_run hR ho (hρ x)
    exact Done.val h1 h2 h3 h4
  case entry it =>
    obtain ⟨h1, rfl⟩ := withH_some ho
    obtain ⟨r', h2, h3⟩ := entryA_run hR h1 (hρ it)
    exact Done.quiet hR h2 h3
  case sliceToArrayPointer arr x =>
    obtain ⟨h1, rfl⟩ := withH_some ho
    obtain ⟨r', h2, h3⟩ := arrayAtA_run (w := w) h1 (hρ x)
    exact Done.quiet hR h2 h3
  case makeInterface t x =>
    obtain ⟨h1, rfl⟩ := withH_some ho
    obtain ⟨r', h2, h3⟩ := makeInterfaceA_run (w := w) h1 (hρ x)
    exact Done.quiet hR h2 h3
  case makeFunc fn first captured =>
    simp only [Option.some.injEq, Prod.mk.injEq] at ho
    obtain ⟨rfl, rfl⟩ := ho
    refine Done.quiet hR (v' := .func fn (first.map ρ) (captured.map ρ)) rfl ?_
    simp only [V]
    exact ⟨_, _, rfl, by simpa using evals_V hρ first.toList, by simpa using evals_V hρ captured.toList⟩
  case makeSlice t l c =>
    obtain ⟨r', φ', w', h1, h2, h3, h4⟩ := makeSliceA_run hR ho (hρ l) (hρ c)
    exact Done.val h1 h2 h3 h4
  case makeChan t n =>
    obtain ⟨r', φ', w', h1, h2, h3, h4⟩ := makeChanA_run hR ho (hρ n)
    exact Done.val h1 h2 h3 h4
  case slice t x lo hi mx =>
    obtain ⟨h1, rfl⟩ := withH_some ho
    obtain ⟨r', h2, h3⟩ := sliceHA_run hR h1 (hρ x) (evalO_V hρ lo) (evalO_V hρ hi) (evalO_V hρ mx)
    exact Done.quiet hR h2 h3
  case fieldAddr s x f =>
    obtain ⟨h1, rfl⟩ := withH_some ho
    obtain ⟨r', h2, h3⟩ := fieldAddrA_run (w := w) h1 (hρ x)
    exact Done.quiet hR h2 h3
  case field t x f =>
    obtain ⟨h1, rfl⟩ := withH_some ho
    obtain ⟨r', h2, h3⟩ := fieldA_run (w := w) h1 (hρ x)
    exact Done.quiet hR h2 h3
  case indexAddr t x i =>
    obtain ⟨h1, rfl⟩ := withH_some ho
    obtain ⟨r', h2, h3⟩ := indexAddrA_run (w := w) h1 (hρ x) (hρ i)
    exact Done.quiet hR h2 h3
  case index t x i =>
    obtain ⟨h1, rfl⟩ := withH_some ho
    obtain ⟨r', h2, h3⟩ := indexA_run (w := w) h1 (hρ x) (hρ i)
    exact Done.quiet hR h2 h3
  case typeAssert x xt asserted ok =>
    obtain ⟨h1, rfl⟩ := withH_some ho
    obtain ⟨r', h2, h3⟩ := typeAssertA_run (w := w) (xt := xt) h1 (hρ x)
    exact Done.quiet hR h2 h3
  case extract x i =>
    obtain ⟨h1, rfl⟩ := withH_some ho
    obtain ⟨r', h2, h3⟩ := extractA_run (P := P) (w := w) h1 (hρ x)
    exact Done.quiet hR h2 h3
  case call c =>
    obtain ⟨callee, args, argTypes⟩ := c
    cases callee with
    | builtin b =>
      simp only at ho
      have hv := evals_V hρ args.toList
      rw [execOp_bi]
      exact builtinA_run hR ho (by simpa using hv)
    | value f => cases ho
    | invoke r m => cases ho
end Go.Am

noncomputable section
namespace Go.Am
open Go.RowKit

inductive Out where
  | normal
  | exit (id : Nat)
  | ret
  | pan (v : AV)

/-- Every function with a body is entered by a call. -/
def Fns (P : Program) : Prop := ∀ (f : Nat) (fn : Func), P.funcs[f]? = some fn → fn.body.isSome = true → (fn.name == "runtime.NumGoroutine") = false

def methodA (P : Program) (t : TypeId) (name : String) : Option FuncId :=
  match P.info? t with
  | none => none
  | some i =>
    match i.methods.find? (·.name == name) with
    | none => none
    | some m =>
      match m.path.isEmpty, m.func, P.underlying t with
      | true, some (f, true), some (.pointer _) => some f
      | true, some (_, false), some (.pointer _) => none
      | true, some (f, false), some _ => some f
      | _, _, _ => none
/-- A method of what the pointer points to. -/
def methodV (P : Program) (t : TypeId) (name : String) : Option (FuncId × TypeId) :=
  match P.info? t with
  | none => none
  | some i =>
    match i.methods.find? (·.name == name) with
    | none => none
    | some m =>
      match m.path.isEmpty, m.func, P.underlying t with
      | true, some (f, false), some (.pointer e) => some (f, e)
      | _, _, _ => none

/-- The receiver of a method: of a value, where the interface holds its address. -/
def recvM (P : Program) (h : Heap) (t : TypeId) (v : AV) (name : String) : Option (FuncId × AV) := match methodA P t name with
  | some f => some (f, v)
  | none => (match methodV P t name, v with
    | some (f, elem), .ptr (some l) => (match loadA P h elem l with | some u => some (f, u) | none => none)
    | _, _ => none)

def callA (call : CallF) (P : Program) (h : Heap) (f : FuncId) (args : List AV) : Option CRes := have _ := P; call f args h

def toRet : Option (AV × Heap) → Option CRes
  | some (v, h) => some (.ret v h)
  | none => none

def panA (h : Heap) (x : AV) : Option CRes :=
  match x with
  | .iface t v => some (.pan (.iface t v) h)
  | _ => none

def biA (P : Program) (h : Heap) (b : Builtin) (ts : List TypeId) (args : List AV) : Option CRes :=
  match b, args with
  | .panic, [x] => panA h x
  | _, args => toRet (builtinA P h b ts args)

def opA (call : CallF) (P : Program) (env : List AV) (h : Heap) (op : Op) : Option CRes :=
  match op with
  | .call c =>
    (match c.callee with
    | .builtin b => biA P h b c.argTypes.toList (evals P env c.args.toList)
    | .value f => (match evalA P env f with
      | .func (.func g) first captured => bif Nat.blt g P.funcs.size then callA call P h g ((first ++ evals P env c.args.toList) ++ captured) else none
      | .yield k => callA call P h (P.funcs.size + k) (evals P env c.args.toList)
      | _ => none)
    | .invoke recv name => (match evalA P env recv with
      | .iface t v => (match recvM P h t v name with
        | some (g, u) => bif Nat.blt g P.funcs.size then callA call P h g (u :: evals P env c.args.toList) else none
        | none => none)
      | _ => none))
  | .panic x => panA h (evalA P env x)
  | op => toRet (aop P env h op)

def PostC (P : Program) (φ : List Emb) (w0 : World) : CRes → Ending → World → Prop
  | .ret v h', e, w' => ∃ φ' v', e = .returned v' ∧ Up φ φ' ∧ R P φ' h' w0 w' ∧ V φ' v v'
  | .pan v h', e, w' => ∃ φ' v', e = .panicked [{ v := v', recovered := false }] ∧ Up φ φ' ∧ R P φ' h' w0 w' ∧ V φ' v v'

/-- The fence that lets all in; in a round's frame, or not. -/
def wideR (ρ : Option Nat) : Fence := { Fence.wide with round := ρ }
theorem wideR_none : wideR none = Fence.wide := rfl
theorem callsR {ρ : Option Nat} {n : Nat} {P : Program} {f : FuncId} {args : Array Value} {w : World} {R : Ending → World → Prop} : CallsIn (wideR ρ) n P f args w R ↔ Calls P f args w R := callsIn_wide (n := n)
/-- An operation's condition, in a round's frame or not. -/
def opWp (ρ : Option Nat) (P : Program) (o : Oper) (a : Act) (w : World) (K : Act → World → Prop) (Q : Exit → Act → World → Prop) : Prop := o.wpIn (wideR ρ) 0 P a w K Q

/-- A call, whether it enters a body or not. -/
def Goes (P : Program) (f : FuncId) (args : Array Value) (w : World) (Post : Ending → World → Prop) : Prop :=
  ((callFunc f args).run P w = .ok (.enter f args) w ∧ Calls P f args w Post) ∨ ∃ v w', (callFunc f args).run P w = .ok (.value v) w' ∧ Post (.returned v) w'
theorem Goes.mono {P : Program} {f : FuncId} {args : Array Value} {w : World} {R R' : Ending → World → Prop} (h : Goes P f args w R) (hr : ∀ e w', R e w' → R' e w') : Goes P f args w R' := by
  rcases h with ⟨h1, h2⟩ | ⟨v, w', h1, h2⟩
  · exact .inl ⟨h1, h2.mono hr⟩
  · exact .inr ⟨v, w', h1, hr _ _ h2⟩
/-- A call of what a range over a function hands out: a round. -/
def GoesY (P : Program) (l : Nat) (args : Array Value) (w : World) (Post : Ending → World → Prop) : Prop :=
  ∃ f tmps assign body, (Instr.yield l args).run P w = .ok (.round l f tmps assign body) w ∧ RoundIn Fence.wide 0 P l f tmps assign body w Post
theorem GoesY.mono {P : Program} {l : Nat} {args : Array Value} {w : World} {R R' : Ending → World → Prop} (h : GoesY P l args w R) (hr : ∀ e w', R e w' → R' e w') : GoesY P l args w R' := by
  obtain ⟨f, t, x, y, h1, h2⟩ := h
  exact ⟨f, t, x, y, h1, h2.mono hr⟩
/-- Numbers behind the functions' stand for what ranges over functions hand out. -/
def CallPost (P : Program) (f : FuncId) (args : List AV) (h : Heap) (Post : List Emb → World → Ending → World → Prop) : Prop :=
  ∀ φ w0 w (args' : Array Value), R P φ h w0 w → Vs φ args args'.toList →
    if f < P.funcs.size then Goes P f args' w (Post φ w0) else ∀ e, φ[f - P.funcs.size]? = some e → GoesY P e.blk args' w (Post φ w0)
def CallOk (P : Program) (f : FuncId) (args : List AV) (h : Heap) (r : CRes) : Prop := CallPost P f args h fun φ w0 => PostC P φ w0 r

def CallsOk (P : Program) (call : CallF) : Prop := ∀ f args h r, call f args h = some r → CallOk P f args h r

def OpPost (P : Program) (φ : List Emb) (w0 : World) (dst : Option Tmp) (a : Act) (K : Act → World → Prop) (Q : Exit → Act → World → Prop) : CRes → Prop
  | .ret v h' => ∀ φ' w' v', Up φ φ' → R P φ' h' w0 w' → V φ' v v' → K (a.put dst v') w'
  | .pan v h' => ∀ φ' w' v', Up φ φ' → R P φ' h' w0 w' → V φ' v v' → Q (.panic [{ v := v', recovered := false }]) a w'
/-- What is asked behind a call that comes to this or that. -/
def KPost (dst : Option Tmp) (a : Act) (K : Act → World → Prop) (Q : Exit → Act → World → Prop) : Ending → World → Prop
  | .returned v, w' => K (a.put dst v) w'
  | .panicked chain, w' => Q (.panic chain) a w'
  | .outgrown, _ => LetsOut Q
theorem KPost_of {P : Program} {φ : List Emb} {w0 : World} {dst : Option Tmp} {a : Act} {K : Act → World → Prop} {Q : Exit → Act → World → Prop} {r : CRes} (hp : OpPost P φ w0 dst a K Q r) {e : Ending} {w' : World} (h : PostC P φ w0 r e w') : KPost dst a K Q e w' := by
  cases r with
  | ret v h' =>
    obtain ⟨φ', v', rfl, hu, hR, hv⟩ := h
    exact hp φ' w' v' hu hR hv
  | pan v h' =>
    obtain ⟨φ', v', rfl, hu, hR, hv⟩ := h
    exact hp φ' w' v' hu hR hv

theorem execOp_value (ρ : Operand → Value) (dst : Option Tmp) (f : Operand) (xs : Array Operand) (ats : Array TypeId) (ty : TypeId) (pos : String) (after : Array Edge) (guard : Option (Nat × Bool)) :
    execOp ρ ⟨dst, .call ⟨.value f, xs, ats⟩, ty, pos, after, guard⟩ = (do let d ← Deferred.ofValue (ρ f) (xs.map ρ); invoke d.target d.args) := rfl
theorem execOp_invoke (ρ : Operand → Value) (dst : Option Tmp) (r : Operand) (name : String) (xs : Array Operand) (ats : Array TypeId) (ty : TypeId) (pos : String) (after : Array Edge) (guard : Option (Nat × Bool)) :
    execOp ρ ⟨dst, .call ⟨.invoke r name, xs, ats⟩, ty, pos, after, guard⟩ = invoke (.fn (.method name) #[]) (#[ρ r] ++ xs.map ρ) := rfl
theorem execOp_panic (ρ : Operand → Value) (dst : Option Tmp) (x : Operand) (ty : TypeId) (pos : String) (after : Array Edge) (guard : Option (Nat × Bool)) :
    execOp ρ ⟨dst, .panic x, ty, pos, after, guard⟩ = (do pure (.value (← Instr.panic (ρ x)))) := rfl

theorem callFunc_run {P : Program} (hF : Fns P) {f : FuncId} {fn : Func} {c : Code} (hf : P.funcs[f]? = some fn) (hb : fn.body = some c) (args : Array Value) (w : World) : (callFunc f args).run P w = .ok (.enter f args) w := by
  have h1 := hF f fn hf (by rw [hb]; rfl)
  unfold callFunc
  simp only [Sem.run_bind, run_program, Result.andThen_ok, hf]
  rw [if_neg (by rw [h1]; simp), if_neg (by rw [hb]; simp)]
  rfl

theorem methodA_run {P : Program} {t : TypeId} {name : String} {f : FuncId} (h : methodA P t name = some f) (v : Value) (w : World) (n : Nat) : (method (n + 1) t v name).run P w = .ok (f, v) w := by
  unfold methodA at h
  split at h
  · cases h
  · rename_i i hi
    split at h
    · cases h
    · rename_i m hm
      have hpath : m.path.isEmpty = true → m.path.toList = [] := by
        intro hp; simpa using hp
      split at h
      · rename_i hp hf hu
        cases h
        simp only [method, Sem.run_bind, typeInfo, run_program, Result.andThen_ok, hi, Sem.run_pure, hm, hpath hp, follow, hf, receiverAt, run_underlying hu, Place.get]
      · cases h
      · rename_i d hno hp hf hu
        cases h
        simp only [method, Sem.run_bind, typeInfo, run_program, Result.andThen_ok, hi, Sem.run_pure, hm, hpath hp, follow, hf, receiverAt, run_underlying hu, Place.get]
      · cases h
theorem recvM_run {P : Program} {φ : List Emb} {h : Heap} {w0 w : World} (hR : R P φ h w0 w) {t : TypeId} {name : String} {f : FuncId} {v u : AV} (hm : recvM P h t v name = some (f, u)) {y : Value} (hv : V φ v y) (n : Nat) :
    ∃ z, (method (n + 1) t y name).run P w = .ok (f, z) w ∧ V φ u z := by
  unfold recvM at hm
  split at hm
  · rename_i g hg
    cases hm
    exact ⟨y, methodA_run hg y w n, hv⟩
  · split at hm
    · rename_i g elem l hg
      split at hm
      · rename_i u' hl
        cases hm
        obtain ⟨z, h1, h2⟩ := loadA_run hR hl hv
        refine ⟨z, ?_, h2⟩
        simp only [V] at hv
        obtain ⟨e, he, rfl⟩ := hv
        unfold methodV at hg
        split at hg
        · cases hg
        · rename_i i hi
          split at hg
          · cases hg
          · rename_i m hm
            have hpath : m.path.isEmpty = true → m.path.toList = [] := by
              intro hp; simpa using hp
            split at hg
            · rename_i hp hf hu
              cases hg
              have hck : ∀ (s nm : String), (Builtin.ssaWrapNilChk_ #[t] t #[.pointer (some ⟨e.blk, e.off + l.off, none⟩), strVal s, strVal nm]).run P w = .ok (.pointer (some ⟨e.blk, e.off + l.off, none⟩)) w := fun s nm => rfl
              simp only [method, Sem.run_bind, typeInfo, run_program, Result.andThen_ok, hi, Sem.run_pure, hm, hpath hp, follow, hf, hp, if_true, receiverAt, run_underlying hu, Place.get, hck]
              have h1 : (loadVar elem ⟨e.blk, e.off + l.off, none⟩).run P w = .ok z w := by simpa [Instr.sureAddr, Instr.loadAt] using h1
              simp [asAddr, h1]
            · cases hg
      · cases hm
    · cases hm

theorem wp_of_run {ρ : Option Nat} {P : Program} {o : Oper} (hd : ∀ c, o.op ≠ .defer c) {a : Act} {w : World} {K : Act → World → Prop} {Q : Exit → Act → World → Prop} (h : o.uponIn (wideR ρ) 0 P a K Q ((execOp a.eval o).run P w)) : opWp ρ P o a w K Q := by
  refine ⟨fun _ _ => trivial, ?_⟩
  rw [Oper.semAt_eq _ _ _ hd]
  exact h
theorem wp_goes {ρ : Option Nat} {P : Program} {o : Oper} (hd : ∀ c, o.op ≠ .defer c) {a : Act} {w : World} {K : Act → World → Prop} {Q : Exit → Act → World → Prop} {f : FuncId} {args : Array Value} (hrun : (execOp a.eval o).run P w = (callFunc f args).run P w)
    (hc : Goes P f args w (KPost o.dst a K Q)) : opWp ρ P o a w K Q := by
  refine wp_of_run hd ?_
  rcases hc with ⟨h1, h2⟩ | ⟨v, w', h1, h2⟩
  · rw [hrun, h1, Oper.uponIn_enter]
    exact ⟨fun h => (by cases h), callsR.2 (h2.mono fun e w' he => by cases e <;> exact he)⟩
  · rw [hrun, h1, Oper.uponIn_value]
    exact h2
theorem wp_goesY {ρ : Option Nat} {P : Program} {o : Oper} (hd : ∀ c, o.op ≠ .defer c) {a : Act} {w : World} {K : Act → World → Prop} {Q : Exit → Act → World → Prop} {l : Nat} {args : Array Value} (hrun : (execOp a.eval o).run P w = (Instr.yield l args).run P w)
    (hc : GoesY P l args w (KPost o.dst a K Q)) : opWp ρ P o a w K Q := by
  refine wp_of_run hd ?_
  obtain ⟨f, t, x, y, h1, h2⟩ := hc
  rw [hrun, h1, Oper.uponIn_round]
  exact ⟨fun h => (by cases h), RoundIn.mono (F := wideR ρ) h2 fun e w' he => by cases e <;> exact he⟩

theorem wp_done {ρ : Option Nat} {P : Program} {o : Oper} (hd0 : ∀ c, o.op ≠ .defer c) {a : Act} {w : World} {K : Act → World → Prop} {Q : Exit → Act → World → Prop} {φ : List Emb} {w0 : World} {v : AV} {h' : Heap} (hd : Done P φ w0 v h' (execOp a.eval o) w) (hp : OpPost P φ w0 o.dst a K Q (.ret v h')) : opWp ρ P o a w K Q := by
  obtain ⟨nx, φ', w', hrun, ⟨v', hnx, hv⟩, hu, hR⟩ := hd
  refine wp_of_run hd0 ?_
  rw [hrun]
  rcases hnx with rfl | ⟨rfl, rfl⟩
  · exact hp φ' w' v' hu hR hv
  · exact hp φ' w' undef hu hR hv

theorem wp_panics {ρ : Option Nat} {P : Program} {o : Oper} (hd : ∀ c, o.op ≠ .defer c) {a : Act} {w : World} {K : Act → World → Prop} {Q : Exit → Act → World → Prop} {φ : List Emb} {h : Heap} {w0 : World} (hR : R P φ h w0 w) {x : AV} {x' : Value} (hx : V φ x x') {r : CRes} (hr : panA h x = some r)
    (hrun : execOp a.eval o = (do pure (.value (← Instr.panic x')))) (hp : OpPost P φ w0 o.dst a K Q r) : opWp ρ P o a w K Q := by
  unfold panA at hr
  split at hr
  · rename_i t v
    cases hr
    have hx2 := hx
    simp only [V] at hx2
    obtain ⟨y, rfl, _⟩ := hx2
    refine wp_of_run hd ?_
    rw [hrun]
    simp only [Sem.run_bind, Instr.panic, run_goPanic, Result.andThen_halt, Oper.uponIn_panic]
    exact hp φ w _ (Up.refl _) hR hx
  · cases hr

theorem bif_true {α : Type} {b : Bool} {x : Option α} {r : α} : ((bif b then x else none) = some r) = (b = true ∧ x = some r) := by cases b <;> simp
theorem toRet_some {x : Option (AV × Heap)} {r : CRes} (h : toRet x = some r) : ∃ v h', x = some (v, h') ∧ r = .ret v h' := by
  cases x with
  | none => simp [toRet] at h
  | some y => obtain ⟨v, h'⟩ := y; simp only [toRet, Option.some.injEq] at h; exact ⟨v, h', rfl, h.symm⟩

theorem arr_head {α : Type} (x : α) (B : Array α) : (#[x] ++ B)[0]? = some x := by
  rw [Array.getElem?_append_left (by simp)]; rfl
theorem arr_rest {α : Type} (x : α) (B : Array α) : (#[x] ++ B).extract 1 (#[x] ++ B).size = B := by
  obtain ⟨l⟩ := B
  simp

theorem opA_wp {ρ' : Option Nat} {P : Program} (_hF : Fns P) {call : CallF} (hcall : CallsOk P call) {φ : List Emb} {h : Heap} {w0 w : World} (hR : R P φ h w0 w) {env : List AV} {a : Act} (hρ : ∀ x, V φ (evalA P env x) (a.eval x)) {o : Oper} {r : CRes} (ho : opA call P env h o.op = some r)
    {K : Act → World → Prop} {Q : Exit → Act → World → Prop} (hp : OpPost P φ w0 o.dst a K Q r) : opWp ρ' P o a w K Q := by
  have hd : ∀ c, o.op ≠ .defer c := by
    intro c hc
    rw [hc] at ho
    cases ho
  have plain : ∀ v h', aop P env h o.op = some (v, h') → r = .ret v h' → opWp ρ' P o a w K Q := by
    intro v h' h1 hr
    subst hr
    exact wp_done hd (aop_run hR hρ h1) hp
  obtain ⟨dst, op, type, pos, after, guard⟩ := o
  simp only at ho plain hd
  unfold opA at ho
  split at ho
  · rename_i c
    obtain ⟨callee, args, argTypes⟩ := c
    cases callee with
    | builtin b =>
      simp only [biA] at ho
      split at ho
      · rename_i x hx
        have hv := evals_V hρ args.toList
        rw [hx] at hv
        simp only [Vs] at hv
        obtain ⟨y, ys, hys, hy, rfl⟩ := hv
        refine wp_panics hd hR hy ho ?_ hp
        rw [execOp_bi]
        have hm : args.map a.eval = #[y] := by
          apply Array.ext'
          simpa using hys
        simp only [builtin, hm]
        rfl
      · obtain ⟨v, h', h1, h2⟩ := toRet_some ho
        refine plain v h' ?_ h2
        simpa [aop] using h1
    | value f =>
      simp only at ho
      split at ho
      · rename_i g first captured hf
        rw [bif_true] at ho
        obtain ⟨hlt, ho⟩ := ho
        have hc : call g _ h = some r := ho
        have hfv := hρ f
        rw [hf] at hfv
        simp only [V] at hfv
        obtain ⟨x, y, hxy, hx, hy⟩ := hfv
        have hv := evals_V hρ args.toList
        have hall : Vs φ ((first ++ evals P env args.toList) ++ captured) ((x ++ args.map a.eval) ++ y).toList := by
          simp only [Array.toList_append, Array.toList_map]
          exact (hx.append hv).append hy
        have hgo := hcall g _ h r hc φ w0 w _ hR hall
        rw [if_pos ((blt_iff _ _).1 hlt)] at hgo
        refine wp_goes hd ?_ (hgo.mono fun e w' => KPost_of hp)
        rw [execOp_value, hxy]
        simp only [Deferred.ofValue, Sem.run_bind, Sem.run_pure, Result.andThen_ok, invoke]
      · rename_i k hf
        have hc : call (P.funcs.size + k) _ h = some r := ho
        have hfv := hρ f
        rw [hf] at hfv
        simp only [V] at hfv
        obtain ⟨e, he, hxy⟩ := hfv
        have hv := evals_V hρ args.toList
        have hgo := hcall _ _ h r hc φ w0 w (args.map a.eval) hR (by simpa using hv)
        rw [if_neg (Nat.not_lt.2 (Nat.le_add_right _ _)), Nat.add_sub_cancel_left] at hgo
        refine wp_goesY hd ?_ ((hgo e he).mono fun e w' => KPost_of hp)
        rw [execOp_value, hxy]
        simp only [Deferred.ofValue, Sem.run_bind, Sem.run_pure, Result.andThen_ok, invoke, Array.empty_append]
      · cases ho
    | invoke recv name =>
      simp only at ho
      split at ho
      · rename_i t v hrv
        split at ho
        · rename_i g u hg
          rw [bif_true] at ho
          obtain ⟨hlt, ho⟩ := ho
          have hc : call g _ h = some r := ho
          have hfv := hρ recv
          rw [hrv] at hfv
          simp only [V] at hfv
          obtain ⟨y, hy1, hy⟩ := hfv
          have hv := evals_V hρ args.toList
          obtain ⟨n, hn⟩ : ∃ n, P.types.size + Made.depth = n + 1 := ⟨P.types.size + Made.depth - 1, by have hdep : 0 < Made.depth := (by decide); omega⟩
          obtain ⟨z, hm, hz⟩ := recvM_run hR hg hy n
          rw [← hn] at hm
          have hall : Vs φ (u :: evals P env args.toList) (#[z] ++ args.map a.eval).toList := by
            simp only [Array.toList_append, Array.toList_map, List.singleton_append, Vs_cons]
            exact ⟨hz, hv⟩
          have hgo := hcall g _ h r hc φ w0 w _ hR hall
          rw [if_pos ((blt_iff _ _).1 hlt)] at hgo
          refine wp_goes hd ?_ (hgo.mono fun e w' => KPost_of hp)
          rw [execOp_invoke, hy1]
          have hx : (#[Value.iface t y] ++ args.map a.eval)[0]? = some (.iface t y) := arr_head _ _
          have hex : (#[Value.iface t y] ++ args.map a.eval).extract 1 (#[Value.iface t y] ++ args.map a.eval).size = args.map a.eval := arr_rest _ _
          simp only [invoke, hx, hex, callMethod, Sem.run_bind, run_program, Result.andThen_ok, hm]
        · cases ho
      · cases ho
  · rename_i x
    exact wp_panics hd hR (hρ x) ho (execOp_panic _ _ _ _ _ _ _) hp
  · obtain ⟨v, h', h1, h2⟩ := toRet_some ho
    exact plain v h' h1 h2
end Go.Am
