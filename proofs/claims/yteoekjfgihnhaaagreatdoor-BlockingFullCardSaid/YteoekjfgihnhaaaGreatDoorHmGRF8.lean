/- The abstract machine: composite values, parts, conversions, assertions. -/
import Derived.Test.YteoekjfgihnhaaaGreatDoorHmGRF7
set_option linter.all false
noncomputable section
namespace Go.Am
open Go.RowKit

/-! ### Composite values -/

def fillA (place : Nat → Option (Nat × Nat)) (cells : List AV) : List (Nat × AV) → Option (List AV)
  | [] => some cells
  | (i, v) :: rest =>
    match place i, cellsA v with
    | some (off, size), some cs => bif Nat.beq cs.length size && Nat.ble (off + size) cells.length then fillA place (over cells off cs) rest else none
    | _, _ => none

inductive Parts (φ : List Emb) : List (Nat × AV) → List (Nat × Value) → Prop where
  | nil : Parts φ [] []
  | cons {i : Nat} {a : AV} {v : Value} {as : List (Nat × AV)} {vs : List (Nat × Value)} : V φ a v → Parts φ as vs → Parts φ ((i, a) :: as) ((i, v) :: vs)

theorem fold_set (bs : List Value) (off : Nat) : ∀ (k : Nat) (cells : Array Value), off + k + bs.length ≤ cells.size →
    ((bs.zipIdx k).foldl (fun cs (x : Value × Nat) => cs.setIfInBounds (off + x.2) x.1) cells).toList = over cells.toList (off + k) bs := by
  induction bs with
  | nil => intro k cells _; simp [over_nil]
  | cons b bs ih =>
    intro k cells hl
    simp only [List.length_cons] at hl
    simp only [List.zipIdx_cons, List.foldl_cons]
    rw [ih (k + 1) _ (by simp; omega), over_cons _ _ _ _ (by simp; omega)]
    simp [Nat.add_assoc]

theorem fillA_run {φ : List Emb} {place : Nat → Option (Nat × Nat)} : ∀ {ps : List (Nat × AV)} {qs : List (Nat × Value)} {cells out : List AV} {C : Array Value}, fillA place cells ps = some out → Parts φ ps qs → Vs φ cells C.toList →
    ∃ D, Instr.fill place C qs = some D ∧ Vs φ out D.toList := by
  intro ps
  induction ps with
  | nil =>
    intro qs cells out C h hp hc
    cases hp
    simp only [fillA, Option.some.injEq] at h
    subst h
    exact ⟨C, rfl, hc⟩
  | cons p ps ih =>
    intro qs cells out C h hp hc
    cases hp with
    | cons hv hrest =>
      rename_i i a v vs
      simp only [fillA] at h
      split at h
      · rename_i off size cs hpl hcs
        cases hb : Nat.beq cs.length size && Nat.ble (off + size) cells.length with
        | false => simp [hb] at h
        | true =>
          simp only [hb, cond_true] at h
          rw [Bool.and_eq_true] at hb
          have h1 := Nat.eq_of_beq_eq_true hb.1
          have h2 := (ble_iff _ _).1 hb.2
          have hcells := cellsA_V hcs hv
          have hvl : v.cells.size = size := by rw [← Array.length_toList, hcells.length, h1]
          have hcl : C.size = cells.length := by rw [← Array.length_toList, hc.length]
          have hno : ¬ (v.cells.size ≠ size ∨ off + v.cells.size > C.size) := by omega
          simp only [Instr.fill, hpl]
          have hno' : (decide (v.cells.size ≠ size) || decide (off + v.cells.size > C.size)) = false := by
            rw [Bool.or_eq_false_iff, decide_eq_false_iff_not, decide_eq_false_iff_not]; omega
          rw [if_neg (by rw [hno']; simp)]
          refine ih h hrest ?_
          have hfold : (v.cells.zipIdx.foldl (fun cs (x : Value × Nat) => cs.setIfInBounds (off + x.2) x.1) C).toList = over C.toList off v.cells.toList := by
            have := fold_set v.cells.toList off 0 C (by simp; omega)
            rw [Nat.add_zero] at this
            rw [← this, ← Array.foldl_toList, Array.toList_zipIdx]
          rw [hfold]
          exact hc.over hcells off
      · cases h

def placesA (P : Program) : List Field → Option (List (Nat × Nat))
  | [] => some []
  | f :: fs => match P.info? f.type, placesA P fs with
    | some i, some ps => some ((f.offset, i.size) :: ps)
    | _, _ => none
theorem placesA_eq (P : Program) : ∀ fs : List Field, placesA P fs = fs.mapM (fun f => (P.info? f.type).map fun i => (f.offset, i.size))
  | [] => by simp [placesA]
  | f :: fs => by
    simp only [placesA, List.mapM_cons, ← placesA_eq P fs]
    cases P.info? f.type <;> cases placesA P fs <;> rfl

def nthPlace (l : List (Nat × Nat)) (i : Nat) : Option (Nat × Nat) := l[i]?

def buildA (P : Program) (t : TypeId) (parts : List (Nat × AV)) : Option AV :=
  match P.info? t, P.underlying t with
  | some it, some (.array _ e) =>
    match it.zero, P.info? e with
    | some z, some ie =>
      match ofValue z with
      | some za => (match cellsA za with
        | some zs => (match fillA (fun i => some (i * ie.size, ie.size)) zs parts with | some cs => some (.agg cs) | none => none)
        | none => none)
      | none => none
    | _, _ => none
  | some it, some (.struct fields) =>
    match it.zero, placesA P fields.toList with
    | some z, some places =>
      match ofValue z with
      | some za => (match cellsA za with
        | some zs => (match fillA (nthPlace places) zs parts with | some cs => some (.agg cs) | none => none)
        | none => none)
      | none => none
    | _, _ => none
  | _, _ => none

theorem buildA_run {P : Program} {φ : List Emb} {w : World} {t : TypeId} {ps : List (Nat × AV)} {r : AV} (h : buildA P t ps = some r) {qs : Array (Nat × Value)} (hp : Parts φ ps qs.toList) :
    ∃ r', (Instr.build t qs).run P w = .ok r' w ∧ V φ r r' := by
  have fin : ∀ D : Array Value, P.built t qs.toList = some D → ∀ cs, Vs φ cs D.toList → r = .agg cs → ∃ r', (Instr.build t qs).run P w = .ok r' w ∧ V φ r r' := by
    intro D hD cs hcs hr
    subst hr
    exact ⟨.agg D, run_build w t qs D hD, by simp only [V]; exact ⟨D, rfl, hcs⟩⟩
  unfold buildA at h
  split at h
  · rename_i it n e hit hu
    split at h
    · rename_i z ie hz hie
      split at h
      · rename_i za hza
        split at h
        · rename_i zs hzs
          split at h
          · rename_i cs hf
            cases h
            obtain ⟨D, hD, hcs⟩ := fillA_run hf hp (cellsA_V (v := z) hzs (ofValue_V hza))
            refine fin D ?_ cs hcs rfl
            simp only [Program.built, hit, hu, hz, hie]
            exact hD
          · cases h
        · cases h
      · cases h
    · cases h
  · rename_i it fields hit hu
    split at h
    · rename_i z places hz hpl
      split at h
      · rename_i za hza
        split at h
        · rename_i zs hzs
          split at h
          · rename_i cs hf
            cases h
            obtain ⟨D, hD, hcs⟩ := fillA_run hf hp (cellsA_V (v := z) hzs (ofValue_V hza))
            refine fin D ?_ cs hcs rfl
            rw [placesA_eq] at hpl
            simp only [Program.built, hit, hu, hz, hpl]
            have : (fun x => places.toArray[x]?) = nthPlace places := by funext x; simp [nthPlace]
            rw [this]
            exact hD
          · cases h
        · cases h
      · cases h
    · cases h
  · cases h

def buildSliceA (P : Program) (h : Heap) (t : TypeId) (len : Nat) (parts : List (Nat × AV)) : Option (AV × Heap) :=
  match P.underlying t with
  | some (.slice e) =>
    match P.info? e with
    | none => none
    | some i =>
      match i.zero with
      | none => none
      | some z =>
        bif Nat.beq z.cells.size i.size && Nat.ble 1 i.size && Nat.ble (len * i.size) 16777216 then
          match ofValue z with
          | some za => (match cellsA za with
            | some zs => (match fillA (fun j => some (j * i.size, i.size)) (rep zs len) parts with
              | some cs => some (.slice (some ⟨h.next, 0⟩) len (.exact len), h.alloc (.cells cs (.own (some e))))
              | none => none)
            | none => none)
          | none => none
        else none
  | _ => none

theorem buildSliceA_run {P : Program} {φ : List Emb} {h h' : Heap} {w0 w : World} (hR : R P φ h w0 w) {t : TypeId} {len : Nat} {ps : List (Nat × AV)} {r : AV} (hb : buildSliceA P h t len ps = some (r, h')) {qs : Array (Nat × Value)} (hp : Parts φ ps qs.toList) :
    ∃ r' φ' w', (Instr.buildSlice t len qs).run P w = .ok r' w' ∧ Up φ φ' ∧ R P φ' h' w0 w' ∧ V φ' r r' := by
  unfold buildSliceA at hb
  split at hb
  rotate_left
  · cases hb
  rename_i e hu
  split at hb
  · cases hb
  rename_i i hi
  split at hb
  · cases hb
  rename_i z hz
  cases hc : Nat.beq z.cells.size i.size && Nat.ble 1 i.size && Nat.ble (len * i.size) 16777216 with
  | false => simp [hc] at hb
  | true =>
  simp only [hc, cond_true] at hb
  rw [Bool.and_eq_true, Bool.and_eq_true] at hc
  have hzs := Nat.eq_of_beq_eq_true hc.1.1
  have hpos := (ble_iff _ _).1 hc.1.2
  have hsm := (ble_iff _ _).1 hc.2
  split at hb
  rotate_left
  · cases hb
  rename_i za hza
  split at hb
  rotate_left
  · cases hb
  rename_i zs hzc
  split at hb
  rotate_left
  · cases hb
  rename_i cs hf
  simp only [Option.some.injEq, Prod.mk.injEq] at hb
  obtain ⟨rfl, rfl⟩ := hb
  have hcells : Vs φ zs z.cells.toList := cellsA_V hzc (ofValue_V hza)
  have hzl : z.cells.toList.length = i.size := by simp [hzs]
  have hrep := rep_V hcells len
  have hml := made_toList z.cells (len * i.size) (by omega)
  rw [hzl] at hrep
  rw [Array.length_toList, hzs] at hml
  rw [← hml] at hrep
  obtain ⟨D, hD, hcs⟩ := fillA_run hf hp hrep
  refine ⟨.slice (some ⟨w.heap.size, 0, none⟩) len len, _, w.alloc (.cells D e), ?_, Up.snoc _ ⟨w.heap.size, 0, D.size⟩, alloc_cells hR (k := .own (some e)) (fr := (0, 0)) (t := e) (OwnOk.mk e _ _ _) (fun hk => by cases hk) rfl rfl rfl rfl ?_ ?_, ?_⟩
  · have hne : ¬ (2 ^ 24 < len * i.size) := by omega
    by_cases h0 : len * i.size = 0
    · have e1 : madeCells z.cells (len * i.size) = #[] := by rw [h0]; simp [madeCells]
      rw [e1] at hD
      simp [Instr.buildSlice, run_underlying hu, sizeOf, typeInfo, hi, h0, hD, newRow, Array.range_zero']
    · have hD' : Instr.fill (fun j => some (j * i.size, i.size)) ((Array.range (len * i.size)).map (z.cells[· % z.cells.size]!)) qs.toList = some D := hD
      simp [Instr.buildSlice, run_underlying hu, sizeOf, typeInfo, hi, h0, hne, hz, zeroValue, hD', newRow]
  · rw [← hcs.length]; simp
  · rw [← hcs.length, List.take_length]; exact hcs
  · exact V_slice (up_new hR _) rfl (Nat.le_refl _) rfl (.inl (by simp))

/-! ### Parts -/

def partA (P : Program) (t : TypeId) (cs : List AV) (off : Nat) : Option AV :=
  match aggA P t with
  | some true => (match sizeA P t with | some n => some (.agg ((cs.drop off).take n)) | none => none)
  | some false => cs[off]?
  | none => none
theorem partA_run {P : Program} {φ : List Emb} {w : World} {t : TypeId} {cs : List AV} {off : Nat} {r : AV} (h : partA P t cs off = some r) {C : Array Value} (hc : Vs φ cs C.toList) :
    ∃ r', (part t C off).run P w = .ok r' w ∧ V φ r r' := by
  unfold partA at h
  split at h
  · rename_i hagg
    split at h
    · rename_i n hn
      cases h
      refine ⟨.agg (C.extract off (off + n)), by simp [part, run_aggA hagg, run_sizeA hn], ?_⟩
      simp only [V]
      refine ⟨_, rfl, ?_⟩
      have : (C.extract off (off + n)).toList = (C.toList.drop off).take n := by simp
      rw [this]
      exact (hc.drop off).take n
    · cases h
  · rename_i hagg
    obtain ⟨v, hv, hh⟩ := hc.get off r h
    rw [Array.getElem?_toList] at hv
    exact ⟨v, by simp [part, run_aggA hagg, hv], hh⟩
  · cases h

def fieldA (P : Program) (t : TypeId) (x : AV) (f : Nat) : Option AV :=
  match P.underlying t, x with
  | some (.struct fields), .agg cs => (match fields[f]? with | some fl => partA P fl.type cs fl.offset | none => none)
  | _, _ => none
theorem fieldA_run {P : Program} {φ : List Emb} {w : World} {t : TypeId} {x r : AV} {f : Nat} (h : fieldA P t x f = some r) {x' : Value} (hx : V φ x x') : ∃ r', (Instr.field t x' f).run P w = .ok r' w ∧ V φ r r' := by
  unfold fieldA at h
  split at h
  · rename_i fields cs hu
    split at h
    · rename_i fl hf
      simp only [V] at hx
      obtain ⟨C, rfl, hc⟩ := hx
      obtain ⟨r', h1, h2⟩ := partA_run (w := w) h hc
      exact ⟨r', by simp [Instr.field, run_underlying hu, hf, asAgg, h1], h2⟩
    · cases h
  · cases h

def indexA (P : Program) (t : TypeId) (x i : AV) : Option AV :=
  match i with
  | .int _ n =>
    match P.underlying t, x with
    | some (.array len e), .agg cs => if 0 ≤ n ∧ n < (len : Int) then (match sizeA P e with | some s => partA P e cs (n.toNat * s) | none => none) else none
    | some .string, .str s => if 0 ≤ n then (match s[n.toNat]? with | some b => some (byteA b) | none => none) else none
    | _, _ => none
  | _ => none
theorem indexA_run {P : Program} {φ : List Emb} {w : World} {t : TypeId} {x i r : AV} (h : indexA P t x i = some r) {x' i' : Value} (hx : V φ x x') (hi : V φ i i') : ∃ r', (Instr.index t x' i').run P w = .ok r' w ∧ V φ r r' := by
  unfold indexA at h
  split at h
  · rename_i k n
    simp only [V] at hi
    subst hi
    split at h
    · rename_i len e cs hu
      split at h
      · rename_i hb
        split at h
        · rename_i s hs
          simp only [V] at hx
          obtain ⟨C, rfl, hc⟩ := hx
          obtain ⟨r', h1, h2⟩ := partA_run (w := w) h hc
          exact ⟨r', by simp [Instr.index, asIntOf, run_underlying hu, hb.1, hb.2, run_sizeA hs, h1], h2⟩
        · cases h
      · cases h
    · rename_i s hu
      split at h
      · rename_i hb
        split at h
        · rename_i b hbb
          cases h
          simp only [V] at hx
          subst hx
          refine ⟨.int .u8 b.toNat, ?_, by simp [byteA, V]⟩
          have hget : (⟨s.toArray⟩ : ByteArray)[n.toNat]? = some b := by
            obtain ⟨hlt, hv⟩ := List.getElem?_eq_some_iff.1 hbb
            have hlt' : n.toNat < (⟨s.toArray⟩ : ByteArray).size := by simpa [ByteArray.size] using hlt
            rw [getElem?_pos (⟨s.toArray⟩ : ByteArray) n.toNat hlt']
            congr 1
          simp [Instr.index, asIntOf, run_underlying hu, hb, hget]
        · cases h
      · cases h
    · cases h
  · cases h

def extractA (x : AV) (i : Nat) : Option AV :=
  match x with
  | .tuple vs => vs[i]?
  | _ => none
theorem extractA_run {P : Program} {φ : List Emb} {w : World} {x r : AV} {i : Nat} (h : extractA x i = some r) {x' : Value} (hx : V φ x x') : ∃ r', (Instr.extract x' i).run P w = .ok r' w ∧ V φ r r' := by
  unfold extractA at h
  split at h
  · simp only [V] at hx
    obtain ⟨C, rfl, hc⟩ := hx
    obtain ⟨v, hv, hh⟩ := hc.get i r h
    rw [Array.getElem?_toList] at hv
    exact ⟨v, by simp [Instr.extract, hv], hh⟩
  · cases h

/-! ### Slices of strings and arrays -/

def sliceA (P : Program) (t : TypeId) (x : AV) (lo hi mx : Option AV) : Option AV :=
  match P.underlying t, x with
  | some .string, .str s =>
    match mx with
    | some _ => none
    | none =>
      match boundA hi s.length s.length with
      | none => none
      | some h => (match boundA lo 0 h with | none => none | some l => some (.str ((s.drop l).take (h - l))))
  | some (.slice e), .slice l len c => sliceOf P e l len c lo hi mx
  | some (.array n e), .ptr (some l) =>
    match mx with
    | some _ => none
    | none =>
      match boundA hi n n, sizeA P e with
      | some h, some s => (match boundA lo 0 h with | none => none | some lo => some (.slice (some (bif Nat.beq n lo then l else locAdd l (lo * s))) (h - lo) (.exact (n - lo))))
      | _, _ => none
  | some (.pointer arr), .ptr (some l) =>
    match P.underlying arr, mx with
    | some (.array n e), none =>
      (match boundA hi n n, sizeA P e with
      | some h, some s => (match boundA lo 0 h with | none => none | some lo => some (.slice (some (bif Nat.beq n lo then l else locAdd l (lo * s))) (h - lo) (.exact (n - lo))))
      | _, _ => none)
    | _, _ => none
  | _, _ => none

theorem sliceA_run {P : Program} {φ : List Emb} {w : World} {t : TypeId} {x r : AV} {lo hi mx : Option AV} (h : sliceA P t x lo hi mx = some r) {x' : Value} (hx : V φ x x') {lo' hi' mx' : Option Value} (h1 : VO φ lo lo') (h2 : VO φ hi hi') (h3 : VO φ mx mx') :
    ∃ r', (Instr.sliceAt t x' lo' hi' mx').run P w = .ok r' w ∧ V φ r r' := by
  have arr : ∀ (em : Emb) (l : Loc) (n L H s : Nat), φ[l.id]? = some em → L ≤ H → H ≤ n → V φ (.slice (some (bif Nat.beq n L then l else locAdd l (L * s))) (H - L) (.exact (n - L)))
      (.slice (some (if n = L then ⟨em.blk, em.off + l.off, none⟩ else (⟨em.blk, em.off + l.off, none⟩ : Addr).add (L * s))) (H - L) (n - L)) := by
    intro em l n L H s he hL hH
    by_cases hml : n = L
    · subst hml
      simp only [beq1, decide_true, cond_true, if_true]
      exact V_slice he rfl (by omega) rfl (.inl rfl)
    · simp only [beq1, hml, decide_false, cond_false, if_false, Addr.add_lit]
      exact V_slice he rfl (by omega) rfl (.inl (by simp [locAdd, Nat.add_assoc]))
  unfold sliceA at h
  split at h
  · rename_i s hu
    split at h
    · cases h
    · simp only [VO] at h3
      subst h3
      split at h
      · cases h
      · rename_i H hH
        split at h
        · cases h
        · rename_i L hL
          cases h
          simp only [V] at hx
          subst hx
          have hb := bounds_run (P := P) (w := w) h1 h2 (mx := none) (mx' := none) rfl false (len := s.length) (cap := s.length) (m := s.length) (bm := 0) rfl (Nat.zero_le _) hH (fun _ => rfl) (Nat.le_refl _) hL (by simp)
          have hsz : (⟨s.toArray⟩ : ByteArray).size = s.length := by simp [ByteArray.size]
          refine ⟨.string ((⟨s.toArray⟩ : ByteArray).extract L H), by simp [Instr.sliceAt, Instr.slice, run_underlying hu, hsz, hb], ?_⟩
          simp only [V, Value.string.injEq]
          rw [Lib.extract_eq]
  · rename_i e l len c hu
    exact sliceOf_run hu h hx h1 h2 h3
  · rename_i n e l hu
    split at h
    · cases h
    · simp only [VO] at h3
      subst h3
      split at h
      · rename_i H s hH hs
        split at h
        · cases h
        · rename_i L hL
          cases h
          simp only [V] at hx
          obtain ⟨em, he, rfl⟩ := hx
          have hb := bounds_run (P := P) (w := w) h1 h2 (mx := none) (mx' := none) rfl false (len := n) (cap := n) (m := n) (bm := 0) rfl (Nat.zero_le _) hH (fun _ => rfl) (Nat.le_refl _) hL (by simp)
          exact ⟨_, by simp [Instr.sliceAt, run_underlying hu, Instr.sureAddr, hb, run_sizeA hs], arr em l n L H s he (boundA_le hL (Nat.zero_le _)) (boundA_le hH (Nat.le_refl _))⟩
      · cases h
  · rename_i ar l hu
    split at h
    · rename_i n e hu2
      simp only [VO] at h3
      subst h3
      split at h
      · rename_i H s hH hs
        split at h
        · cases h
        · rename_i L hL
          cases h
          simp only [V] at hx
          obtain ⟨em, he, rfl⟩ := hx
          have hb := bounds_run (P := P) (w := w) h1 h2 (mx := none) (mx' := none) rfl false (len := n) (cap := n) (m := n) (bm := 0) rfl (Nat.zero_le _) hH (fun _ => rfl) (Nat.le_refl _) hL (by simp)
          exact ⟨_, by simp [Instr.sliceAt, Instr.slice, run_underlying hu, run_underlying hu2, asAddr, hb, run_sizeA hs], arr em l n L H s he (boundA_le hL (Nat.zero_le _)) (boundA_le hH (Nat.le_refl _))⟩
      · cases h
    · cases h
  · cases h
end Go.Am
