/- The abstract machine's append, copy, make. -/
import Derived.Test.YtnllflgijnloiaaAmSlices
namespace Go.Am
open Go.RowKit

def byteA (b : UInt8) : AV := .int .u8 b.toNat
theorem bytesA_V {φ : List Emb} : ∀ (s : List UInt8), Vs φ (s.map byteA) (s.map fun b => Value.int .u8 b.toNat)
  | [] => by simp [Vs]
  | b :: s => by simp only [List.map_cons, Vs_cons]; exact ⟨by simp [byteA, V], bytesA_V s⟩

/-- What an append or a copy takes: how many elements, which cells. -/
def srcA (P : Program) (h : Heap) (size : Nat) (tx : TypeId) (x : AV) : Option (Nat × List AV) :=
  match P.underlying tx, x with
  | some (.slice _), .slice none _ _ => some (0, [])
  | some (.slice _), .slice (some l) n _ =>
    (match n with
    | 0 => some (0, [])
    | n + 1 => (match readA h l ((n + 1) * size) with
      | some xs => bif cellsOk xs then some (n + 1, xs) else none
      | none => none))
  | some .string, .str s => bif Nat.beq size 1 then some (s.length, s.map byteA) else none
  | _, _ => none

theorem srcA_src {P : Program} {φ : List Emb} {h : Heap} {w0 w : World} (hR : R P φ h w0 w) {size : Nat} {tx : TypeId} {x : AV} {n : Nat} {xs : List AV} (hs : srcA P h size tx x = some (n, xs)) {x' : Value} (hx : V φ x x') :
    ∃ news, Vs φ xs news ∧ Src P size tx x' n news w := by
  unfold srcA at hs
  split at hs
  · rename_i e hu
    cases hs
    simp only [V] at hx
    obtain ⟨rfl, rfl, _⟩ := hx
    exact ⟨[], by simp [Vs], Src.ofNil w hu 0⟩
  · rename_i e l m c hu
    simp only [V] at hx
    obtain ⟨em, cap, a, he, rfl, hc, hcap, ha⟩ := hx
    split at hs
    · cases hs
      exact ⟨[], by simp [Vs], Src.ofSlice w hu a 0 cap [] (by simp) (by simp) (by simp)⟩
    · rename_i m
      split at hs
      · rename_i ys hr
        cases hok : cellsOk ys with
        | false => simp [hok] at hs
        | true =>
          simp only [hok, cond_true, Option.some.injEq, Prod.mk.injEq] at hs
          obtain ⟨rfl, rfl⟩ := hs
          obtain ⟨e', vs, he', hv, hlen, hcell⟩ := read_cells hR hr
          rw [he] at he'; cases he'
          have ha' : a = ⟨em.blk, em.off + l.off, none⟩ := ha.resolve_right fun hh => by have := hh.1; omega
          subst ha'
          exact ⟨vs, hv, Src.ofSlice w hu _ (m + 1) cap vs hlen hcell (cellsOk_one hok hv)⟩
      · cases hs
  · rename_i s hu
    simp only [V] at hx
    subst hx
    cases hb : Nat.beq size 1 with
    | false => simp [hb] at hs
    | true =>
      have := Nat.eq_of_beq_eq_true hb
      subst this
      simp only [hb, cond_true, Option.some.injEq, Prod.mk.injEq] at hs
      obtain ⟨rfl, rfl⟩ := hs
      have := Src.ofString (P := P) w hu ⟨s.toArray⟩
      simp only [byteCells] at this
      exact ⟨_, bytesA_V s, by simpa [ByteArray.size] using this⟩
  · cases hs

def roomA (P : Program) (e : TypeId) (need : Nat) : Bool :=
  match P.info? e with
  | some i => Nat.ble (need * i.bytes) 140737488355328 && Nat.ble need 9223372036854775807 && (match i.zero with | some z => Nat.beq z.cells.size i.size | none => false) && Nat.ble 1 i.size
  | none => false

def appendA (P : Program) (h : Heap) (ts tx : TypeId) (s x : AV) : Option (AV × Heap) :=
  match P.underlying ts with
  | some (.slice e) =>
    match sizeA P e with
    | none => none
    | some size =>
      match srcA P h size tx x with
      | none => none
      | some (n, news) =>
        match s with
        | .slice l len c =>
          match n with
          | 0 => some (.slice l len c, h)
          | _ + 1 =>
            bif roomA P e (len + n) then
              match l with
              | none => some (.slice (some ⟨h.next, 0⟩) (len + n) (.tip size), h.alloc (.cells news .own))
              | some l =>
                match c with
                | .exact cap =>
                  bif Nat.ble (len + n) cap then
                    (match writeA h (locAdd l (len * size)) news with | some h' => some (.slice (some l) (len + n) (.exact cap), h') | none => none)
                  else
                    (match readA h l (len * size) with | some olds => some (.slice (some ⟨h.next, 0⟩) (len + n) (.tip size), h.alloc (.cells (olds ++ news) .own)) | none => none)
                | .tip e' =>
                  bif Nat.beq e' size then
                    match h.get l.id with
                    | some (.cells cs k) =>
                      bif Nat.ble (l.off + (len + n) * size) cs.length then
                        (match writeA h (locAdd l (len * size)) news with | some h' => some (.slice (some l) (len + n) (.tip size), h') | none => none)
                      else bif Nat.beq (l.off + len * size) cs.length && cellsOk news then
                        (match k with
                        | .ro => none
                        | _ => some (.slice (some ⟨h.next, 0⟩) (len + n) (.tip size), (h.del l.id).alloc (.cells (cs.drop l.off ++ news) k)))
                      else none
                    | _ => none
                  else none
                | .dim => none
            else none
        | _ => none
  | _ => none

theorem up_new {φ : List Emb} {h : Heap} {P : Program} {w0 w : World} (hR : R P φ h w0 w) (e : Emb) : (φ ++ [e])[h.next]? = some e := by
  rw [← hR.len]; simp

theorem zeroCells_size (z : Array Value) (n : Nat) : (Builtin.zeroCells z n).size = n * z.size := by simp [Builtin.zeroCells]

theorem appendA_run {P : Program} {φ : List Emb} {h h' : Heap} {w0 w : World} (hR : R P φ h w0 w) {ts tx ty : TypeId} {s x r : AV} (ha : appendA P h ts tx s x = some (r, h')) {s' x' : Value} (hs : V φ s s') (hx : V φ x x') :
    ∃ r' φ' w', (Builtin.append_ #[ts, tx] ty #[s', x']).run P w = .ok r' w' ∧ Up φ φ' ∧ R P φ' h' w0 w' ∧ V φ' r r' := by
  unfold appendA at ha
  split at ha
  rotate_left
  · cases ha
  rename_i e hu
  split at ha
  · cases ha
  rename_i size hsz
  have hinfo : ∃ i, P.info? e = some i ∧ i.size = size := by
    unfold sizeA at hsz
    split at hsz
    · rename_i i hi; cases hsz; exact ⟨i, hi, rfl⟩
    · cases hsz
  obtain ⟨i, hi, rfl⟩ := hinfo
  split at ha
  · cases ha
  rename_i n news hsrc
  obtain ⟨nv, hnv, hS⟩ := srcA_src hR hsrc hx
  split at ha
  rotate_left
  · cases ha
  rename_i l len c
  split at ha
  · -- nothing is appended
    cases ha
    have hn0 : nv = [] := List.eq_nil_of_length_eq_zero (by have := hS.newsLen; simpa using this)
    subst hn0
    refine ⟨s', φ, w, ?_, Up.refl _, hR, hs⟩
    cases l with
    | none =>
      simp only [V] at hs
      obtain ⟨rfl, rfl, _⟩ := hs
      rcases hS.kind with ⟨e', hk⟩ | hk <;> simp [Builtin.append_, run_underlying hu, run_underlying hk, sizeOf, typeInfo, hi, hS.len, hS.cells]
    | some l =>
      simp only [V] at hs
      obtain ⟨em, cap, a, he, rfl, hc, hcap, ha⟩ := hs
      have hle : len + 0 ≤ cap := hc
      rcases hS.kind with ⟨e', hk⟩ | hk <;> simp [Builtin.append_, run_underlying hu, run_underlying hk, sizeOf, typeInfo, hi, hS.len, hS.cells, hc, storeCells]
  rename_i n
  cases hroom : roomA P e (len + (n + 1)) with
  | false => simp [hroom] at ha
  | true =>
  simp only [hroom, cond_true] at ha
  simp only [roomA, hi, Bool.and_eq_true, ble_iff] at hroom
  obtain ⟨⟨⟨hb, h63⟩, hz⟩, hpos⟩ := hroom
  have hz' : ∃ z, i.zero = some z ∧ z.cells.size = i.size := by
    split at hz
    · rename_i z hzz; exact ⟨z, hzz, Nat.eq_of_beq_eq_true hz⟩
    · cases hz
  obtain ⟨z, hz, hzs⟩ := hz'
  have hnl : nv.length = (n + 1) * i.size := hS.newsLen
  have hfit : ∀ cap, cap < len + (n + 1) → Builtin.nextslicecap (len + (n + 1)) cap * i.bytes ≤ 281474976710656 := fun cap hcap => growslice_fits hcap hb
  -- the arm that makes a new row
  have grow : ∀ (base : Option Addr) (cap : Nat) (ol : List AV) (olds : List Value), Vs φ ol olds → olds.length = len * i.size → (Builtin.firstCells i.size len (.slice base len cap)).run P w.drew = .ok olds.toArray w.drew → cap < len + (n + 1) →
      ∃ r' w', (Builtin.append_ #[ts, tx] ty #[.slice base len cap, x']).run P w = .ok r' w' ∧
        w'.heap = w.heap.push (.cells ((olds ++ nv).toArray ++ Builtin.zeroCells z.cells (grownCap w (len + (n + 1)) cap e - (len + (n + 1)))) e (0, 0)) ∧ w'.os = w.os ∧ w'.tape = w.tape ∧ w'.output = w.output ∧
        r' = .slice (some ⟨w.heap.size, 0, none⟩) (len + (n + 1)) (grownCap w (len + (n + 1)) cap e) ∧
        ((olds ++ nv).toArray ++ Builtin.zeroCells z.cells (grownCap w (len + (n + 1)) cap e - (len + (n + 1)))).size = grownCap w (len + (n + 1)) cap e * i.size ∧ len + (n + 1) ≤ grownCap w (len + (n + 1)) cap e := by
    intro base cap ol olds hol hollen hfirst hcap
    have hr := run_append_grow_src (P := P) w ts tx ty e i z hu hi hz base len cap olds hfirst x' (n + 1) nv hS hcap (by omega) (hfit cap hcap)
    refine ⟨_, _, hr, rfl, rfl, rfl, rfl, rfl, ?_, grownCap_ge _ _ _ _⟩
    have hge := grownCap_ge w (len + (n + 1)) cap e
    simp only [Array.size_append, List.size_toArray, List.length_append, zeroCells_size, hzs, hollen, hnl, ← Nat.add_mul]
    congr 1
    omega
  split at ha
  · -- onto nil
    simp only [V] at hs
    obtain ⟨rfl, rfl, _⟩ := hs
    cases ha
    obtain ⟨r', w', hrun, hh, ho, ht, hout, rfl, hsize, hge⟩ := grow none 0 [] [] (by simp [Vs]) (by simp) (run_firstCells_none w.drew i.size 0 0 0) (by omega)
    refine ⟨_, _, w', hrun, Up.snoc _ _, alloc_cells hR (k := .own) (fun _ => rfl) (fun hk => by cases hk) hh ho ht hout ?_ ?_, ?_⟩
    · rw [← hnv.length]; simp
    · rw [← hnv.length]; simpa using hnv
    · refine V_slice (up_new hR _) rfl hge ⟨hpos, ?_⟩ (.inl (by simp))
      rw [Nat.zero_add]
      exact hsize.symm
  · rename_i l
    have hs0 := hs
    simp only [V] at hs
    obtain ⟨em, cap, a, he, rfl, hc, hcap, haddr⟩ := hs
    split at ha
    · -- the capacity is known
      rename_i k
      simp only [CapOk] at hcap
      subst hcap
      have ha' : a = ⟨em.blk, em.off + l.off, none⟩ := haddr.resolve_right fun hx => by cases hx.2
      subst ha'
      cases hble : Nat.ble (len + (n + 1)) cap with
      | true =>
        simp only [hble, cond_true] at ha
        split at ha
        · rename_i h2 hw
          cases ha
          obtain ⟨e2, w', he2, hst, hR', hw', hc1, hc2, hone⟩ := write_run hR hw hnv
          simp only [locAdd] at he2
          rw [he] at he2; cases he2
          have hr := run_append_room_src (P := P) w ts tx ty e i hu hi em.blk (em.off + l.off) len cap x' (n + 1) nv hS ((ble_iff _ _).1 hble)
            (by simpa [locAdd, Nat.add_assoc] using hc1) (by simpa [locAdd, Nat.add_assoc] using hc2)
          refine ⟨_, φ, _, hr, Up.refl _, ?_, V_slice he rfl ((ble_iff _ _).1 hble) rfl (.inl rfl)⟩
          have : em.off + l.off + len * i.size = em.off + (locAdd l (len * i.size)).off := by simp [locAdd, Nat.add_assoc]
          rw [this, ← hw']
          exact hR'
        · cases ha
      | false =>
        have hlt : cap < len + (n + 1) := by
          rcases Nat.lt_or_ge cap (len + (n + 1)) with h | h
          · exact h
          · rw [(ble_iff _ _).2 h] at hble; cases hble
        simp only [hble, cond_false] at ha
        split at ha
        · rename_i olds hrd
          cases ha
          obtain ⟨e2, ov, he2, hov, hlen, hcell⟩ := read_cells hR hrd
          rw [he] at he2; cases he2
          obtain ⟨r', w', hrun, hh, ho, ht, hout, rfl, hsize, hge⟩ := grow (some ⟨em.blk, em.off + l.off, none⟩) cap olds ov hov hlen (run_firstCells_some w.drew i.size len _ len cap ov hlen (by simpa using hcell)) hlt
          have hboth := hov.append hnv
          refine ⟨_, _, w', hrun, Up.snoc _ _, alloc_cells hR (k := .own) (fun _ => rfl) (fun hk => by cases hk) hh ho ht hout ?_ ?_, ?_⟩
          · rw [← hboth.length]; simp
          · rw [← hboth.length]
            simp only [Array.toList_append]
            rw [List.take_left]
            exact hboth
          · refine V_slice (up_new hR _) rfl hge ⟨hpos, ?_⟩ (.inl (by simp))
            rw [Nat.zero_add]
            exact hsize.symm
        · cases ha
    · -- the block's end
      rename_i e'
      have ha' : a = ⟨em.blk, em.off + l.off, none⟩ := haddr.resolve_right fun hx => by cases hx.2
      subst ha'
      cases hee : Nat.beq e' i.size with
      | false => simp [hee] at ha
      | true =>
      have := Nat.eq_of_beq_eq_true hee
      subst this
      simp only [hee, cond_true] at ha
      simp only [CapOk] at hcap
      split at ha
      · rename_i cs k hg
        obtain ⟨e2, he2, ⟨C, t, fr, h1, h2, h3, h4, h5, h6⟩, hown⟩ := hR.objs _ _ hg
        rw [he] at he2; cases he2
        cases hin : Nat.ble (l.off + (len + (n + 1)) * i.size) cs.length with
        | true =>
          simp only [hin, cond_true] at ha
          split at ha
          · rename_i h2' hw
            cases ha
            obtain ⟨e2, w', he2, hst, hR', hw', hc1, hc2, hone⟩ := write_run hR hw hnv
            simp only [locAdd] at he2
            rw [he] at he2; cases he2
            have hcap2 : len + (n + 1) ≤ cap := by
              have := (ble_iff _ _).1 hin
              have h7 : (len + (n + 1)) * i.size ≤ cap * i.size := by omega
              exact Nat.le_of_mul_le_mul_right h7 (by omega)
            have hr := run_append_room_src (P := P) w ts tx ty e i hu hi em.blk (em.off + l.off) len cap x' (n + 1) nv hS hcap2
              (by simpa [locAdd, Nat.add_assoc] using hc1) (by simpa [locAdd, Nat.add_assoc] using hc2)
            refine ⟨_, φ, _, hr, Up.refl _, ?_, V_slice he rfl hcap2 hcap (.inl rfl)⟩
            have : em.off + l.off + len * i.size = em.off + (locAdd l (len * i.size)).off := by simp [locAdd, Nat.add_assoc]
            rw [this, ← hw']
            exact hR'
          · cases ha
        | false =>
          simp only [hin, cond_false] at ha
          cases htip : Nat.beq (l.off + len * i.size) cs.length && cellsOk news with
          | false => simp [htip] at ha
          | true =>
          simp only [htip, cond_true] at ha
          rw [Bool.and_eq_true] at htip
          have hend := Nat.eq_of_beq_eq_true htip.1
          have hok := htip.2
          have hkro : k ≠ .ro := by intro hk; subst hk; simp at ha
          have ha2 : r = .slice (some ⟨h.next, 0⟩) (len + (n + 1)) (.tip i.size) ∧ h' = (h.del l.id).alloc (.cells (cs.drop l.off ++ news) k) := by
            cases k with
            | ro => exact absurd rfl hkro
            | own => simp only [Option.some.injEq, Prod.mk.injEq] at ha; exact ⟨ha.1.symm, ha.2.symm⟩
            | str => simp only [Option.some.injEq, Prod.mk.injEq] at ha; exact ⟨ha.1.symm, ha.2.symm⟩
          obtain ⟨rfl, rfl⟩ := ha2
          have hdl : (cs.drop l.off).length = len * i.size := by simp; omega
          have hrd : readA h l (len * i.size) = some (cs.drop l.off) := by
            unfold readA
            rw [hg]
            simp only
            rw [(ble_iff _ _).2 (by omega)]
            simp only [cond_true, Option.some.injEq]
            rw [← hdl, List.take_length]
          obtain ⟨e2, ov, he2, hov, hlen, hcell⟩ := read_cells hR hrd
          rw [he] at he2; cases he2
          have hboth := hov.append hnv
          have hRd := R.del hR l.id
          have hbase : w0.heap.size ≤ em.blk := hown (by cases k <;> first | rfl | exact absurd rfl hkro)
          have hth : Thawed fr C.size := by
            cases k with
            | own => rw [h4 rfl]; exact Thawed.zero _
            | str => exact h5 rfl
            | ro => exact absurd rfl hkro
          by_cases hcl : len + (n + 1) ≤ cap
          · -- in place
            have htot : l.off + (len + (n + 1)) * i.size ≤ em.tot := by
              have := Nat.mul_le_mul_right i.size hcl
              omega
            have hexp : (len + (n + 1)) * i.size = len * i.size + (n + 1) * i.size := Nat.add_mul _ _ _
            have hc1 : ∀ j, j < nv.length → (w.cell? ⟨em.blk, em.off + l.off + len * i.size + j, none⟩).isSome = true := by
              intro j hj
              simp only [World.cell?, h1, Option.isSome_none, Bool.false_eq_true, if_false]
              rw [Array.getElem?_eq_getElem (by omega)]
              rfl
            have hc2 : ∀ j, j < nv.length → w.frozen? ⟨em.blk, em.off + l.off + len * i.size + j, none⟩ = false := by
              intro j hj
              have := hth (em.off + l.off + len * i.size + j) (by omega)
              simp only [World.frozen?, h1]
              rw [← Bool.not_eq_true, Bool.and_eq_true, decide_eq_true_eq, decide_eq_true_eq]
              exact this
            have hr := run_append_room_src (P := P) w ts tx ty e i hu hi em.blk (em.off + l.off) len cap x' (n + 1) nv hS hcl hc1 hc2
            obtain ⟨r1, r2, r3, r4, r5⟩ := setCells_rest em.blk nv (em.off + l.off + len * i.size) w
            have hblk := setCells_block em.blk t fr nv (em.off + l.off + len * i.size) w C h1 (by omega)
            have hol : (over C.toList (em.off + l.off + len * i.size) nv).length = C.toList.length := over_length _ _ _ (by simp; omega)
            refine ⟨_, φ ++ [⟨em.blk, em.off + l.off, em.tot - l.off⟩], _, hr, Up.snoc _ _, ?_, ?_⟩
            · refine R.allocAt hRd _ ⟨em.blk, em.off + l.off, em.tot - l.off⟩ ?_ hbase (fun k hk _ => r1 k hk) (by rw [r2]; exact Nat.le_refl _) r3 r4 r5 ⟨_, t, fr, hblk, ?_, ?_, h4, ?_, ?_⟩
              · intro j oj ej hj hej
                by_cases hjl : l.id = j
                · subst hjl; rw [Heap.get_del] at hj; cases hj
                · rw [Heap.get_del_ne _ hjl] at hj
                  exact Ne.symm (hR.sep l.id j _ oj em ej hjl hg hj he hej (by cases k <;> first | rfl | exact absurd rfl hkro))
              · simp [hol]; omega
              · simp only [List.length_append, hdl]
                have := hnv.length
                omega
              · intro hks; simpa [hol] using hth
              · refine Vs.up (Up.snoc _ _) _ _ ?_
                have e1 : ((over C.toList (em.off + l.off + len * i.size) nv).toArray.toList.drop (em.off + l.off)).take (cs.drop l.off ++ news).length = ov ++ nv := by
                  have hovl : ov = ((C.toList.drop em.off).take cs.length).drop l.off := by
                    apply List.ext_getElem?
                    intro j
                    by_cases hj : j < ov.length
                    · have := hcell j ov[j] (by simp)
                      rw [Addr.add_lit] at this
                      simp only [World.cell?, h1, Option.isSome_none, Bool.false_eq_true, if_false] at this
                      rw [List.getElem?_eq_getElem hj, ← this, List.getElem?_drop, List.getElem?_take, if_pos (by omega), List.getElem?_drop, Array.getElem?_toList]
                      congr 1
                      omega
                    · rw [List.getElem?_eq_none (by omega), List.getElem?_eq_none]
                      simp
                      omega
                  rw [hovl, List.toList_toArray, List.length_append, hdl, ← hnv.length]
                  apply List.ext_getElem?
                  intro j
                  simp only [over, List.append_assoc, List.getElem?_take, List.getElem?_drop, List.getElem?_append, List.length_take, List.length_drop, Array.length_toList]
                  repeat' split
                  all_goals first
                    | rfl
                    | omega
                    | (congr 1; omega)
                    | (symm; apply List.getElem?_eq_none; omega)
                    | (apply List.getElem?_eq_none; omega)
                    | (symm; apply List.getElem?_eq_none; simp; omega)
                    | (apply List.getElem?_eq_none; simp; omega)
                rw [e1]
                exact hboth
            · refine V_slice (e := ⟨em.blk, em.off + l.off, em.tot - l.off⟩) (up_new hRd _) rfl hcl ⟨hcap.1, ?_⟩ (.inl (by simp))
              simp only [Nat.zero_add]
              omega
          · -- a new row
            obtain ⟨r', w', hrun, hh, ho, ht, hout, rfl, hsize, hge⟩ := grow (some ⟨em.blk, em.off + l.off, none⟩) cap _ ov hov hlen (run_firstCells_some w.drew i.size len _ len cap ov hlen (by simpa using hcell)) (by omega)
            refine ⟨_, _, w', hrun, Up.snoc _ _, alloc_cells hRd (k := k) (fun _ => rfl) (fun _ => Thawed.zero _) hh ho ht hout ?_ ?_, ?_⟩
            · rw [← hboth.length]; simp
            · rw [← hboth.length]
              simp only [Array.toList_append]
              rw [List.take_left]
              exact hboth
            · refine V_slice (up_new hRd _) rfl hge ⟨hpos, ?_⟩ (.inl (by simp))
              rw [Nat.zero_add]
              exact hsize.symm
      · cases ha
    · cases ha
end Go.Am
