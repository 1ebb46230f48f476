/- The helpers of the node's laws: of, entries, large, nodes, reply, Same, Texts, Alike. Conditions: those that each names. -/
import Derived.Test.YtpaioaljopjpkaaGreatDoorNodeO
set_option linter.unusedVariables false
set_option linter.unusedSimpArgs false
namespace Go.Proofs.YtpaioaljopjpkaaGreatDoor
open Go.RowKit

def ofI (n : Int) : Nat := ((n.tmod 3 + 3).tmod 3).toNat
theorem ofI_lt (n : Int) : ofI n < 3 := by
  unfold ofI
  have := Int.tmod_lt_of_pos (n.tmod 3 + 3) (b := 3) (by decide)
  omega
theorem ofI_eq (n : Int) : (n.tmod 3 + 3).tmod 3 = (ofI n : Int) := by
  unfold ofI
  have h1 : -3 < n.tmod 3 := Int.lt_tmod_of_pos n (by decide)
  have := Int.tmod_nonneg 3 (show 0 ≤ n.tmod 3 + 3 by omega)
  omega
set_option maxRecDepth 100000 in
theorem of3_calls (n : Int) (w : World) : Calls Tryz.prog 20 #[.int .i64 n] w fun e w' => e = .returned (.int .i64 (ofI n)) ∧ w = w' := by
  have h1 : -3 < n.tmod 3 := Int.lt_tmod_of_pos n (by decide)
  have h2 : n.tmod 3 < 3 := Int.tmod_lt_of_pos n (by decide)
  have h3 := ofI_eq n
  have H3 := Lib.hid h3
  clear h3
  go_enter Tryz.func20, Tryz.ntmps20
  go_wp2
  go_ret
  refine ⟨?_, rfl⟩
  show Ending.returned (.int .i64 ((n.tmod 3 + 3) % 3)) = _
  rw [← H3.out, Int.tmod_eq_emod_of_nonneg (a := n.tmod 3 + 3) (by omega)]

theorem Tryz.info39 : (Tryz.prog.info? 39).map (fun i => (i.zero, i.size, i.bytes)) = some (some (.agg #[.int .u64 0, .string ⟨#[]⟩]), 2, 24) := by kernel_rfl
theorem info39_parts : ∃ i0, Tryz.prog.info? 39 = some i0 ∧ i0.zero = some (.agg #[.int .u64 0, .string ⟨#[]⟩]) ∧ i0.size = 2 ∧ i0.bytes = 24 := by
  obtain ⟨i0, h, h2⟩ := Option.map_eq_some_iff.1 Tryz.info39
  simp only [Prod.mk.injEq] at h2
  exact ⟨i0, h, h2⟩
def EntPost (w : World) (l : List En) (e : Ending) (w' : World) : Prop := ∃ v', e = .returned v' ∧ w'.ownsRow w.heap.size 39 2 v' l.length (enCells l) ∧ Below w.heap.size w w'
set_option maxRecDepth 100000 in
set_option maxHeartbeats 2000000 in
theorem entries_calls (v : Value) (l : List En) (w : World) (hv : RowAt w v l.length (enCells l)) (hl : l.length ≤ 1000) : Calls Tryz.prog 23 #[v] w (EntPost w l) := by
  obtain ⟨i0, hinfo, hz0, hz1, hz2⟩ := info39_parts
  obtain ⟨av, cv, hve, hvn, hvm, _⟩ := id hv
  have HV := Lib.hid hv
  have HE := Lib.hid hve
  have h0 : Hid ((w.alloc (.cells #[] 39)).ownsRow w.heap.size 39 2 (.slice (some ⟨w.heap.size, 0, none⟩) 0 0) 0 []) := World.ownsRow_made w #[] 0 (Nat.le_refl _) (Nat.zero_le _) rfl
  rw [hve]
  unfold maxLen at hvm
  clear hv hve
  go_enter Tryz.func23, Tryz.ntmps23
  go_wp2
  go_loopg [3, 9] l.length (fun n v0 vi wr => ∃ k : Nat, n + k = l.length ∧ vi = .int .i64 k ∧ wr.ownsRow w.heap.size 39 2 v0 k (enCells (l.take k)) ∧ Below w.heap.size w wr)
  case atStart => exact ⟨0, by omega, rfl, h0.out, (Below.refl _ _).alloc (Nat.le_refl _) _⟩
  case round =>
    obtain ⟨k, hk, rfl, hon, hbw⟩ := hrel
    by_cases hlt : k < l.length
    · obtain ⟨t, htk⟩ : ∃ t, l[k]? = some t := ⟨l[k], List.getElem?_eq_getElem hlt⟩
      obtain ⟨g, off, cp, hve2, hc1, hc2, hg1, hcell⟩ := RowAt.cells HV.out (by omega)
      have q0 := hcell _ _ (enCells_at l k t htk).1
      have q1 := hcell _ _ (enCells_at l k t htk).2
      rw [← Nat.add_assoc] at q1
      have ev := HE.out.symm.trans hve2
      cases ev
      have r0 := (hbw.cell (p := ⟨g, off + k * 2, none⟩) hg1).trans q0
      have r1 := (hbw.cell (p := ⟨g, off + k * 2 + 1, none⟩) hg1).trans q1
      have HTK := Lib.hid htk
      have HO := Lib.hid hon
      have HBW := Lib.hid hbw
      clear hcell q0 q1 htk hon hbw hc1 hc2 hve2
      go_wp2_with (at_builtin; go_must (refine wpList_append_own_at _ rfl _ _ 36 rfl w.heap.size 39 i0 _ 2 24 Tryz.underlying36 hinfo hz0 hz1 hz2 rfl (by decide) _ _ _ rfl ((HO.out.alloc _).alloc _) ⟨wr.heap.size + 1, 0, none⟩ 1 1 [.int .u64 (t.1 : Int), .string (ba t.2)] rfl rfl (new_two _ _ _ _ _ (by simp)) en_one (by unfold maxLen; omega) (by omega) (by have := HBW.out.size; simp; omega) ?_; intro v' w2 hown2 hg _ _; have hbig := (HBW.out.alloc HBW.out.size (.cells #[.int .u64 (t.1 : Int), .string (ba t.2)] 73)).alloc (by have := HBW.out.size; simp; omega) (.cells #[.int .u64 (t.1 : Int), .string (ba t.2)] 39)))
      have HB2 := Lib.hid (hbig.grown hg (by have := HBW.out.size; simp; omega) (fun k hk => (HO.out.lt k hk).1))
      have HO2 := Lib.hid hown2
      clear hbig hg hown2
      go_roundg (l.length - (k + 1))
      case measure => omega
      case rel =>
        refine ⟨k + 1, by omega, by go_num, ?_, HB2.out⟩
        have e : enCells (l.take (k + 1)) = enCells (l.take k) ++ [.int .u64 (t.1 : Int), .string (ba t.2)] := by rw [List.take_add_one, HTK.out, enCells_append]; rfl
        rw [e]
        exact HO2.out
    · obtain rfl : k = l.length := by omega
      rw [List.take_length] at hon
      have HO := Lib.hid hon
      have HBW := Lib.hid hbw
      clear hon hbw
      go_wp2
      go_ret
      exact ⟨_, rfl, HO.out, HBW.out⟩

set_option maxRecDepth 100000 in
set_option maxHeartbeats 2000000 in
theorem same_calls (u v : Value) (l : List En) (w : World) (hu : RowAt w u l.length (enCells l)) (hv : RowAt w v l.length (enCells l)) (hl : l.length ≤ 1000) : Calls Tryz.prog 22 #[u, v] w fun e w' => e = .returned (.bool true) ∧ Below w.heap.size w w' := by
  have mixed : Tryz.prog.follows Departure.mixedOrders = true := by kernel_rfl
  obtain ⟨au, cu, hue, hun, hum, _⟩ := id hu
  obtain ⟨av, cv, hve, hvn, hvm, _⟩ := id hv
  have HU := Lib.hid hu
  have HV := Lib.hid hv
  have HUE := Lib.hid hue
  have HVE := Lib.hid hve
  rw [hue, hve]
  unfold maxLen at hum hvm
  clear hv hve hu hue
  go_enter Tryz.func22, Tryz.ntmps22
  go_wp2
  go_loopg [5] l.length (fun n vi wr => ∃ k : Nat, n + k = l.length ∧ vi = .int .i64 k ∧ Below w.heap.size w wr)
  case atStart => exact ⟨0, by omega, rfl, Below.refl _ _⟩
  case round =>
    obtain ⟨k, hk, rfl, hbw⟩ := hrel
    by_cases hlt : k < l.length
    · obtain ⟨t, htk⟩ : ∃ t, l[k]? = some t := ⟨l[k], List.getElem?_eq_getElem hlt⟩
      obtain ⟨g, off, cp, hve2, hc1, hc2, hg1, hcell⟩ := RowAt.cells HV.out (by omega)
      have q0 := hcell _ _ (enCells_at l k t htk).1
      have q1 := hcell _ _ (enCells_at l k t htk).2
      rw [← Nat.add_assoc] at q1
      have ev := HVE.out.symm.trans hve2
      cases ev
      have r0 := (hbw.cell (p := ⟨g, off + k * 2, none⟩) hg1).trans q0
      have r1 := (hbw.cell (p := ⟨g, off + k * 2 + 1, none⟩) hg1).trans q1
      obtain ⟨g', off', cp', hve2', hc1', hc2', hg1', hcell'⟩ := RowAt.cells HU.out (by omega)
      have q0' := hcell' _ _ (enCells_at l k t htk).1
      have q1' := hcell' _ _ (enCells_at l k t htk).2
      rw [← Nat.add_assoc] at q1'
      have ev' := HUE.out.symm.trans hve2'
      cases ev'
      have r0' := (hbw.cell (p := ⟨g', off' + k * 2, none⟩) hg1').trans q0'
      have r1' := (hbw.cell (p := ⟨g', off' + k * 2 + 1, none⟩) hg1').trans q1'
      have HBW := Lib.hid hbw
      obtain ⟨t1, t2⟩ := t
      simp only at r0 r1 r0' r1'
      clear hcell q0 q1 htk hbw hc1 hc2 hve2 hcell' q0' q1' hc1' hc2' hve2'
      go_wp2
      go_quiet (fail)
      go_wp2
      go_roundg (l.length - (k + 1))
      case measure => omega
      case rel => exact ⟨k + 1, by omega, by go_num, HBW.out.trans ((below_drewN (Below.refl _ _) _).mono HBW.out.size)⟩
    · obtain rfl : k = l.length := by omega
      have HBW := Lib.hid hbw
      clear hbw
      go_wp2
      go_ret
      exact ⟨rfl, HBW.out⟩

set_option maxRecDepth 100000 in
set_option maxHeartbeats 2000000 in
theorem texts_calls (u v : Value) (l : List Sg.B) (w : World) (hu : StrRow w u l) (hv : StrRow w v l) (hl : l.length ≤ 1000) : Calls Tryz.prog 19 #[u, v] w fun e w' => e = .returned (.bool true) ∧ Below w.heap.size w w' := by
  have mixed : Tryz.prog.follows Departure.mixedOrders = true := by kernel_rfl
  obtain ⟨au, cu, hue, hun, hum, _⟩ := id hu
  obtain ⟨av, cv, hve, hvn, hvm, _⟩ := id hv
  have HU := Lib.hid hu
  have HV := Lib.hid hv
  have HUE := Lib.hid hue
  have HVE := Lib.hid hve
  rw [hue, hve]
  unfold maxLen at hum hvm
  clear hv hve hu hue
  go_enter Tryz.func19, Tryz.ntmps19
  go_wp2
  go_loopg [5] l.length (fun n vi wr => ∃ k : Nat, n + k = l.length ∧ vi = .int .i64 k ∧ Below w.heap.size w wr)
  case atStart => exact ⟨0, by omega, rfl, Below.refl _ _⟩
  case round =>
    obtain ⟨k, hk, rfl, hbw⟩ := hrel
    by_cases hlt : k < l.length
    · obtain ⟨t, htk⟩ : ∃ t, l[k]? = some t := ⟨l[k], List.getElem?_eq_getElem hlt⟩
      obtain ⟨g, off, cp, hve2, hc1, hc2, hg1, hcell⟩ := HV.out.cell (by omega)
      have q0 := hcell k t htk
      have ev := HVE.out.symm.trans hve2
      cases ev
      have r0 := (hbw.cell (p := ⟨g, off + k, none⟩) hg1).trans q0
      obtain ⟨g', off', cp', hve2', hc1', hc2', hg1', hcell'⟩ := HU.out.cell (by omega)
      have q0' := hcell' k t htk
      have ev' := HUE.out.symm.trans hve2'
      cases ev'
      have r0' := (hbw.cell (p := ⟨g', off' + k, none⟩) hg1').trans q0'
      have HBW := Lib.hid hbw
      clear hcell q0 htk hbw hc1 hc2 hve2 hcell' q0' hc1' hc2' hve2'
      go_wp2
      go_quiet (fail)
      go_wp2
      go_roundg (l.length - (k + 1))
      case measure => omega
      case rel => exact ⟨k + 1, by omega, by go_num, HBW.out.trans ((below_drewN (Below.refl _ _) _).mono HBW.out.size)⟩
    · obtain rfl : k = l.length := by omega
      have HBW := Lib.hid hbw
      clear hbw
      go_wp2
      go_ret
      exact ⟨rfl, HBW.out⟩

/-- an act of the node's laws. -/
structure ActS where
  act : Int
  node : Int
  fro : Int
  conn : Int
  many : Int
  epoch : Nat
  reads : Bool
  text : ByteArray
def actL (x : ActS) : List Value := [.int .i64 x.act, .int .i64 x.node, .int .i64 x.fro, .int .i64 x.conn, .int .i64 x.many, .int .u64 (x.epoch : Int), .bool x.reads, .string x.text]
def actCells (l : List ActS) : List Value := l.flatMap actL
theorem actCells_at (l : List ActS) : ∀ (i : Nat) (t : ActS), l[i]? = some t → ∀ j u, (actL t)[j]? = some u → (actCells l)[i * 8 + j]? = some u := by
  induction l with
  | nil => intro i t h; simp at h
  | cons x l ih =>
    intro i t h j u hj
    have e : actCells (x :: l) = actL x ++ actCells l := rfl
    have hl : (actL x).length = 8 := rfl
    have hjl : j < 8 := (List.getElem?_eq_some_iff.1 hj).1
    rw [e]
    cases i with
    | zero =>
      simp at h; subst h
      rw [List.getElem?_append_left (by omega), Nat.zero_mul, Nat.zero_add]; exact hj
    | succ i =>
      rw [List.getElem?_append_right (by omega), hl, show (i + 1) * 8 + j - 8 = i * 8 + j from by omega]
      exact ih i t (by simpa using h) j u hj
/-- the acts of a slice that came in. -/
def ActsAt (w : World) (v : Value) (l : List ActS) : Prop := RowAt w v l.length (actCells l)
theorem ActsAt.form {w : World} {v : Value} {l : List ActS} (h : ActsAt w v l) : ∃ a c, v = .slice a l.length c ∧ l.length ≤ c ∧ c ≤ 9223372036854775807 := by
  obtain ⟨a, c, h1, h2, h3, _⟩ := h
  exact ⟨a, c, h1, h2, by unfold maxLen at h3; omega⟩
/-- an act's cells in memory. -/
structure ActAt (w : World) (g o : Nat) (x : ActS) : Prop where
  q0 : w.cell? ⟨g, o, none⟩ = some (.int .i64 x.act)
  q1 : w.cell? ⟨g, o + 1, none⟩ = some (.int .i64 x.node)
  q2 : w.cell? ⟨g, o + 2, none⟩ = some (.int .i64 x.fro)
  q3 : w.cell? ⟨g, o + 3, none⟩ = some (.int .i64 x.conn)
  q4 : w.cell? ⟨g, o + 4, none⟩ = some (.int .i64 x.many)
  q5 : w.cell? ⟨g, o + 5, none⟩ = some (.int .u64 (x.epoch : Int))
  q6 : w.cell? ⟨g, o + 6, none⟩ = some (.bool x.reads)
  q7 : w.cell? ⟨g, o + 7, none⟩ = some (.string x.text)
theorem ActAt.below {w w1 : World} {g o B : Nat} {x : ActS} (h : ActAt w g o x) (hb : Below B w w1) (hg : g < B) : ActAt w1 g o x :=
  ⟨(hb.cell (p := ⟨g, _, none⟩) hg).trans h.q0, (hb.cell (p := ⟨g, _, none⟩) hg).trans h.q1, (hb.cell (p := ⟨g, _, none⟩) hg).trans h.q2, (hb.cell (p := ⟨g, _, none⟩) hg).trans h.q3, (hb.cell (p := ⟨g, _, none⟩) hg).trans h.q4, (hb.cell (p := ⟨g, _, none⟩) hg).trans h.q5, (hb.cell (p := ⟨g, _, none⟩) hg).trans h.q6, (hb.cell (p := ⟨g, _, none⟩) hg).trans h.q7⟩
theorem ActsAt.act {w : World} {v : Value} {l : List ActS} (h : ActsAt w v l) {k : Nat} {x : ActS} (hk : l[k]? = some x) : ∃ g off c, v = .slice (some ⟨g, off, none⟩) l.length c ∧ l.length ≤ c ∧ c ≤ 9223372036854775807 ∧ g < w.heap.size ∧ ActAt w g (off + k * 8) x := by
  have h0 := (List.getElem?_eq_some_iff.1 hk).1
  obtain ⟨g, off, c, h1, h2, h3, h4, h5⟩ := RowAt.cells h (by omega)
  have key : ∀ j u, (actL x)[j]? = some u → w.cell? ⟨g, off + k * 8 + j, none⟩ = some u := fun j u hj => by
    rw [Nat.add_assoc]
    exact h5 _ u (actCells_at l k x hk j u hj)
  exact ⟨g, off, c, h1, h2, by unfold maxLen at h3; omega, h4, ⟨key 0 _ rfl, key 1 _ rfl, key 2 _ rfl, key 3 _ rfl, key 4 _ rfl, key 5 _ rfl, key 6 _ rfl, key 7 _ rfl⟩⟩

def largeL (l : List ActS) : Bool := decide (60 < l.length) || l.any fun x => decide (300 < x.text.size)
set_option maxRecDepth 100000 in
set_option maxHeartbeats 2000000 in
theorem large_calls (v : Value) (l : List ActS) (w : World) (hv : ActsAt w v l) : Calls Tryz.prog 25 #[v] w fun e w' => e = .returned (.bool (largeL l)) ∧ Below w.heap.size w w' := by
  obtain ⟨av, cv, hve, hvn, hvm⟩ := hv.form
  have HV := Lib.hid hv
  have HE := Lib.hid hve
  rw [hve]
  clear hv hve
  unfold largeL
  by_cases hlen : 60 < l.length
  · have hl : decide (60 < l.length) = true := by simpa using hlen
    rw [hl]
    have hl' : (60 : Int) < (l.length : Int) := by omega
    clear hl hlen
    go_enter Tryz.func25, Tryz.ntmps25
    go_wp2
    go_ret
    exact ⟨rfl, Below.refl _ _⟩
  · have hl : decide (60 < l.length) = false := by simpa using hlen
    rw [hl, Bool.false_or]
    have hl' : ¬ ((60 : Int) < (l.length : Int)) := by omega
    clear hl
    go_enter Tryz.func25, Tryz.ntmps25
    go_wp2
    go_loopg [10] l.length (fun n vi wr => ∃ k : Nat, n + k = l.length ∧ vi = .int .i64 k ∧ Hid ((l.take k).any (fun x => decide (300 < x.text.size)) = false) ∧ Below w.heap.size w wr)
    case atStart => exact ⟨0, by omega, rfl, rfl, Below.refl _ _⟩
    case round =>
      obtain ⟨k, hk, rfl, HA, hbw⟩ := hrel
      by_cases hlt : k < l.length
      · obtain ⟨x, hx⟩ : ∃ x, l[k]? = some x := ⟨l[k], List.getElem?_eq_getElem hlt⟩
        obtain ⟨g, off, cp, hve2, hc1, hc2, hg1, hact⟩ := HV.out.act hx
        have ev := HE.out.symm.trans hve2
        cases ev
        obtain ⟨q0, q1, q2, q3, q4, q5, q6, q7⟩ := hact.below hbw hg1
        have HX := Lib.hid hx
        have HBW := Lib.hid hbw
        have hany : (l.take (k + 1)).any (fun x => decide (300 < x.text.size)) = decide (300 < x.text.size) := by
          rw [List.take_add_one, List.any_append, HA.out, hx]; simp
        have HANY := Lib.hid hany
        clear hact hbw hx hve2 hany
        by_cases hs : 300 < x.text.size
        · have hs' : (300 : Int) < (x.text.size : Int) := by omega
          have hres : l.any (fun x => decide (300 < x.text.size)) = true := by
            rw [List.any_eq_true]; exact ⟨x, List.mem_of_getElem? HX.out, by simpa using hs⟩
          have HRES := Lib.hid hres
          clear hres hs
          go_wp2
          go_ret
          exact ⟨by rw [HRES.out]; rfl, HBW.out.alloc HBW.out.size _⟩
        · have hs' : ¬ ((300 : Int) < (x.text.size : Int)) := by omega
          have HS : Hid (decide (300 < x.text.size) = false) := by show _ = _; simpa using hs
          go_wp2
          go_roundg (l.length - (k + 1))
          case measure => omega
          case rel => exact ⟨k + 1, by omega, by go_num, by show _ = _; rw [HANY.out, HS.out], HBW.out.alloc HBW.out.size _⟩
      · obtain rfl : k = l.length := by omega
        have hA := HA.out
        rw [List.take_length] at hA
        have HA2 := Lib.hid hA
        have HBW := Lib.hid hbw
        clear hA hbw
        go_wp2
        go_ret
        exact ⟨by rw [HA2.out]; rfl, HBW.out⟩

/-- pointers to nodes, in a block. -/
def PtrRow (w : World) (g : Nat) (cs : List Nat) : Prop := w.heap[g]? = some (.cells (cs.map fun c => Value.pointer (some ⟨c, 0, none⟩)).toArray 24 (0, 0))
theorem PtrRow.cell {w : World} {g : Nat} {cs : List Nat} (h : PtrRow w g cs) {i c : Nat} (hi : cs[i]? = some c) : w.cell? ⟨g, i, none⟩ = some (.pointer (some ⟨c, 0, none⟩)) := by
  have h : w.heap[g]? = _ := h
  simp [World.cell?, h, hi]
theorem PtrRow.lt {w : World} {g : Nat} {cs : List Nat} (h : PtrRow w g cs) : g < w.heap.size := heap_lt h
theorem PtrRow.far {w w' : World} {g : Nat} {cs : List Nat} (h : PtrRow w g cs) {c : Nat} {L : NodeL} {s s' : NodeS} (hn : NodeAt w c L s) (ht : NodeTo w c L s' w') : PtrRow w' g cs := ht.far hn h (by decide)
theorem PtrRow.grows {R R' : Nat → Prop} {w w' : World} {g : Nat} {cs : List Nat} (h : PtrRow w g cs) (hg : Grows R R' w w') (hr : R g) : PtrRow w' g cs := (hg.block hr h.lt).trans h
theorem PtrRow.below {w w' : World} {g : Nat} {cs : List Nat} (h : PtrRow w g cs) (hb : Below w.heap.size w w') : PtrRow w' g cs := (hb.block g h.lt).trans h
def NodesPost (w : World) (e : Ending) (w' : World) : Prop :=
  ∃ g c0 c1 c2 R', e = .returned (.slice (some ⟨g, 0, none⟩) 3 3) ∧ PtrRow w' g [c0, c1, c2] ∧ Nodes w' R' [c0, c1, c2] [NodeS.new, NodeS.new, NodeS.new] ∧ Grows (fun k => k < w.heap.size) R' w w' ∧ R' g ∧ w.heap.size ≤ g
set_option maxRecDepth 100000 in
theorem nodes_calls (w : World) : Calls Tryz.prog 26 #[] w (NodesPost w) := by
  have h0 := Nodes.nil w
  have H0 := Lib.hid h0
  clear h0
  go_enter Tryz.func26, Tryz.ntmps26
  go_wp2_with fail
  refine (new_calls _).mono ?_
  rintro e w1 ⟨c0, L0, rfl, n0, b0, f0⟩
  have H1 := Lib.hid (H0.out.snoc b0 n0 f0)
  clear n0 b0 f0
  go_wp2_with fail
  refine (new_calls _).mono ?_
  rintro e w2 ⟨c1, L1, rfl, n0, b0, f0⟩
  have H2 := Lib.hid (H1.out.1.snoc b0 n0 f0)
  clear n0 b0 f0
  go_wp2_with fail
  refine (new_calls _).mono ?_
  rintro e w3 ⟨c2, L2, rfl, n0, b0, f0⟩
  have H3 := Lib.hid (H2.out.1.snoc b0 n0 f0)
  clear n0 b0 f0
  go_wp2
  go_ret
  obtain ⟨R', n1, g1, r1⟩ := H3.out.1.below ((Below.refl _ _).alloc (Nat.le_refl _) (.cells #[.pointer (some ⟨c0, 0, none⟩), .pointer (some ⟨c1, 0, none⟩), .pointer (some ⟨c2, 0, none⟩)] 24))
  have gz := (H1.out.2.trans H2.out.2).trans H3.out.2
  exact ⟨_, c0, c1, c2, R', rfl, heap_alloc_new _ _, n1, gz.trans g1, r1 _ (Nat.le_refl _) (by simp), gz.size⟩

set_option maxRecDepth 100000 in
theorem reply_calls (a b c : Int) (x : Option Addr) (n cp : Nat) (w : World) : Calls Tryz.prog 37 #[.agg #[.int .i64 a, .int .u64 b, .int .u64 c, .slice x n cp]] w fun e w' => e = .returned (.agg #[.int .i64 a, .int .u64 b, .int .u64 c, .slice x n cp]) ∧ Below w.heap.size w w' := by
  go_enter Tryz.func37, Tryz.ntmps37
  go_wp2
  refine bodyPost_ret (v := .agg #[.int .i64 a, .int .u64 b, .int .u64 c, .slice x n cp]) ?_ rfl ⟨rfl, ((Below.refl _ _).alloc (Nat.le_refl _) _).alloc (by simp) _⟩
  simp [results, Tryz.results37, go_sem]
end Go.Proofs.YtpaioaljopjpkaaGreatDoor
