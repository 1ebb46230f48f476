/- A node's tables: behind, Table. Conditions: a node as it is laid; texts of at most 200 bytes, at most 400 of them. -/
import Derived.Test.YtpaioaljopjpkaaGreatDoorNodeE
set_option linter.unusedVariables false
set_option linter.unusedSimpArgs false
namespace Go.Proofs.YtpaioaljopjpkaaGreatDoor
open Go.RowKit

/-- a table behind texts. -/
def behindL (l : List Pr) (ts : List Sg.B) : List Pr := ts.foldl (fun l t => (writesL (planL t) l).1) l
theorem behindL_take (l : List Pr) (ts : List Sg.B) (k : Nat) (t : Sg.B) (h : ts[k]? = some t) : behindL l (ts.take (k + 1)) = (writesL (planL t) (behindL l (ts.take k))).1 := by
  unfold behindL
  rw [List.take_add_one, h, List.foldl_append]; rfl
theorem behindL_sort : ∀ (ts : List Sg.B) (l : List Pr), SortL l → SortL (behindL l ts)
  | [], l, h => h
  | t :: ts, l, h => behindL_sort ts _ (sortL_writes _ _ h)
theorem behindL_len : ∀ (ts : List Sg.B) (l : List Pr), (behindL l ts).length ≤ l.length + ts.length
  | [], l => Nat.le_refl _
  | t :: ts, l => by
    have h1 := behindL_len ts (writesL (planL t) l).1
    have h2 := writes_len (planL t) l
    show (behindL (writesL (planL t) l).1 ts).length ≤ _
    simp; omega
theorem behindL_append (l : List Pr) (a b : List Sg.B) : behindL l (a ++ b) = behindL (behindL l a) b := by unfold behindL; rw [List.foldl_append]

def PairsPost (w : World) (B : Nat) (r : List Pr) (e : Ending) (w' : World) : Prop :=
  ∃ v', e = .returned v' ∧ w'.ownsRow B 65 2 v' r.length (prCells r) ∧ Below w.heap.size w w'
theorem ba_size (t : Sg.B) : (ba t).size = t.length := by simp [ba, ByteArray.size]
theorem ba_data (t : Sg.B) : (ba t).data.toList = t := by simp [ba]

set_option maxRecDepth 100000 in
set_option maxHeartbeats 2000000 in
theorem behind_calls (B : Nat) (v vt : Value) (l : List Pr) (ts : List Sg.B) (m : Int) (w : World) (hown : w.ownsRow B 65 2 v l.length (prCells l)) (hs : SortL l) (hB : B ≤ w.heap.size) (hv : StrRow w vt ts) (hm : w.cell? ⟨0, 0, none⟩ = some (.int .i64 m))
    (hlen : l.length + ts.length ≤ 4000) (hts : ∀ t ∈ ts, t.length ≤ 200) : Calls Tryz.prog 60 #[v, vt] w (PairsPost w B (behindL l ts)) := by
  have h0 : (0 : Nat) < w.heap.size := World.block_lt_of_cell? w ⟨0, 0, none⟩ hm
  have HV := Lib.hid hv
  have HO := Lib.hid hown
  have HM := Lib.hid hm
  have HT := Lib.hid hts
  obtain ⟨av, cv, hve, hvn, hvm, _⟩ := id hv
  have HE := Lib.hid hve
  rw [hve]
  clear hv hown hm hts hve
  go_enter Tryz.func60, Tryz.ntmps60
  go_wp2
  go_loopg [0, 9] ts.length (fun n v0 vi wr => ∃ k : Nat, n + k = ts.length ∧ vi = .int .i64 k ∧ wr.ownsRow B 65 2 v0 (behindL l (ts.take k)).length (prCells (behindL l (ts.take k))) ∧ Below w.heap.size w wr)
  case atStart => exact ⟨0, by omega, rfl, HO.out, Below.refl _ _⟩
  case round =>
    obtain ⟨k, hk, rfl, hon, hbw⟩ := hrel
    by_cases hlt : k < ts.length
    · obtain ⟨t, htk⟩ : ∃ t, ts[k]? = some t := ⟨ts[k], List.getElem?_eq_getElem hlt⟩
      obtain ⟨g, off, cp, hve2, hc1, hc2, hg1, hcell⟩ := HV.out.cell (by omega)
      have q0 := hcell k t htk
      have hvv := HE.out.symm.trans hve2
      cases hvv
      have r0 := (hbw.cell (p := ⟨g, off + k, none⟩) hg1).trans q0
      have hm1 := (hbw.cell (p := ⟨0, 0, none⟩) h0).trans HM.out
      have hl1 := behindL_len (ts.take k) l
      have hl2 : (ts.take k).length = k := by rw [List.length_take]; omega
      have HTK := Lib.hid htk
      have HBW := Lib.hid hbw
      have HON := Lib.hid hon
      have HP := Lib.hid (plan_calls (ba t) m wr (by rw [ba_size]; have := HT.out t (List.mem_of_getElem? htk); unfold maxLen; omega) hm1)
      rw [ba_data] at HP
      have HW := Lib.hid (fun (w1 : World) (hb : Below wr.heap.size wr w1) => writes_calls (planL t) B _ _ w1 (own_below hon hb (Nat.le_refl _)) (behindL_sort (ts.take k) l hs) (by omega) (by have := hbw.size; have := hb.size; omega))
      have HS := Lib.hid (behindL_take l ts k t htk)
      generalize planL t = p at HP HW HS
      clear hcell htk hve2 hc1 hc2 q0 hm1 hon hbw hl1 hl2
      unfold maxLen at hvm
      go_wp2_with (first | (go_at_call 59; refine HP.out.mono ?_; rintro e w1 ⟨rfl, hb1⟩; have HB1 := Lib.hid hb1; have HW1 := Lib.hid (HW.out w1 hb1)) | (go_at_call 91; refine HW1.out.mono ?_; rintro e w2 ⟨v2, rfl, ho2, hb2⟩; have HO2 := Lib.hid ho2; have HB2 := Lib.hid hb2; clear ho2 hb2))
      go_roundg (ts.length - (k + 1))
      case measure => omega
      case rel =>
        refine ⟨k + 1, by omega, by go_num, ?_, HBW.out.trans ((HB1.out.trans (HB2.out.mono HB1.out.size)).mono HBW.out.size)⟩
        rw [HS.out]
        exact own_mono HO2.out (by have := HBW.out.size; have := HB1.out.size; omega)
    · obtain rfl : k = ts.length := by omega
      rw [List.take_length] at hon
      have HON := Lib.hid hon
      have HBW := Lib.hid hbw
      clear hon hbw
      go_wp2
      go_ret
      exact ⟨_, rfl, HON.out, HBW.out⟩

def NodeS.table (s : NodeS) : List Pr := behindL [] (s.log.map (·.2))
theorem NodeS.table_sort (s : NodeS) : SortL s.table := behindL_sort _ _ sortL_nil
theorem NodeS.table_len (s : NodeS) : s.table.length ≤ s.log.length := by have := behindL_len (s.log.map (·.2)) []; simpa [NodeS.table] using this

set_option maxRecDepth 100000 in
set_option maxHeartbeats 2000000 in
theorem table_calls (w : World) (c : Nat) (L : NodeL) (s : NodeS) (h : NodeAt w c L s) (m : Int) (hm : w.cell? ⟨0, 0, none⟩ = some (.int .i64 m)) :
    Calls Tryz.prog 31 #[.pointer (some ⟨c, 0, none⟩)] w (PairsPost w w.heap.size s.table) := by
  have h0 : (0 : Nat) < w.heap.size := World.block_lt_of_cell? w ⟨0, 0, none⟩ hm
  have c2 := h.cell2
  have HM := Lib.hid hm
  have hll := h.fine.log
  have HF := Lib.hid h.fine.texts
  have HR := Lib.hid (own_rowAt h.hlog)
  obtain ⟨al, cl, hlv, hcl1, hcl2⟩ := own_len2 h.hlog
  have HE := Lib.hid hlv
  rw [hlv] at c2
  unfold NodeS.table
  clear h hm hlv
  go_enter Tryz.func31, Tryz.ntmps31
  go_wp2
  go_loopg [3, 11] s.log.length (fun n v0 vi wr => ∃ k : Nat, n + k = s.log.length ∧ vi = .int .i64 k ∧ wr.ownsRow w.heap.size 65 2 v0 (behindL [] ((s.log.map (·.2)).take k)).length (prCells (behindL [] ((s.log.map (·.2)).take k))) ∧ Below w.heap.size w wr)
  case atStart => exact ⟨0, by omega, rfl, World.ownsRow_nil _ _ _ _, Below.refl _ _⟩
  case round =>
    obtain ⟨k, hk, rfl, hon, hbw⟩ := hrel
    by_cases hlt : k < s.log.length
    · obtain ⟨t, htk⟩ : ∃ t, s.log[k]? = some t := ⟨s.log[k], List.getElem?_eq_getElem hlt⟩
      obtain ⟨g, off, cp, hve2, hc1, hc2, hg1, hcell⟩ := HR.out.cells (by omega)
      obtain ⟨q0, q1⟩ := enCells_at s.log k t htk
      have q0 := hcell _ _ q0
      have q1 := hcell _ _ q1
      have hvv := HE.out.symm.trans hve2
      cases hvv
      have r0 := (hbw.cell (p := ⟨g, off + k * 2, none⟩) hg1).trans q0
      have r1 := (hbw.cell (p := ⟨g, off + (k * 2 + 1), none⟩) hg1).trans q1
      rw [← Nat.add_assoc] at r1
      have HM1 := Lib.hid ((hbw.cell (p := ⟨0, 0, none⟩) h0).trans HM.out)
      have htx : (s.log.map (·.2))[k]? = some t.2 := by rw [List.getElem?_map, htk]; rfl
      have ht2 := (HF.out t (List.mem_of_getElem? htk)).1
      have hl1 := behindL_len ((s.log.map (·.2)).take k) []
      have hl2 : ((s.log.map (·.2)).take k).length = k := by rw [List.length_take, List.length_map]; omega
      have HL1 := Lib.hid hl1
      have hb3 : Below wr.heap.size wr ((wr.alloc (.cells #[.int .u64 (t.1 : Int), .string (ba t.2)] 73)).alloc (.cells #[.string (ba t.2)] 9)) := ((Below.refl _ _).alloc (Nat.le_refl _) _).alloc (by simp) _
      have hrow : StrRow ((wr.alloc (.cells #[.int .u64 (t.1 : Int), .string (ba t.2)] 73)).alloc (.cells #[.string (ba t.2)] 9)) (.slice (some ⟨wr.heap.size + 1, 0, none⟩) 1 1) [t.2] := ⟨_, 1, rfl, by simp, by decide, fun _ => ⟨wr.heap.size + 1, 0, #[.string (ba t.2)], 9, (0, 0), rfl, by have := heap_alloc_new (wr.alloc (.cells #[.int .u64 (t.1 : Int), .string (ba t.2)] 73)) (.cells #[.string (ba t.2)] 9); simpa using this, fun j u hj => by simpa [strCells] using hj⟩⟩
      have HBH := Lib.hid (behind_calls w.heap.size _ (.slice (some ⟨wr.heap.size + 1, 0, none⟩) 1 1) _ [t.2] m _ (own_below hon hb3 (Nat.le_refl _)) (behindL_sort ((s.log.map (·.2)).take k) [] sortL_nil) (by have := hbw.size; simp; omega) hrow ((hb3.cell (p := ⟨0, 0, none⟩) (by show 0 < wr.heap.size; have := hbw.size; omega)).trans HM1.out) (by rw [hl2] at hl1; simp at hl1 ⊢; omega) (fun t' h' => by rw [List.mem_singleton.1 h']; exact ht2))
      have HS := Lib.hid (behindL_take [] (s.log.map (·.2)) k t.2 htx)
      have HBW := Lib.hid hbw
      have HB3 := Lib.hid hb3
      clear hcell htk hve2 hc1 hc2 q0 q1 hon hbw hl1 hl2 htx hb3 hrow HM1
      go_wp2_with (first | (go_at_call 60; refine HBH.out.mono ?_; rintro e w2 ⟨v2, rfl, ho2, hb2⟩; have HO2 := Lib.hid ho2; have HB2 := Lib.hid hb2; clear ho2 hb2))
      go_roundg (s.log.length - (k + 1))
      case measure => omega
      case rel =>
        refine ⟨k + 1, by omega, by go_num, ?_, HBW.out.trans ((HB3.out.trans (HB2.out.mono HB3.out.size)).mono HBW.out.size)⟩
        rw [HS.out]
        exact HO2.out
    · obtain rfl : k = s.log.length := by omega
      rw [List.take_of_length_le (by rw [List.length_map]; omega)] at hon
      have HON := Lib.hid hon
      have HBW := Lib.hid hbw
      clear hon hbw
      go_wp2
      go_ret
      exact ⟨_, rfl, HON.out, HBW.out⟩
end Go.Proofs.YtpaioaljopjpkaaGreatDoor
