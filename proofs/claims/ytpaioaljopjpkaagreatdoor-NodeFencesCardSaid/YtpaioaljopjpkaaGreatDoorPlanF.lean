/- plan.Reads: what a plan reads of a table. Conditions: a sorted table, fewer than 5000 pairs. -/
import Derived.Test.YtpaioaljopjpkaaGreatDoorPlanE
set_option linter.unusedVariables false
set_option linter.unusedSimpArgs false
namespace Go.Proofs.YtpaioaljopjpkaaGreatDoor
open Go.RowKit

theorem Tryz.info9 : (Tryz.prog.info? 9).map (fun i => (i.zero, i.size, i.bytes)) = some (some (.string ⟨#[]⟩), 1, 16) := by kernel_rfl
theorem info9_parts : ∃ i0, Tryz.prog.info? 9 = some i0 ∧ i0.zero = some (.string ⟨#[]⟩) ∧ i0.size = 1 ∧ i0.bytes = 16 := by
  have := Tryz.info9
  cases h : Tryz.prog.info? 9 with
  | none => rw [h] at this; cases this
  | some i0 => rw [h] at this; simp at this; exact ⟨i0, rfl, this⟩

def strCells (l : List Sg.B) : List Value := l.map fun x => .string (ba x)
def flatP (l : List Pr) : List Sg.B := l.flatMap fun p => [p.1, p.2]
theorem strCells_flat (l : List Pr) : strCells (flatP l) = prCells l := by
  induction l with
  | nil => rfl
  | cons x l ih => show _ :: _ :: strCells (flatP l) = _ :: _ :: prCells l; rw [ih]
theorem flatP_len (l : List Pr) : (flatP l).length = l.length * 2 := by
  induction l with
  | nil => rfl
  | cons x l ih => show (flatP l).length + 2 = _; rw [ih]; simp; omega

def readsL (p : Pn) (l : List Pr) : List Sg.B :=
  if p.op = 1 then (if isAt l p.key = true then [(l.getD (placeL l p.key) ([], [])).2] else [])
  else if p.op = 2 then (flatP l).take 20
  else []

def StrsPost (w : World) (r : List Sg.B) (e : Ending) (w' : World) : Prop :=
  ∃ v', e = .returned v' ∧ RowAt w' v' r.length (strCells r) ∧ (∀ n c, v' = .slice none n c → n = 0) ∧ (∀ k, v'.ownBlock = some k → w.heap.size ≤ k ∧ k < w'.heap.size) ∧ Below w.heap.size w w'

theorem new_cells (w : World) (cs : List Value) (T : TypeId) : ∀ j u, cs[j]? = some u → (w.alloc (.cells cs.toArray T)).cell? ((⟨w.heap.size, 0, none⟩ : Addr).add j) = some u := by
  intro j u h
  rw [Addr.add_lit]
  simp only [World.cell?, heap_alloc_new, Nat.zero_add]
  simpa using h
theorem own_form2 {w : World} {B e n size : Nat} {v : Value} {xs : List Value} (h : w.ownsRow B e size v n xs) (h0 : 0 < n) : ∃ g c, v = .slice (some ⟨g, 0, none⟩) n c ∧ n ≤ c ∧ c ≤ 9223372036854775807 := by
  rcases h.2 with ⟨rfl, h0⟩ | ⟨g, cap, cur, rfl, hb, hg, hn, hm, hs, ht⟩
  · omega
  · exact ⟨_, _, rfl, hn, hm⟩
theorem own_len2 {w : World} {B e n size : Nat} {v : Value} {xs : List Value} (h : w.ownsRow B e size v n xs) : ∃ a c, v = .slice a n c ∧ n ≤ c ∧ c ≤ 9223372036854775807 := by
  rcases h.2 with ⟨rfl, h0⟩ | ⟨g, cap, cur, rfl, hb, hg, hn, hm, hs, ht⟩
  · exact ⟨none, 0, by rw [h0], by omega, by omega⟩
  · exact ⟨_, _, rfl, hn, hm⟩
theorem rowAt_prefix {w : World} {a : Option Addr} {n c m : Nat} {cs : List Value} (h : RowAt w (.slice a n c) n cs) (hm : m ≤ n) (hl : cs.length = n) : RowAt w (.slice a m c) m (cs.take m) := by
  obtain ⟨a', c', he, h1, h2, h3⟩ := h
  cases he
  refine ⟨a, c, rfl, by omega, h2, fun h0 => ?_⟩
  obtain ⟨g, off, cur, T, fz, ha, hg, hc⟩ := h3 (by omega)
  refine ⟨g, off, cur, T, fz, ha, hg, fun j u hj => hc j u ?_⟩
  have := (List.getElem?_eq_some_iff.1 hj).1
  rw [List.length_take] at this
  rw [List.getElem?_take_of_lt (by omega)] at hj
  exact hj

set_option maxRecDepth 100000 in
set_option maxHeartbeats 8000000 in
theorem reads_none (op : Nat) (key val : Sg.B) (v : Value) (w : World) (h1 : ((op : Int) == 1) = false) (h2 : ((op : Int) == 2) = false) :
    Calls Tryz.prog 58 #[.agg #[.int .i64 op, .string (ba key), .string (ba val)], v] w (StrsPost w []) := by
  have HBX : Hid (Below w.heap.size w (w.alloc (.cells #[.int .i64 op, .string (ba key), .string (ba val)] 140))) := (Below.refl _ _).alloc (Nat.le_refl _) _
  go_enter Tryz.func58, Tryz.ntmps58
  go_wp2
  go_ret
  exact ⟨_, rfl, ⟨none, 0, rfl, by simp, by unfold maxLen; omega, fun h => absurd h (by simp)⟩, (fun n c h => by cases h; rfl), (fun k e => by cases e), HBX.out⟩

set_option maxRecDepth 100000 in
set_option maxHeartbeats 8000000 in
theorem reads_get (is : Bool) (key val : Sg.B) (i : Nat) (v : Value) (l : List Pr) (w : World) (hl : RowAt w v l.length (prCells l)) (hp : PlaceAt l key i is) (hi : i ≤ l.length) (hll : l.length ≤ 5000) (p : Pr) (hat : is = true → l[i]? = some p) :
    Calls Tryz.prog 58 #[.agg #[.int .i64 1, .string (ba key), .string (ba val)], v] w (StrsPost w (if is = true then [p.2] else [])) := by
  have HP := Lib.hid hp
  unfold PlaceAt at HP
  clear hp
  have HBX : Hid (Below w.heap.size w (w.alloc (.cells #[.int .i64 1, .string (ba key), .string (ba val)] 140))) := (Below.refl _ _).alloc (Nat.le_refl _) _
  have HRX := Lib.hid (hl.below HBX.out (Nat.le_refl _))
  cases is with
  | false =>
    go_enter Tryz.func58, Tryz.ntmps58
    go_wp2_with (first | (go_at_call 86; refine (HP.out _ _ HRX.out).mono ?_; rintro e w2 ⟨rfl, hb2⟩))
    go_ret
    exact ⟨_, rfl, ⟨none, 0, rfl, by simp, by unfold maxLen; omega, fun h => absurd h (by simp)⟩, (fun n c h => by cases h; rfl), (fun k e => by cases e), HBX.out.trans (hb2.mono (by simp))⟩
  | true =>
    have hat := hat rfl
    have hlt := (List.getElem?_eq_some_iff.1 hat).1
    obtain ⟨i0, hinfo, hz0, hz1, hz2⟩ := info9_parts
    obtain ⟨g1, off, c, rfl, hc1, hc2, hg1, hcell⟩ := hl.cells (by omega)
    have q1 := hcell _ _ (prCells_at l i p hat).2
    clear hcell hat
    unfold maxLen at hc2
    go_enter Tryz.func58, Tryz.ntmps58
    go_wp2_with (first | (go_at_call 86; refine (HP.out _ _ HRX.out).mono ?_; rintro e w2 ⟨rfl, hb2⟩; have HB2 := Lib.hid (HBX.out.trans (hb2.mono (by simp))); have r1 : w2.cell? ⟨g1, off + i * 2 + 1, none⟩ = _ := (HB2.out.cell (p := ⟨g1, off + i * 2 + 1, none⟩) hg1).trans q1) | (at_builtin; refine wpList_append_own _ rfl _ _ 22 rfl w2.heap.size 9 i0 _ 1 16 Tryz.underlying22 hinfo hz0 hz1 hz2 rfl (by decide) _ _ _ rfl (World.ownsRow_nil _ _ _ _) ⟨w2.heap.size, 0, none⟩ 1 1 [.string (ba p.2)] rfl rfl (fun j u hj => ?q1) (fun u hu => ?q2) (by unfold maxLen; omega) (by omega) (by simp) ?q3))
    case q1 => exact new_cells w2 [.string (ba p.2)] 9 j u hj
    case q2 => rw [List.mem_singleton.1 hu]; rfl
    intro v' w3 hown3 hgrow hnil
    have HB3 : Hid (Below w.heap.size w w3) := (HB2.out.alloc HB2.out.size _).grown hgrow (by have := HB2.out.size; simp; omega) (by intro k hk; simp [Value.ownBlock] at hk)
    have HR3 := Lib.hid (own_rowAt hown3)
    have HL3 := Lib.hid (fun k e => And.intro (Nat.le_trans HB2.out.size (hown3.lt k e).1) (hown3.lt k e).2)
    obtain ⟨g3, c3, rfl, hc3, hc4⟩ := own_form2 hown3 (by omega)
    have hc5 : (1 : Int) ≤ (c3 : Int) := by omega
    clear hown3 hgrow hnil
    have hm1 : min (1 : Int) 20 = 1 := by decide
    go_wp2
    go_ret
    exact ⟨_, rfl, HR3.out, (fun n c h => by cases h), HL3.out, HB3.out⟩

set_option maxRecDepth 100000 in
set_option maxHeartbeats 8000000 in
theorem reads_all (key val : Sg.B) (v : Value) (l : List Pr) (w : World) (hl : RowAt w v l.length (prCells l)) (hll : l.length ≤ 5000) :
    Calls Tryz.prog 58 #[.agg #[.int .i64 2, .string (ba key), .string (ba val)], v] w (StrsPost w ((flatP l).take 20)) := by
  have HBX : Hid (Below w.heap.size w (w.alloc (.cells #[.int .i64 2, .string (ba key), .string (ba val)] 140))) := (Below.refl _ _).alloc (Nat.le_refl _) _
  obtain ⟨i0, hinfo, hz0, hz1, hz2⟩ := info9_parts
  have HC : Hid (∀ i p, l[i]? = some p → ∃ g off c, v = .slice (some ⟨g, off, none⟩) l.length c ∧ l.length ≤ c ∧ c ≤ maxLen ∧ g < w.heap.size ∧ w.cell? ⟨g, off + i * 2, none⟩ = some (.string (ba p.1)) ∧ w.cell? ⟨g, off + i * 2 + 1, none⟩ = some (.string (ba p.2))) := by
    intro i p hp
    have hlt := (List.getElem?_eq_some_iff.1 hp).1
    obtain ⟨g1, off, c, rfl, hc1, hc2, hg1, hcell⟩ := hl.cells (by omega)
    exact ⟨g1, off, c, rfl, hc1, hc2, hg1, hcell _ _ (prCells_at l i p hp).1, hcell _ _ (prCells_at l i p hp).2⟩
  have hlen : ∃ a c, v = .slice a l.length c := by obtain ⟨a, c, h, _⟩ := hl; exact ⟨a, c, h⟩
  obtain ⟨a, c, hv⟩ := hlen
  rw [hv] at HC ⊢
  clear hl hv v
  go_enter Tryz.func58, Tryz.ntmps58
  go_wp2
  go_loopg [5, 34] l.length (fun n v5 vi wr => ∃ k : Nat, n + k = l.length ∧ vi = .int .i64 k ∧ Below w.heap.size w wr ∧ wr.ownsRow w.heap.size 9 1 v5 (k * 2) (prCells (l.take k)))
  case atStart => exact ⟨0, by omega, rfl, HBX.out, World.ownsRow_nil _ _ _ _⟩
  case round =>
    obtain ⟨k, hk, rfl, hbw, hown⟩ := hrel
    by_cases hlt : k < l.length
    · obtain ⟨t, ht⟩ : ∃ t, l[k]? = some t := ⟨l[k], List.getElem?_eq_getElem hlt⟩
      obtain ⟨g1, off, c', hv, hc1, hc2, hg1, q0, q1⟩ := HC.out k t ht
      cases hv
      have r0 := (hbw.cell (p := ⟨g1, off + k * 2, none⟩) hg1).trans q0
      have r1 := (hbw.cell (p := ⟨g1, off + k * 2 + 1, none⟩) hg1).trans q1
      have HT := Lib.hid ht
      have HO := Lib.hid hown
      have HBW := Lib.hid hbw
      clear q0 q1 ht hown hbw
      unfold maxLen at hc2
      go_wp2_with (at_builtin; go_must (refine wpList_append_own _ rfl _ _ 22 rfl w.heap.size 9 i0 _ 1 16 Tryz.underlying22 hinfo hz0 hz1 hz2 rfl (by decide) _ _ _ rfl ((HO.out.alloc _).alloc _) ⟨wr.heap.size + 1, 0, none⟩ 2 2 [.string (ba t.1), .string (ba t.2)] rfl rfl (new_two _ _ _ _ _ (by simp)) (fun u hu => by simp at hu; rcases hu with rfl | rfl <;> rfl) (by unfold maxLen; omega) (by omega) (by have := HBW.out.size; simp; omega) ?_; intro v' w2 hown2 hg _; have hbig := (HBW.out.alloc HBW.out.size (.cells #[Value.string (ba t.1), Value.string (ba t.2)] 65)).alloc (by have := HBW.out.size; simp; omega) (.cells #[Value.string (ba t.1), Value.string (ba t.2)] 9)))
      have hbw2 := hbig.grown hg (by have := HBW.out.size; simp; omega) (fun k hk => (HO.out.lt k hk).1)
      go_roundg (l.length - (k + 1))
      case measure => omega
      case rel =>
        refine ⟨k + 1, by omega, by go_num, hbw2, ?_⟩
        have e : prCells (l.take (k + 1)) = prCells (l.take k) ++ [.string (ba t.1), .string (ba t.2)] := by rw [List.take_add_one, HT.out, prCells_append]; rfl
        rw [e, show (k + 1) * 2 = k * 2 + 2 from by omega]
        exact hown2
    · obtain rfl : k = l.length := by omega
      rw [List.take_length] at hown
      have HR := Lib.hid (own_rowAt hown)
      obtain ⟨a5, c5, rfl, hc5, hc6⟩ := own_len2 hown
      have HN := Lib.hid (own_nil hown)
      have HL := Lib.hid (fun k e => hown.lt k e)
      clear hown
      have HBW := Lib.hid hbw
      clear hbw
      obtain ⟨m, hm⟩ : ∃ m, m = min (l.length * 2) 20 := ⟨_, rfl⟩
      have hm1 : min ((l.length : Int) * 2) 20 = (m : Int) := by omega
      have hm2 : m ≤ l.length * 2 := by omega
      have hm3 : (m : Int) ≤ (c5 : Int) := by omega
      have HM := Lib.hid hm
      clear hm
      go_wp2
      go_ret
      have e1 : ((flatP l).take 20).length = m := by rw [List.length_take, flatP_len, HM.out]; omega
      have e2 : strCells ((flatP l).take 20) = (prCells l).take m := by rw [← strCells_flat, strCells, List.map_take, ← strCells, HM.out]; rw [← flatP_len]; rcases Nat.le_total (flatP l).length 20 with h | h <;> simp [strCells, Nat.min_eq_left, Nat.min_eq_right, h]
      refine ⟨_, rfl, ?_, ?_, fun k e => HL.out k (by have e : (Value.slice a5 m c5).ownBlock = some k := e; cases a5 with | none => cases e | some a => exact e), HBW.out⟩
      · rw [e1, e2]; exact rowAt_prefix HR.out hm2 (by rw [prCells_len])
      · intro n c h
        cases h
        have := HN.out _ _ rfl
        omega

theorem reads_calls (p : Pn) (v : Value) (l : List Pr) (w : World) (hl : RowAt w v l.length (prCells l)) (hs : SortL l) (hll : l.length ≤ 5000) :
    Calls Tryz.prog 58 #[pnV p, v] w (StrsPost w (readsL p l)) := by
  have hp : PlaceAt l p.key (placeL l p.key) (isAt l p.key) := fun w1 v h => place_calls v l p.key w1 h hs (by omega)
  have hle := placeL_le l p.key
  obtain ⟨op, key, val⟩ := p
  unfold pnV readsL
  simp only at hp hle ⊢
  by_cases h1 : op = 1
  · subst h1
    rw [if_pos rfl]
    exact reads_get _ key val _ v l w hl hp hle hll (l.getD (placeL l key) ([], [])) (fun h => by
      obtain ⟨v0, hat⟩ := isAt_some h
      rw [List.getD_eq_getElem?_getD, hat]; rfl)
  rw [if_neg h1]
  by_cases h2 : op = 2
  · subst h2
    rw [if_pos rfl]
    exact reads_all key val v l w hl hll
  rw [if_neg h2]
  exact reads_none op key val v w (by simp; omega) (by simp; omega)
end Go.Proofs.YtpaioaljopjpkaaGreatDoor
