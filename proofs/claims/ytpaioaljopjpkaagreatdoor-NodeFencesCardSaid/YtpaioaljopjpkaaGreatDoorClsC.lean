/- Walks of class.word, class.has and the rules that call them. Conditions: the slices read as lists. -/
import Derived.Test.YtpaioaljopjpkaaGreatDoorClsB
namespace Go.Proofs.YtpaioaljopjpkaaGreatDoor
open Go.RowKit

/-- is the token of a place one of some words? -/
def wordL (l : List Sg.Tok) (i : Nat) (ws : List Sg.B) : Bool :=
  match l[i]? with
  | some t => t.kind == 1 && ws.contains t.text
  | none => false
def hasL (l : List Sg.Tok) (ws : List Sg.B) : Bool := l.any fun t => t.kind == 1 && ws.contains t.text

def ba (l : Sg.B) : ByteArray := ⟨l.toArray⟩
/-- a slice of texts at the head of a block. -/
def StrsAt (w : World) (v : Value) (ws : List Sg.B) : Prop :=
  ∃ b c, v = .slice (some ⟨b, 0, none⟩) ws.length c ∧ b < w.heap.size ∧ ∀ j, j < ws.length → w.cell? ⟨b, j, none⟩ = some (.string (ba (ws.getD j [])))

theorem ba_inj {x y : Sg.B} (h : ba x = ba y) : x = y := by
  have h1 := congrArg (fun b : ByteArray => b.data.toList) h
  simpa [ba] using h1
theorem containsS_ba (ws : List Sg.B) (x : Sg.B) : Lib.containsS (ws.map ba) (ba x) = ws.contains x := by
  rw [Bool.eq_iff_iff, Lib.containsS_iff, List.contains_iff_mem, List.mem_map]
  constructor
  · rintro ⟨y, hy, h⟩; rw [← ba_inj h]; exact hy
  · intro h; exact ⟨x, h, rfl⟩
theorem strsAt_new (w : World) (ws : List Sg.B) (c : Nat) : StrsAt (w.alloc (.cells (ws.map fun x => Value.string (ba x)).toArray 9)) (.slice (some ⟨w.heap.size, 0, none⟩) ws.length c) ws := by
  refine ⟨_, c, rfl, by simp, fun j hj => ?_⟩
  unfold World.cell?
  rw [heap_alloc_new]
  simp [List.getElem?_eq_getElem hj, List.getD_eq_getElem?_getD]
theorem StrsAt.below {w w1 : World} {v : Value} {ws : List Sg.B} {B : Nat} (h : StrsAt w v ws) (hb : Below B w w1) (hB : w.heap.size ≤ B) : StrsAt w1 v ws := by
  obtain ⟨b, c, rfl, h1, h2⟩ := h
  exact ⟨b, c, rfl, by have := hb.size; omega, fun j hj => (hb.cell (p := ⟨b, j, none⟩) (by show b < B; omega)).trans (h2 j hj)⟩

set_option maxRecDepth 100000 in
set_option maxHeartbeats 1000000 in
theorem word_calls (v sv : Value) (l : List Sg.Tok) (i : Nat) (ws : List Sg.B) (w : World) (hl : TokAt w v l) (hs : StrsAt w sv ws) (hws : ws.length ≤ 1000) (hi : i ≤ 1000) :
    Calls Tryz.prog 170 #[v, .int .i64 i, sv] w fun e w' => e = .returned (.bool (wordL l i ws)) ∧ w' = w := by
  obtain ⟨b, c, rfl, hb, hc⟩ := hs
  have HC := Lib.hid hc; clear hc
  by_cases hlt : i < l.length
  · obtain ⟨t, ht⟩ : ∃ t, l[i]? = some t := ⟨l[i], List.getElem?_eq_getElem hlt⟩
    obtain ⟨g, off, c2, rfl, h1, h2, h3, h4⟩ := hl.cells (by omega)
    obtain ⟨q0, q1⟩ := h4 i t ht
    have HT := Lib.hid ht; clear ht h4 hl
    unfold maxLen at h2
    by_cases hk : t.kind = 1
    · have hkb : ((t.kind : Int) == 1) = true := by simp; omega
      have HK := Lib.hid hk; clear hk
      have HCON : Hid (Calls Tryz.prog 203 #[.slice (some ⟨b, 0, none⟩) ws.length c, .string ⟨t.text.toArray⟩] w fun e w' => e = .returned (.bool (Lib.containsS (ws.map ba) (ba t.text))) ∧ w' = w) := by
        by_cases hz : ws.length = 0
        · have := Tryz.slices_Contains_string_empty (some ⟨b, 0, none⟩) c (ba t.text) w
          obtain rfl : ws = [] := List.eq_nil_of_length_eq_zero hz
          exact this
        · have := Tryz.slices_Contains_string b 0 ws.length c (ws.map ba) (ba t.text) w (by simp) (by omega) (fun j hj => by
            have h := HC.out j (by simpa using hj)
            rw [Nat.zero_add, h]
            have hj2 : j < ws.length := by simpa using hj
            simp [List.getD_eq_getElem?_getD, List.getElem?_eq_getElem hj2])
          rw [List.take_of_length_le (by simp)] at this
          exact this
      go_enter Tryz.func170, Tryz.ntmps170
      go_wp2_with (go_at_call 203; refine (HCON.out).mono ?_; rintro e w' ⟨rfl, rfl⟩)
      go_ret
      refine ⟨ret_bool ?_, rfl⟩
      unfold wordL; rw [HT.out, containsS_ba]; simp [HK.out]
    · have hkb : ((t.kind : Int) == 1) = false := by simp; omega
      go_enter Tryz.func170, Tryz.ntmps170
      go_wp2
      go_ret
      refine ⟨ret_bool ?_, rfl⟩
      unfold wordL; rw [HT.out]; simp [hk]
  · obtain ⟨a, c2, rfl, _⟩ := hl
    have hn : l[i]? = none := List.getElem?_eq_none (by omega)
    have HN := Lib.hid hn; clear hn
    go_enter Tryz.func170, Tryz.ntmps170
    go_wp2
    go_ret
    refine ⟨ret_bool ?_, rfl⟩
    unfold wordL; rw [HN.out]

theorem hasL_word (l : List Sg.Tok) (ws : List Sg.B) (k : Nat) (t : Sg.Tok) (h : l[k]? = some t) : wordL l k ws = (t.kind == 1 && ws.contains t.text) := by
  unfold wordL; rw [h]

set_option maxRecDepth 100000 in
set_option maxHeartbeats 1000000 in
theorem has_calls (v sv : Value) (l : List Sg.Tok) (ws : List Sg.B) (w : World) (hl : TokAt w v l) (hs : StrsAt w sv ws) (hws : ws.length ≤ 1000) (hll : l.length ≤ 1000) :
    Calls Tryz.prog 173 #[v, sv] w fun e w' => e = .returned (.bool (hasL l ws)) ∧ w' = w := by
  have HW := Lib.hid (fun i hi => word_calls v sv l i ws w hl hs hws hi)
  obtain ⟨a, c, rfl, _⟩ := hl
  obtain ⟨b, c2, rfl, _⟩ := hs
  go_enter Tryz.func173, Tryz.ntmps173
  go_wp2
  go_loopg [8] l.length (fun n i wr => ∃ k : Nat, n + k = l.length ∧ i = .int .i64 k ∧ wr = w ∧ Hid (∀ (j : Nat) (t : Sg.Tok), j < k → l[j]? = some t → (t.kind == 1 && ws.contains t.text) = false))
  case atStart => exact ⟨0, by omega, rfl, rfl, fun j t h => absurd h (by omega)⟩
  case round =>
    obtain ⟨k, hk, rfl, hww, HA⟩ := hrel
    subst hww
    by_cases hlt : k < l.length
    · obtain ⟨t, ht⟩ : ∃ t, l[k]? = some t := ⟨l[k], List.getElem?_eq_getElem hlt⟩
      have HT := Lib.hid ht
      have HX := Lib.hid (hasL_word l ws k t ht); clear ht
      go_wp2_with (go_at_call 170; refine (HW.out k (by omega)).mono ?_; rintro e w' ⟨rfl, rfl⟩)
      · have hw : wordL l k ws = true := by assumption
        go_ret
        refine ⟨ret_bool ?_, rfl⟩
        rw [HX.out] at hw
        unfold hasL
        symm
        rw [List.any_eq_true]
        exact ⟨t, List.mem_of_getElem? HT.out, hw⟩
      · have hw : wordL l k ws = false := by assumption
        go_roundg (l.length - (k + 1))
        case measure => omega
        case rel =>
          refine ⟨k + 1, by omega, by go_num, rfl, fun j u hj hu => ?_⟩
          rcases Nat.lt_succ_iff_lt_or_eq.1 hj with h' | rfl
          · exact HA.out j u h' hu
          · rw [HT.out] at hu; cases hu; rw [← HX.out]; exact hw
    · go_wp2
      go_ret
      refine ⟨ret_bool ?_, rfl⟩
      unfold hasL
      symm
      rw [List.any_eq_false]
      intro t ht
      obtain ⟨j, hj, rfl⟩ := List.mem_iff_getElem.1 ht
      have := HA.out j l[j] (by omega) (List.getElem?_eq_getElem hj)
      simpa using this
end Go.Proofs.YtpaioaljopjpkaaGreatDoor
