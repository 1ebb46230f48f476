/- The walks of lex.great and lex.quoted, which write into a strings.Builder: what they answer, and that nothing that was there has turned. Conditions: a text of at most 1000 bytes; for great, of ASCII. -/
import Derived.Test.YtpaioaljopjpkaaGreatDoorLexA
import Derived.Test.YtpaioaljopjpkaaGreatDoorShelf
import Derived.Test.YtpaioaljopjpkaaGreatDoorBld
import Derived.BigCall
namespace Go.Proofs.YtpaioaljopjpkaaGreatDoor
open Go.RowKit

theorem take_snoc (s : ByteArray) (k : Nat) (h : k < s.size) : s.data.toList.take (k + 1) = s.data.toList.take k ++ [s[k]] := by
  rw [List.take_succ_eq_append_getElem (by simpa using h)]; rfl

theorem up_toNat (c : UInt8) : (Sg.up c).toNat = if 97 ≤ c.toNat ∧ c.toNat ≤ 122 then c.toNat - 32 else c.toNat := by
  unfold Sg.up
  have e : (97 ≤ c && c ≤ 122) = decide (97 ≤ c.toNat ∧ c.toNat ≤ 122) := by
    rw [Bool.eq_iff_iff]; simp [UInt8.le_iff_toNat_le]
  rw [e]
  by_cases h : 97 ≤ c.toNat ∧ c.toNat ≤ 122
  · simp only [h, and_self, decide_true, if_true]
    rw [UInt8.toNat_sub_of_le _ _ (by rw [UInt8.le_iff_toNat_le]; simp; omega)]
    rfl
  · simp only [h, decide_false, if_false]; rfl

theorem upCells (c : UInt8) (n : Int) (h : n = (Sg.up c).toNat) (h1 : n ≤ 127) : Lib.runeCells n = Lib.byteCells [Sg.up c] := by
  rw [Lib.runeCells, Lib.encodeRuneZ_one (by omega) h1, h]; rfl

set_option maxHeartbeats 1000000 in
set_option maxRecDepth 1000000 in
theorem great_calls (s : ByteArray) (w : World) (hs : s.size ≤ 1000) (ha : ∀ j, (h : j < s.size) → s[j].toNat < 128) :
    Calls Tryz.prog 132 #[.string s] w fun e w' => e = .returned (.string ⟨(s.data.toList.map Sg.up).toArray⟩) ∧ Below w.heap.size w w' := by
  have HA := Lib.hid ha; clear ha
  go_enter Tryz.func132, Tryz.ntmps132
  go_wp2
  go_loopw [] (fun wr => ∃ (pos : Nat), pos ≤ s.size ∧ Lib.IsBuilderF 213 5 w.heap.size w.heap.size (Lib.byteCells ((s.data.toList.take pos).map Sg.up)) wr ∧ wr.heap[w.heap.size + 1]? = some (.stringIter s pos) ∧ Below w.heap.size w wr) (fun wr => s.size - wr.iterPos (w.heap.size + 1))
  case atStart =>
    refine ⟨0, by omega, (Lib.IsBuilderF.of (Lib.fresh_isBuilder 213 5 w)).alloc _, ?_, ((Below.refl _ w).alloc (Nat.le_refl _) _).alloc (by simp) _⟩
    have := World.iter_heap (w.alloc (.cells #[.pointer none, .slice none 0 0] 213)) s 0
    simpa using this
  case round =>
    obtain ⟨pos, hps, hI, hit, hbw⟩ := hrel
    have hsz : w.heap.size + 1 < wr.heap.size := (Array.getElem?_eq_some_iff.1 hit).1
    by_cases hp : pos < s.size
    · have hasc := HA.out pos hp
      have hnx : ∀ ty, (Instr.next (.pointer (some ⟨w.heap.size + 1, 0, none⟩)) true ty).run Tryz.prog wr = _ := fun ty => Lib.run_next_ascii_at wr (w.heap.size + 1) s pos ty hit hp hasc
      have hI2 := hI.iterAt hit (pos + 1)
      have hit2 := Lib.iterAt_heap wr (w.heap.size + 1) s pos (pos + 1) hit
      have hbw2 := Lib.below_iterAt hbw (k := w.heap.size + 1) (by omega) s (pos + 1)
      have hsz2 : w.heap.size ≤ (wr.iterAt (w.heap.size + 1) s (pos + 1)).heap.size := by rw [Lib.iterAt_size]; omega
      have hup := up_toNat s[pos]
      have hsn := take_snoc s pos hp
      have hlen : (Lib.byteCells ((s.data.toList.take pos).map Sg.up)).length ≤ 1000 := by rw [Lib.byteCells_length]; simp; omega
      have HS : Hid (s.data.toList.take (pos + 1) = s.data.toList.take pos ++ [s[pos]]) := hsn
      clear hsn
      by_cases hc : 97 ≤ s[pos].toNat ∧ s[pos].toNat ≤ 122
      · obtain ⟨h1, h2⟩ := hc
        rw [if_pos ⟨h1, h2⟩] at hup
        have HU : Hid ((Sg.up s[pos]).toNat = s[pos].toNat - 32) := hup
        clear hup
        go_wp2_with (go_at_call 166; refine (Tryz.Builder_WriteRune_k w.heap.size w.heap.size _ _ (by omega) (by omega) _ hI2 (by omega) hsz2).mono ?_; rintro e W1 ⟨rfl, h3, b1, k1⟩)
        go_roundw
        case rel =>
          rw [upCells s[pos] _ (by rw [HU.out]; omega) (by omega), ← Lib.byteCells_append] at h3
          refine ⟨pos + 1, by omega, ?_, k1.iter hit2 (by omega), hbw2.trans b1⟩
          rw [HS.out, List.map_append]; exact Or.inr h3
        case measure =>
          simp only [World.iterPos, k1.iter hit2 (by omega), hit]
          omega
      · rw [if_neg hc] at hup
        have HU : Hid ((Sg.up s[pos]).toNat = s[pos].toNat) := hup
        clear hup
        rcases Nat.lt_or_ge s[pos].toNat 97 with hc1 | hc1
        all_goals
          (try have hc2 : 122 < s[pos].toNat := by omega)
          clear hc
          go_wp2_with (go_at_call 166; refine (Tryz.Builder_WriteRune_k w.heap.size w.heap.size _ _ (by omega) (by omega) _ hI2 (by omega) hsz2).mono ?_; rintro e W1 ⟨rfl, h3, b1, k1⟩)
          go_roundw
          case rel =>
            rw [upCells s[pos] _ (by rw [HU.out]) (by omega), ← Lib.byteCells_append] at h3
            refine ⟨pos + 1, by omega, ?_, k1.iter hit2 (by omega), hbw2.trans b1⟩
            rw [HS.out, List.map_append]; exact Or.inr h3
          case measure =>
            simp only [World.iterPos, k1.iter hit2 (by omega), hit]
            omega
    · have hnx : ∀ ty, (Instr.next (.pointer (some ⟨w.heap.size + 1, 0, none⟩)) true ty).run Tryz.prog wr = _ := fun ty => Lib.run_next_end_at wr (w.heap.size + 1) s pos ty hit hp
      go_wp2_with (go_at_call 114; refine (Tryz.Builder_String_any_k w.heap.size w.heap.size _ _ hI (by omega)).mono ?_; rintro e W1 ⟨rfl, _, b1, _⟩)
      go_ret
      refine ⟨?_, hbw.trans b1⟩
      rw [List.take_of_length_le (by simp; omega)]; rfl

theorem quoted_end (q : UInt8) : Sg.quotedL q [] = none := rfl
theorem quoted_other (q c : UInt8) (r : Sg.B) (h : c ≠ q) : Sg.quotedL q (c :: r) = (Sg.quotedL q r).map fun x => (c :: x.1, x.2 + 1) := by
  cases r with
  | nil => simp [Sg.quotedL, h]
  | cons d r => simp [Sg.quotedL, h]
theorem quoted_last (q : UInt8) : Sg.quotedL q [q] = some ([], 1) := by simp [Sg.quotedL]
theorem quoted_stop (q d : UInt8) (r : Sg.B) (h : d ≠ q) : Sg.quotedL q (q :: d :: r) = some ([], 1) := by simp [Sg.quotedL, h]
theorem quoted_twice (q : UInt8) (r : Sg.B) : Sg.quotedL q (q :: q :: r) = (Sg.quotedL q r).map fun x => (q :: x.1, x.2 + 2) := by simp [Sg.quotedL]

def quotedV : Option (Sg.B × Nat) → Value
  | some x => .tuple #[.string ⟨x.1.toArray⟩, .int .i64 (x.2 + 1 : Int)]
  | none => .tuple #[.string ⟨#[]⟩, .int .i64 (-1)]

theorem drop_at (s : ByteArray) (k : Nat) (h : k < s.size) : s.data.toList.drop k = s[k] :: s.data.toList.drop (k + 1) := by
  rw [List.drop_eq_getElem_cons (by simpa using h)]; rfl

def QRel (s : ByteArray) (q : UInt8) (k : Nat) (acc : Sg.B) : Prop :=
  Sg.quotedL q (s.data.toList.drop 1) = (Sg.quotedL q (s.data.toList.drop k)).map fun x => (acc ++ x.1, k - 1 + x.2)

theorem QRel.other {s : ByteArray} {q : UInt8} {k : Nat} {acc : Sg.B} (h : QRel s q k acc) (h1 : 1 ≤ k) (hk : k < s.size) (hc : s[k] ≠ q) : QRel s q (k + 1) (acc ++ [s[k]]) := by
  unfold QRel at *
  rw [h, drop_at s k hk, quoted_other _ _ _ hc, Option.map_map]
  congr 1; funext x; simp; omega
theorem QRel.twice {s : ByteArray} {q : UInt8} {k : Nat} {acc : Sg.B} (h : QRel s q k acc) (h1 : 1 ≤ k) (hk : k + 1 < s.size) (hc : s[k]'(by omega) = q) (hd : s[k + 1] = q) : QRel s q (k + 2) (acc ++ [q]) := by
  unfold QRel at *
  rw [h, drop_at s k (by omega), drop_at s (k + 1) hk, hc, hd, quoted_twice, Option.map_map]
  congr 1; funext x; simp; omega
theorem QRel.stop {s : ByteArray} {q : UInt8} {k : Nat} {acc : Sg.B} (h : QRel s q k acc) (h1 : 1 ≤ k) (hk : k < s.size) (hc : s[k] = q) (hd : ∀ h : k + 1 < s.size, s[k + 1] ≠ q) : Sg.quotedL q (s.data.toList.drop 1) = some (acc, k) := by
  unfold QRel at h
  rw [h, drop_at s k hk, hc]
  by_cases hlt : k + 1 < s.size
  · rw [drop_at s (k + 1) hlt, quoted_stop _ _ _ (hd hlt)]; simp; omega
  · rw [List.drop_eq_nil_of_le (by simp; omega), quoted_last]; simp; omega
theorem QRel.end {s : ByteArray} {q : UInt8} {k : Nat} {acc : Sg.B} (h : QRel s q k acc) (hk : ¬ k < s.size) : Sg.quotedL q (s.data.toList.drop 1) = none := by
  unfold QRel at h
  rw [h, List.drop_eq_nil_of_le (by simp; omega), quoted_end]; rfl
theorem byteCell (c : UInt8) (l : Sg.B) : Lib.byteCells l ++ [.int .u8 (c.toNat : Int)] = Lib.byteCells (l ++ [c]) := by rw [Lib.byteCells_append]; rfl
theorem byte_ne {c d : UInt8} (h : c ≠ d) : ((c.toNat : Int) != d.toNat) = true := by
  rw [bne_iff_ne]; intro e; exact h (UInt8.toNat_inj.1 (by omega))
theorem byte_same {c d : UInt8} (h : c = d) : ((c.toNat : Int) != d.toNat) = false := by subst h; simp

set_option maxHeartbeats 1000000 in
set_option maxRecDepth 1000000 in
theorem quoted_calls (s : ByteArray) (w : World) (hs : s.size ≤ 1000) (h0 : 0 < s.size) :
    Calls Tryz.prog 133 #[.string s] w fun e w' => e = .returned (quotedV (Sg.quotedL s[0] (s.data.toList.drop 1))) ∧ Below w.heap.size w w' := by
  go_enter Tryz.func133, Tryz.ntmps133
  go_wp2
  go_loopw [6] (fun i wr => ∃ (k : Nat) (acc : Sg.B), 1 ≤ k ∧ k ≤ s.size ∧ i = .int .i64 k ∧ Lib.IsBuilderF 213 5 w.heap.size w.heap.size (Lib.byteCells acc) wr ∧ acc.length < k ∧ Below w.heap.size w wr ∧ w.heap.size ≤ wr.heap.size ∧ QRel s s[0] k acc) (fun i wr => s.size - (intOf i).toNat)
  case atStart =>
    refine ⟨1, [], by omega, by omega, rfl, (Lib.IsBuilderF.of (Lib.fresh_isBuilder 213 5 w)), by simp, ((Below.refl _ w).alloc (Nat.le_refl _) _), by simp, ?_⟩
    unfold QRel
    simp
  case round =>
    obtain ⟨k, acc, h1, hk, rfl, hI, hal, hbw, hsz, hQ⟩ := hrel
    have HQ := Lib.hid hQ; clear hQ
    have hlen : (Lib.byteCells acc).length ≤ 1000 := by rw [Lib.byteCells_length]; omega
    by_cases hlt : k < s.size
    · by_cases hc : s[k] = s[0]
      · have hb := byte_same hc
        have HC := Lib.hid hc; clear hc
        by_cases hl : k + 1 = s.size
        · have hb2 : ((k : Int) + 1 == s.size) = true := by simp; omega
          have HL := Lib.hid hl; clear hl
          have hfin := Lib.hid (HQ.out.stop h1 hlt HC.out (fun h => absurd HL.out (by omega)))
          go_wp2_with (go_at_call 114; refine (Tryz.Builder_String_any_k w.heap.size w.heap.size _ _ hI hsz).mono ?_; rintro e W1 ⟨rfl, _, b1, _⟩)
          go_ret2
          exact ⟨by rw [hfin.out]; rfl, hbw.trans b1⟩
        · have hb2 : ((k : Int) + 1 == s.size) = false := by simp; omega
          have hlt2 : k + 1 < s.size := by omega
          by_cases hd : s[k + 1] = s[0]
          · have hb3 := byte_same hd
            have HD := Lib.hid hd; clear hd
            go_wp2_with (go_at_call 167; refine (Tryz.Builder_WriteByte_k w.heap.size w.heap.size _ _ _ hI (by omega) hsz).mono ?_; rintro e W1 ⟨rfl, h3, b1, k1⟩)
            go_roundw
            case rel => exact ⟨k + 2, acc ++ [s[0]], by omega, by omega, by go_num, Or.inr (by rw [← byteCell]; exact h3), by simp; omega, hbw.trans b1, by have := b1.size; omega, HQ.out.twice h1 hlt2 HC.out HD.out⟩
            case measure => simp [intOf]; omega
          · have hb3 := byte_ne hd
            have hfin := Lib.hid (HQ.out.stop h1 hlt HC.out (fun _ => hd))
            go_wp2_with (go_at_call 114; refine (Tryz.Builder_String_any_k w.heap.size w.heap.size _ _ hI hsz).mono ?_; rintro e W1 ⟨rfl, _, b1, _⟩)
            go_ret2
            exact ⟨by rw [hfin.out]; rfl, hbw.trans b1⟩
      · have hb := byte_ne hc
        go_wp2_with (go_at_call 167; refine (Tryz.Builder_WriteByte_k w.heap.size w.heap.size _ _ _ hI (by omega) hsz).mono ?_; rintro e W1 ⟨rfl, h3, b1, k1⟩)
        go_roundw
        case rel => exact ⟨k + 1, acc ++ [s[k]], by omega, by omega, by go_num, Or.inr (by rw [← byteCell]; exact h3), by simp; omega, hbw.trans b1, by have := b1.size; omega, HQ.out.other h1 hlt hc⟩
        case measure => simp [intOf]; omega
    · have hfin := Lib.hid (HQ.out.end hlt)
      go_wp2
      go_ret2
      exact ⟨by rw [hfin.out]; rfl, hbw⟩
end Go.Proofs.YtpaioaljopjpkaaGreatDoor
