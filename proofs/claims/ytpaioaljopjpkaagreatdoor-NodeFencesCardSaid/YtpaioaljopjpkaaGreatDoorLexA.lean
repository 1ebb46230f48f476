import Derived.Test.YtpaioaljopjpkaaGreatDoorProg
import Derived.Test.YtpaioaljopjpkaaGreatDoorSpec
import Derived.WalkKit
import Derived.OwnWalk
import Derived.Below
import Derived.KernelRfl
import Derived.Outline
import Derived.Deep.QuietTactic
import Derived.BigQuiet
import Derived.LoopTactic
import Derived.Deep.LoopGhost
import Derived.Lib.Hide
namespace Go.Proofs.YtpaioaljopjpkaaGreatDoor
open Go.RowKit

theorem ret_bool {a b : Bool} (h : a = b) : Ending.returned (.bool a) = .returned (.bool b) := by rw [h]
theorem ret_int {k : IntKind} {a b : Int} (h : a = b) : Ending.returned (.int k a) = .returned (.int k b) := by rw [h]
theorem byte_eq (c d : UInt8) : (c == d) = ((c.toNat : Int) == d.toNat) := by
  rw [Bool.eq_iff_iff]; simp [← UInt8.toNat_inj]; omega

theorem letter_calls (c : UInt8) (w : World) : Calls Tryz.prog 128 #[.int .u8 c.toNat] w fun e w' => e = .returned (.bool (Sg.letter c)) ∧ w' = w := by
  have HL : Hid (Sg.letter c = ((decide ((65 : Int) ≤ c.toNat) && decide ((c.toNat : Int) ≤ 90)) || (decide ((97 : Int) ≤ c.toNat) && decide ((c.toNat : Int) ≤ 122)) || ((c.toNat : Int) == 95))) := by
    unfold Hid Sg.letter
    rw [byte_eq]
    simp only [UInt8.le_iff_toNat_le]
    rw [Bool.eq_iff_iff]; simp; omega
  go_enter Tryz.func128, Tryz.ntmps128
  go_wp2
  all_goals
    go_ret
    refine ⟨ret_bool ?_, rfl⟩
    rw [HL.out, Bool.eq_iff_iff]; simp; try omega

theorem digit_calls (c : UInt8) (w : World) : Calls Tryz.prog 131 #[.int .u8 c.toNat] w fun e w' => e = .returned (.bool (Sg.digit c)) ∧ w' = w := by
  have HL : Hid (Sg.digit c = (decide ((48 : Int) ≤ c.toNat) && decide ((c.toNat : Int) ≤ 57))) := by
    unfold Hid Sg.digit
    simp only [UInt8.le_iff_toNat_le]
    rw [Bool.eq_iff_iff]; simp; omega
  go_enter Tryz.func131, Tryz.ntmps131
  go_wp2
  all_goals
    go_ret
    refine ⟨ret_bool ?_, rfl⟩
    rw [HL.out, Bool.eq_iff_iff]; simp; try omega

theorem one1_calls (c : UInt8) (w : World) : Calls Tryz.prog 130 #[.int .u8 c.toNat] w fun e w' => e = .returned (.bool (Sg.letter c || Sg.digit c)) ∧ w' = w := by
  go_enter Tryz.func130, Tryz.ntmps130
  go_wp2_with (first | (go_at_call 128; refine (letter_calls _ _).mono ?_; rintro e w' ⟨rfl, rfl⟩) | (go_at_call 131; refine (digit_calls _ _).mono ?_; rintro e w' ⟨rfl, rfl⟩))
  all_goals
    go_ret
    exact ⟨ret_bool (by simp [*]), rfl⟩

theorem runL_at (p : UInt8 → Bool) (s : ByteArray) (k : Nat) (hk : k ≤ s.size) (hall : ∀ j, (h : j < s.size) → j < k → p s[j] = true) (hend : ∀ h : k < s.size, p s[k] = false) : Sg.runL p s.data.toList = k := by
  have h1 : s.data.toList = s.data.toList.take k ++ s.data.toList.drop k := (List.take_append_drop ..).symm
  have hl : s.data.toList.length = s.size := by simp
  unfold Sg.runL
  rw [h1, List.takeWhile_append_of_pos]
  · rw [List.length_append, List.length_take, hl, Nat.min_eq_left hk]
    have : (List.drop k s.data.toList).takeWhile p = [] := by
      by_cases h : k < s.size
      · rw [List.drop_eq_getElem_cons (by omega)]
        have := hend h
        rw [List.takeWhile_cons_of_neg]
        simpa [ByteArray.getElem_eq_getElem_data] using this
      · rw [List.drop_eq_nil_of_le (by omega)]; rfl
    rw [this]; simp
  · intro a ha
    obtain ⟨j, hj, rfl⟩ := List.mem_iff_getElem.1 ha
    simp only [List.length_take] at hj
    have := hall j (by omega) (by omega)
    simpa [ByteArray.getElem_eq_getElem_data] using this

theorem run_calls (g : FuncId) (p : UInt8 → Bool) (hc : ∀ args w, (callFunc g args).run Tryz.prog w = .ok (.enter g args) w)
   (hg : ∀ c w, Calls Tryz.prog g #[.int .u8 (UInt8.toNat c)] w fun e w' => e = .returned (.bool (p c)) ∧ w' = w) (s : ByteArray) (hs : s.size ≤ maxLen) (w : World) :
   Calls Tryz.prog 129 #[.string s, .func (.func g) #[] #[]] w fun e w' => e = .returned (.int .i64 (Sg.runL p s.data.toList)) ∧ w' = w := by
  unfold maxLen at hs
  have HG := Lib.hid hg; clear hg
  go_enter Tryz.func129, Tryz.ntmps129
  go_wp2
  go_loop [5] (fun i => ∃ k : Nat, k ≤ s.size ∧ i = .int .i64 k ∧ (∀ j, (h : j < s.size) → j < k → p s[j] = true)) (fun i => s.size - (intOf i).toNat)
  case atStart => exact ⟨0, Nat.zero_le _, rfl, fun j _ h => absurd h (by omega)⟩
  case round =>
    obtain ⟨k, hk, rfl, hall⟩ := hrel
    have HA := Lib.hid hall; clear hall
    by_cases hlt : k < s.size
    · go_wp2_with fail
      refine (HG.out _ _).mono ?_
      rintro e w' ⟨rfl, rfl⟩
      go_wp2
      · have hp : p s[k] = true := by assumption
        refine ⟨⟨k + 1, hlt, by go_num, fun j h hj => ?_⟩, by simp [intOf]; omega⟩
        rcases Nat.lt_succ_iff_lt_or_eq.1 hj with h' | rfl
        · exact HA.out j h h'
        · exact hp
      · have hp : p s[k] = false := by assumption
        go_ret
        exact ⟨ret_int (by rw [runL_at p s k hk HA.out (fun _ => hp)]), rfl⟩
    · go_wp2
      go_ret
      exact ⟨ret_int (by rw [runL_at p s k hk HA.out (fun h => absurd h hlt)]), rfl⟩
end Go.Proofs.YtpaioaljopjpkaaGreatDoor
