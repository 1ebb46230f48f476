/- Walks of class's rules but explain. Conditions: the tokens read as a list of at most 1000. -/
import Derived.Test.YtpaioaljopjpkaaGreatDoorClsC
namespace Go.Proofs.YtpaioaljopjpkaaGreatDoor
open Go.RowKit

def beginR (l : List Sg.Tok) : Nat := if l.length = 1 ∨ (l.length = 2 ∧ wordL l 1 [[87, 79, 82, 75], [84, 82, 65, 78, 83, 65, 67, 84, 73, 79, 78]] = true) then 3 else 7
def startR (l : List Sg.Tok) : Nat := if wordL l 1 [[84, 82, 65, 78, 83, 65, 67, 84, 73, 79, 78]] = true then 3 else 7
def setR (l : List Sg.Tok) : Nat := if wordL l 1 [[65, 85, 84, 79, 67, 79, 77, 77, 73, 84], [71, 76, 79, 66, 65, 76], [80, 69, 82, 83, 73, 83, 84]] = true then 7 else 6
def asksR (l : List Sg.Tok) : Nat := if hasL l [[73, 78, 83, 69, 82, 84], [85, 80, 68, 65, 84, 69], [68, 69, 76, 69, 84, 69], [82, 69, 80, 76, 65, 67, 69], [73, 78, 84, 79], [83, 72, 65, 82, 69]] = true then 2 else if wordL l 0 [[87, 73, 84, 72]] = true ∧ hasL l [[83, 69, 76, 69, 67, 84]] = false then 7 else 1
def endsR (c : Int) (l : List Sg.Tok) : Int := if l.length = 1 ∨ (l.length = 2 ∧ wordL l 1 [[87, 79, 82, 75]] = true) then c else 7

theorem strsAt_new' (w : World) (ws : List Sg.B) (c g : Nat) (hg : w.heap.size = g) : StrsAt (w.alloc (.cells (ws.map fun x => Value.string (ba x)).toArray 9)) (.slice (some ⟨g, 0, none⟩) ws.length c) ws := by
  subst hg; exact strsAt_new w ws c
theorem word_new (v : Value) (l : List Sg.Tok) (i : Nat) (ws : List Sg.B) (c g : Nat) (w : World) (hl : TokAt w v l) (hg : w.heap.size = g) (hws : ws.length ≤ 1000) (hi : i ≤ 1000) :
    Calls Tryz.prog 170 #[v, .int .i64 i, .slice (some ⟨g, 0, none⟩) ws.length c] (w.alloc (.cells (ws.map fun x => Value.string (ba x)).toArray 9)) fun e w' => e = .returned (.bool (wordL l i ws)) ∧ w' = w.alloc (.cells (ws.map fun x => Value.string (ba x)).toArray 9) :=
  word_calls v _ l i ws _ (hl.below ((Below.refl _ _).alloc (Nat.le_refl _) _) (Nat.le_refl _)) (strsAt_new' w ws c g hg) hws hi

set_option maxRecDepth 100000 in
set_option maxHeartbeats 1000000 in
theorem start_calls (cv v : Value) (l : List Sg.Tok) (w : World) (hl : TokAt w v l) :
    Calls Tryz.prog 138 #[cv, v] w fun e w' => e = .returned (.int .i64 (startR l)) ∧ Below w.heap.size w w' := by
  have HW := Lib.hid (word_new v l 1 [[84, 82, 65, 78, 83, 65, 67, 84, 73, 79, 78]] 1 _ w hl rfl (by decide) (by decide))
  obtain ⟨a, c, rfl, _⟩ := hl
  go_enter Tryz.func138, Tryz.ntmps138
  go_wp2_with (go_at_call 170; go_must (refine HW.out.mono ?_; rintro e w' ⟨rfl, rfl⟩))
  all_goals
    go_ret
    refine ⟨ret_int ?_, (Below.refl _ _).alloc (Nat.le_refl _) _⟩
    simp_all [startR]

set_option maxRecDepth 100000 in
set_option maxHeartbeats 1000000 in
theorem set_calls (cv v : Value) (l : List Sg.Tok) (w : World) (hl : TokAt w v l) :
    Calls Tryz.prog 140 #[cv, v] w fun e w' => e = .returned (.int .i64 (setR l)) ∧ Below w.heap.size w w' := by
  have HW := Lib.hid (word_new v l 1 [[65, 85, 84, 79, 67, 79, 77, 77, 73, 84], [71, 76, 79, 66, 65, 76], [80, 69, 82, 83, 73, 83, 84]] 3 _ w hl rfl (by decide) (by decide))
  obtain ⟨a, c, rfl, _⟩ := hl
  go_enter Tryz.func140, Tryz.ntmps140
  go_wp2_with (go_at_call 170; go_must (refine HW.out.mono ?_; rintro e w' ⟨rfl, rfl⟩))
  all_goals
    go_ret
    refine ⟨ret_int ?_, (Below.refl _ _).alloc (Nat.le_refl _) _⟩
    simp_all [setR]

set_option maxRecDepth 100000 in
set_option maxHeartbeats 1000000 in
theorem begin_calls (cv v : Value) (l : List Sg.Tok) (w : World) (hl : TokAt w v l) :
    Calls Tryz.prog 137 #[cv, v] w fun e w' => e = .returned (.int .i64 (beginR l)) ∧ Below w.heap.size w w' := by
  have HW := Lib.hid (word_new v l 1 [[87, 79, 82, 75], [84, 82, 65, 78, 83, 65, 67, 84, 73, 79, 78]] 2 _ w hl rfl (by decide) (by decide))
  obtain ⟨a, c, rfl, hlc, hmx, _⟩ := hl
  unfold maxLen at hmx
  by_cases h1 : l.length = 1
  · have b1 : ((l.length : Int) == 1) = true := by simp; omega
    have H1 := Lib.hid h1; clear h1
    go_enter Tryz.func137, Tryz.ntmps137
    go_wp2
    go_ret
    exact ⟨ret_int (by have h1 := H1.out; simp [beginR, h1]), Below.refl _ _⟩
  · have b1 : ((l.length : Int) == 1) = false := by simp; omega
    by_cases h2 : l.length = 2
    · have b2 : ((l.length : Int) == 2) = true := by simp; omega
      have H2 := Lib.hid h2; clear h2
      go_enter Tryz.func137, Tryz.ntmps137
      go_wp2_with (go_at_call 170; go_must (refine HW.out.mono ?_; rintro e w' ⟨rfl, rfl⟩))
      all_goals
        go_ret
        refine ⟨ret_int ?_, (Below.refl _ _).alloc (Nat.le_refl _) _⟩
        have h2 := H2.out
        simp_all [beginR]
    · have b2 : ((l.length : Int) == 2) = false := by simp; omega
      go_enter Tryz.func137, Tryz.ntmps137
      go_wp2
      go_ret
      exact ⟨ret_int (by simp [beginR, h1, h2]), Below.refl _ _⟩

set_option maxRecDepth 100000 in
set_option maxHeartbeats 1000000 in
theorem ends1_calls (cv v : Value) (l : List Sg.Tok) (b : Nat) (k : Int) (w : World) (hl : TokAt w v l) (hk : w.cell? ⟨b, 0, none⟩ = some (.int .i64 k)) :
    Calls Tryz.prog 171 #[cv, v, .pointer (some ⟨b, 0, none⟩)] w fun e w' => e = .returned (.int .i64 (endsR k l)) ∧ Below w.heap.size w w' := by
  have hk2 : ∀ o, (w.alloc o).cell? ⟨b, 0, none⟩ = some (.int .i64 k) := fun o => (World.cell?_alloc_past o b 0 (World.block_lt_of_cell? w _ hk)).trans hk
  have HW := Lib.hid (word_new v l 1 [[87, 79, 82, 75]] 1 _ w hl rfl (by decide) (by decide))
  obtain ⟨a, c, rfl, hlc, hmx, _⟩ := hl
  unfold maxLen at hmx
  by_cases h1 : l.length = 1
  · have b1 : ((l.length : Int) == 1) = true := by simp; omega
    have H1 := Lib.hid h1; clear h1
    go_enter Tryz.func171, Tryz.ntmps171
    go_wp2
    go_ret
    exact ⟨ret_int (by have h1 := H1.out; simp [endsR, h1]), Below.refl _ _⟩
  · have b1 : ((l.length : Int) == 1) = false := by simp; omega
    by_cases h2 : l.length = 2
    · have b2 : ((l.length : Int) == 2) = true := by simp; omega
      have H2 := Lib.hid h2; clear h2
      go_enter Tryz.func171, Tryz.ntmps171
      go_wp2_with (go_at_call 170; go_must (refine HW.out.mono ?_; rintro e w' ⟨rfl, rfl⟩))
      all_goals
        go_ret
        refine ⟨ret_int ?_, (Below.refl _ _).alloc (Nat.le_refl _) _⟩
        have h2 := H2.out
        simp_all [endsR]
    · have b2 : ((l.length : Int) == 2) = false := by simp; omega
      go_enter Tryz.func171, Tryz.ntmps171
      go_wp2
      go_ret
      exact ⟨ret_int (by simp [endsR, h1, h2]), Below.refl _ _⟩

set_option maxRecDepth 100000 in
set_option maxHeartbeats 1000000 in
theorem always1_calls (cv v : Value) (b : Nat) (k : Int) (w : World) (hk : w.cell? ⟨b, 0, none⟩ = some (.int .i64 k)) :
    Calls Tryz.prog 172 #[cv, v, .pointer (some ⟨b, 0, none⟩)] w fun e w' => e = .returned (.int .i64 k) ∧ Below w.heap.size w w' := by
  go_enter Tryz.func172, Tryz.ntmps172
  go_wp2
  go_ret
  exact ⟨rfl, Below.refl _ _⟩

theorem ends_calls (k : Int) (w : World) :
    Calls Tryz.prog 139 #[.int .i64 k] w fun e w' => e = .returned (.func (.func 171) #[] #[.pointer (some ⟨w.heap.size, 0, none⟩)]) ∧ w' = w.alloc (.cells #[.int .i64 k] 3) := by
  have hmf : ∀ (fn : Fn) (first cap : Array Value) (w : World), (Instr.makeFunc fn first cap).run Tryz.prog w = .ok (.func fn first cap) w := fun _ _ _ _ => rfl
  go_enter Tryz.func139, Tryz.ntmps139
  go_wp2
  go_ret
  exact ⟨rfl, rfl⟩

theorem always_calls (k : Int) (w : World) :
    Calls Tryz.prog 141 #[.int .i64 k] w fun e w' => e = .returned (.func (.func 172) #[] #[.pointer (some ⟨w.heap.size, 0, none⟩)]) ∧ w' = w.alloc (.cells #[.int .i64 k] 3) := by
  have hmf : ∀ (fn : Fn) (first cap : Array Value) (w : World), (Instr.makeFunc fn first cap).run Tryz.prog w = .ok (.func fn first cap) w := fun _ _ _ _ => rfl
  go_enter Tryz.func141, Tryz.ntmps141
  go_wp2
  go_ret
  exact ⟨rfl, rfl⟩

theorem has_new (v : Value) (l : List Sg.Tok) (ws : List Sg.B) (c g : Nat) (w : World) (hl : TokAt w v l) (hg : w.heap.size = g) (hws : ws.length ≤ 1000) (hll : l.length ≤ 1000) :
    Calls Tryz.prog 173 #[v, .slice (some ⟨g, 0, none⟩) ws.length c] (w.alloc (.cells (ws.map fun x => Value.string (ba x)).toArray 9)) fun e w' => e = .returned (.bool (hasL l ws)) ∧ w' = w.alloc (.cells (ws.map fun x => Value.string (ba x)).toArray 9) :=
  has_calls v _ l ws _ (hl.below ((Below.refl _ _).alloc (Nat.le_refl _) _) (Nat.le_refl _)) (strsAt_new' w ws c g hg) hws hll

set_option maxRecDepth 100000 in
set_option maxHeartbeats 1000000 in
theorem asks_calls (cv v : Value) (l : List Sg.Tok) (w : World) (hl : TokAt w v l) (hll : l.length ≤ 1000) :
    Calls Tryz.prog 142 #[cv, v] w fun e w' => e = .returned (.int .i64 (asksR l)) ∧ Below w.heap.size w w' := by
  have H1 := Lib.hid (fun g w hl hg => has_new v l [[73, 78, 83, 69, 82, 84], [85, 80, 68, 65, 84, 69], [68, 69, 76, 69, 84, 69], [82, 69, 80, 76, 65, 67, 69], [73, 78, 84, 79], [83, 72, 65, 82, 69]] 6 g w hl hg (by decide) hll)
  have H2 := Lib.hid (fun g w hl hg => word_new v l 0 [[87, 73, 84, 72]] 1 g w hl hg (by decide) (by decide))
  have H3 := Lib.hid (fun g w hl hg => has_new v l [[83, 69, 76, 69, 67, 84]] 1 g w hl hg (by decide) hll)
  have HL := Lib.hid hl
  have HL1 : Hid (∀ o, TokAt (w.alloc o) v l) := fun o => hl.below ((Below.refl _ _).alloc (Nat.le_refl _) _) (Nat.le_refl _)
  have HL2 : Hid (∀ o o2, TokAt ((w.alloc o).alloc o2) v l) := fun o o2 => hl.below (((Below.refl _ _).alloc (Nat.le_refl _) _).alloc (by simp) _) (Nat.le_refl _)
  have b1 := Lib.hid ((Below.refl w.heap.size w).alloc (Nat.le_refl _))
  have b2 : Hid (∀ o o2, Below w.heap.size w ((w.alloc o).alloc o2)) := fun o o2 => ((Below.refl _ _).alloc (Nat.le_refl _) _).alloc (by simp) _
  have b3 : Hid (∀ o o2 o3, Below w.heap.size w (((w.alloc o).alloc o2).alloc o3)) := fun o o2 o3 => (((Below.refl _ _).alloc (Nat.le_refl _) _).alloc (by simp) _).alloc (by simp; omega) _
  obtain ⟨a, c, rfl, hlc, hmx, _⟩ := hl
  unfold maxLen at hmx
  go_enter Tryz.func142, Tryz.ntmps142
  go_wp2_with fail
  refine (H1.out _ _ HL.out rfl).mono ?_
  rintro e w1 ⟨rfl, rfl⟩
  go_wp2_with fail
  · go_ret
    refine ⟨ret_int ?_, b1.out _⟩
    simp_all [asksR]
  · refine (H2.out _ _ (HL1.out _) (by simp)).mono ?_
    rintro e w1 ⟨rfl, rfl⟩
    go_wp2_with fail
    · refine (H3.out _ _ (HL2.out _ _) (by simp)).mono ?_
      rintro e w1 ⟨rfl, rfl⟩
      go_wp2
      all_goals
        go_ret
        refine ⟨ret_int ?_, b3.out _ _ _⟩
        simp_all [asksR]
    · go_ret
      refine ⟨ret_int ?_, b2.out _ _⟩
      simp_all [asksR]

end Go.Proofs.YtpaioaljopjpkaaGreatDoor
