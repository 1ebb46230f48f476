/- plan.forms' functions: what a plan is, by a statement's Strings. Conditions: as many Strings as each reads. -/
import Derived.Test.YtpaioaljopjpkaaGreatDoorPlanF
set_option linter.unusedVariables false
set_option linter.unusedSimpArgs false
namespace Go.Proofs.YtpaioaljopjpkaaGreatDoor
open Go.RowKit

def StrRow (w : World) (v : Value) (l : List Sg.B) : Prop := RowAt w v l.length (strCells l)
theorem StrRow.cell {w : World} {v : Value} {l : List Sg.B} (h : StrRow w v l) (h0 : 0 < l.length) : ∃ g off c, v = .slice (some ⟨g, off, none⟩) l.length c ∧ l.length ≤ c ∧ c ≤ maxLen ∧ g < w.heap.size ∧
    ∀ j x, l[j]? = some x → w.cell? ⟨g, off + j, none⟩ = some (.string (ba x)) := by
  obtain ⟨g, off, c, h1, h2, h3, h4, h5⟩ := RowAt.cells h h0
  exact ⟨g, off, c, h1, h2, h3, h4, fun j x hx => h5 j _ (by simp [strCells, hx])⟩
theorem StrRow.below {w w1 : World} {v : Value} {l : List Sg.B} {B : Nat} (h : StrRow w v l) (hb : Below B w w1) (hB : w.heap.size ≤ B) : StrRow w1 v l := RowAt.below h hb hB

set_option maxRecDepth 100000 in
set_option maxHeartbeats 4000000 in
theorem form1_calls (v : Value) (l : List Sg.B) (w : World) (hl : StrRow w v l) (x : Sg.B) (hx : l[0]? = some x) : Calls Tryz.prog 115 #[v] w fun e w' => e = .returned (pnV ⟨1, x, []⟩) ∧ Below w.heap.size w w' := by
  have hlt : 0 < l.length := (List.getElem?_eq_some_iff.1 hx).1
  obtain ⟨g, off, c, rfl, hc1, hc2, hg, hcell⟩ := hl.cell (by omega)
  unfold maxLen at hc2
  have q0 := hcell _ _ hx
  try rw [Nat.add_zero] at q0
  clear hcell hl
  go_enter Tryz.func115, Tryz.ntmps115
  go_wp2
  refine bodyPost_ret (v := .agg #[.int .i64 1, .string (ba x), .string ⟨#[]⟩]) ?_ rfl ⟨rfl, (Below.refl _ _).alloc (Nat.le_refl _) _⟩
  simp [results, Tryz.results115, go_sem]

set_option maxRecDepth 100000 in
set_option maxHeartbeats 4000000 in
theorem form2_calls (v : Value) (l : List Sg.B) (w : World) (hl : StrRow w v l) : Calls Tryz.prog 116 #[v] w fun e w' => e = .returned (pnV ⟨2, [], []⟩) ∧ Below w.heap.size w w' := by
  go_enter Tryz.func116, Tryz.ntmps116
  go_wp2
  refine bodyPost_ret (v := .agg #[.int .i64 2, .string ⟨#[]⟩, .string ⟨#[]⟩]) ?_ rfl ⟨rfl, (Below.refl _ _).alloc (Nat.le_refl _) _⟩
  simp [results, Tryz.results116, go_sem]

set_option maxRecDepth 100000 in
set_option maxHeartbeats 4000000 in
theorem form3_calls (v : Value) (l : List Sg.B) (w : World) (hl : StrRow w v l) (x : Sg.B) (hx : l[0]? = some x) (y : Sg.B) (hy : l[1]? = some y) : Calls Tryz.prog 117 #[v] w fun e w' => e = .returned (pnV ⟨3, x, y⟩) ∧ Below w.heap.size w w' := by
  have hlt : 1 < l.length := (List.getElem?_eq_some_iff.1 hy).1
  obtain ⟨g, off, c, rfl, hc1, hc2, hg, hcell⟩ := hl.cell (by omega)
  unfold maxLen at hc2
  have q0 := hcell _ _ hx
  have q1 := hcell _ _ hy
  try rw [Nat.add_zero] at q0
  clear hcell hl
  have mixed : Tryz.prog.follows Departure.mixedOrders = true := by kernel_rfl
  go_enter Tryz.func117, Tryz.ntmps117
  go_wp2
  go_region
  go_wp2
  refine bodyPost_ret (v := .agg #[.int .i64 3, .string (ba x), .string (ba y)]) ?_ rfl ⟨rfl, ((Below.refl _ _).alloc (Nat.le_refl _) _).drew⟩
  simp [results, Tryz.results117, go_sem]

set_option maxRecDepth 100000 in
set_option maxHeartbeats 4000000 in
theorem form4_calls (v : Value) (l : List Sg.B) (w : World) (hl : StrRow w v l) (x : Sg.B) (hx : l[0]? = some x) (y : Sg.B) (hy : l[1]? = some y) : Calls Tryz.prog 118 #[v] w fun e w' => e = .returned (pnV ⟨4, y, x⟩) ∧ Below w.heap.size w w' := by
  have hlt : 1 < l.length := (List.getElem?_eq_some_iff.1 hy).1
  obtain ⟨g, off, c, rfl, hc1, hc2, hg, hcell⟩ := hl.cell (by omega)
  unfold maxLen at hc2
  have q0 := hcell _ _ hx
  have q1 := hcell _ _ hy
  try rw [Nat.add_zero] at q0
  clear hcell hl
  have mixed : Tryz.prog.follows Departure.mixedOrders = true := by kernel_rfl
  go_enter Tryz.func118, Tryz.ntmps118
  go_wp2
  go_region
  go_wp2
  refine bodyPost_ret (v := .agg #[.int .i64 4, .string (ba y), .string (ba x)]) ?_ rfl ⟨rfl, ((Below.refl _ _).alloc (Nat.le_refl _) _).drew⟩
  simp [results, Tryz.results118, go_sem]

set_option maxRecDepth 100000 in
set_option maxHeartbeats 4000000 in
theorem form5_calls (v : Value) (l : List Sg.B) (w : World) (hl : StrRow w v l) (x : Sg.B) (hx : l[0]? = some x) : Calls Tryz.prog 119 #[v] w fun e w' => e = .returned (pnV ⟨5, x, []⟩) ∧ Below w.heap.size w w' := by
  have hlt : 0 < l.length := (List.getElem?_eq_some_iff.1 hx).1
  obtain ⟨g, off, c, rfl, hc1, hc2, hg, hcell⟩ := hl.cell (by omega)
  unfold maxLen at hc2
  have q0 := hcell _ _ hx
  try rw [Nat.add_zero] at q0
  clear hcell hl
  go_enter Tryz.func119, Tryz.ntmps119
  go_wp2
  refine bodyPost_ret (v := .agg #[.int .i64 5, .string (ba x), .string ⟨#[]⟩]) ?_ rfl ⟨rfl, (Below.refl _ _).alloc (Nat.le_refl _) _⟩
  simp [results, Tryz.results119, go_sem]

end Go.Proofs.YtpaioaljopjpkaaGreatDoor
