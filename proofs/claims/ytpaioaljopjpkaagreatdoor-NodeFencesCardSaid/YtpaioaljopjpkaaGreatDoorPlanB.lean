/- slices.Clone, Insert and Delete of pairs, over own rows. Conditions: fewer than 10000 pairs. -/
import Derived.Test.YtpaioaljopjpkaaGreatDoorPlanA
import Derived.Shelf.Spec.SlicesInsertGrow
set_option linter.unusedVariables false
set_option linter.unusedSimpArgs false
namespace Go.Proofs.YtpaioaljopjpkaaGreatDoor
open Go.RowKit

theorem Tryz.info65 : (Tryz.prog.info? 65).map (fun i => (i.zero, i.size, i.bytes)) = some (some (.agg #[.string ⟨#[]⟩, .string ⟨#[]⟩]), 2, 32) := by kernel_rfl
theorem info65_parts : ∃ i0, Tryz.prog.info? 65 = some i0 ∧ i0.zero = some (.agg #[.string ⟨#[]⟩, .string ⟨#[]⟩]) ∧ i0.size = 2 ∧ i0.bytes = 32 := by
  have := Tryz.info65
  cases h : Tryz.prog.info? 65 with
  | none => rw [h] at this; cases this
  | some i0 => rw [h] at this; simp at this; exact ⟨i0, rfl, this⟩

def OneC (xs : List Value) : Prop := ∀ v ∈ xs, v.oneCell' = true
theorem below_grown {w w' : World} {B : Nat} {v : Value} (h : w.grownBy w' v.ownBlock) (hB : B ≤ w.heap.size) (hv : ∀ k, v.ownBlock = some k → B ≤ k) : Below B w w' :=
  ⟨h.os, h.tape, h.output, h.size, fun k hk => h.block k (by omega) (fun e => by have := hv k e.symm; omega)⟩

set_option maxRecDepth 100000 in
set_option maxHeartbeats 4000000 in
theorem clone_calls (v : Value) (n : Nat) (xs : List Value) (w : World) (hv : RowAt w v n xs) (hnil : ∀ n c, v = .slice none n c → n = 0) (hxl : xs.length = n * 2) (h1 : OneC xs) (hn : n ≤ 10000) :
    Calls Tryz.prog 120 #[v] w fun e w' => ∃ v', e = .returned v' ∧ w'.ownsRow w.heap.size 65 2 v' n xs ∧ Below w.heap.size w w' := by
  obtain ⟨i0, hi, hz0, hz1, hz2⟩ := info65_parts
  have q62 : ∀ (w : World) (a : Option Addr) (n c n' c' : Nat), (binOp .eql 62 (.slice a n c) (.slice none n' c')).run Tryz.prog w = .ok (.bool a.isNone) w := fun w a n c n' c' => Lib.run_eql_slice_nil w _ _ a n c n' c' Tryz.underlying62
  obtain ⟨a, c, rfl, hc1, hc2, hc3⟩ := hv
  cases a with
  | none =>
    obtain rfl := hnil n c rfl
    have hx : xs = [] := List.eq_nil_of_length_eq_zero (by simpa using hxl)
    subst hx
    go_enter Tryz.func120, Tryz.ntmps120
    go_wp2
    go_ret
    exact ⟨_, rfl, World.ownsRow_nil _ _ _ _, Below.refl _ _⟩
  | some a =>
    have HL := Lib.hid hxl
    have H1 := Lib.hid h1
    have HC := Lib.hid hc3
    clear hc3 hxl h1 hnil
    go_enter Tryz.func120, Tryz.ntmps120
    go_wp2_with (at_builtin; refine wpList_append_own _ rfl _ _ 62 rfl w.heap.size 65 i0 _ 2 32 Tryz.underlying62 hi hz0 hz1 hz2 rfl (by decide) _ _ _ rfl (World.ownsRow_made w #[] 0 (Nat.le_refl _) (Nat.zero_le _) rfl) a n c xs rfl HL.out ?qc2 H1.out ?qc4 ?qc5 ?qc6 ?_)
    case qc2 =>
      intro j u hj
      have hj2 := (List.getElem?_eq_some_iff.1 hj).1
      rw [HL.out] at hj2
      obtain ⟨g, off, cur, T, fz, ha, hg, hcc⟩ := HC.out (by omega)
      cases ha
      rw [Addr.add_lit]
      refine Lib.cell?_alloc_some _ ?_
      simp only [World.cell?, hg]
      exact hcc j u hj
    case qc4 => unfold maxLen; omega
    case qc5 => omega
    case qc6 => simp
    intro v' w1 hown hgrow hnil
    go_wp2
    go_ret
    refine ⟨v', rfl, by simpa using hown, ?_⟩
    exact ((Below.refl _ w).alloc (Nat.le_refl _) _).grown hgrow (by simp) (by intro k hk; simp [Value.ownBlock] at hk; omega)

/-- a copy into a row, elements of any size. -/
theorem run_copy_rowN {P : Program} (w : World) (dT sT ty elem : TypeId) (size g o dLen dCap : Nat) (a : Addr) (sLen sCap k : Nat) (cur : Array Value) (t : TypeId) (cs : List Value)
    (hu : P.underlying dT = some (.slice elem)) (hs : (P.info? elem).map (·.size) = some size)
    (hg : w.heap[g]? = some (.cells cur t (0, 0))) (hk : Nat.min sLen dLen = k) (hn : cs.length = k * size)
    (hsrc : ∀ j v, cs[j]? = some v → w.cell? (a.add j) = some v) (hfit : o + cs.length ≤ cur.size) (h1 : OneC cs) :
    (Builtin.copy_ #[dT, sT] ty #[.slice (some ⟨g, o, none⟩) dLen dCap, .slice (some a) sLen sCap]).run P w =
      .ok (goInt k) (w.setRow g (cur.toList.take o ++ cs ++ cur.toList.drop (o + cs.length)).toArray) := by
  have hl := run_firstCells_some (P := P) w size k a sLen sCap cs hn hsrc
  have hst := run_storeCells_at P g o t cs 0 cur w hg (by simpa using hfit) h1
  cases hq : P.info? elem with
  | none => simp [hq] at hs
  | some i =>
    have hi : i.size = size := by simpa [hq] using hs
    simp [Builtin.copy_, run_underlying hu, Builtin.lenOf, sizeOf, typeInfo, hq, hi, hk, hl, hst]

theorem callFunc_153 (w : World) (vb g o la ca lb cb : Nat) (cA cB : Array Value) (tA tB : TypeId) (hne : vb ≠ g) (ha : w.heap[vb]? = some (.cells cA tA (0, 0))) (hb : w.heap[g]? = some (.cells cB tB (0, 0))) (h0 : cB.size ≠ 0) :
    (callFunc 153 #[.slice (some ⟨vb, 0, none⟩) la ca, .slice (some ⟨g, o, none⟩) lb cb]).run Tryz.prog w = .ok (.value (.bool false)) w := by
  rw [run_callFunc_extern Tryz.func153 (by kernel_rfl) (by kernel_rfl) (by kernel_rfl) (e := Extern.SlicesOverlaps.overlaps #[62, 62] #[4]) (by kernel_rfl),
    Lib.run_overlaps_apart w 62 4 65 Tryz.underlying62 2 (fun w => by kernel_rfl) ⟨vb, 0, none⟩ ⟨g, o, none⟩ la ca lb cb hne tA tB cA.size cB.size (by simp [World.shape?, ha]) (by simp [World.shape?, hb]) h0 (by simp [World.frozen?, ha]) (by simp [World.frozen?, ha])]
  rfl
end Go.Proofs.YtpaioaljopjpkaaGreatDoor
