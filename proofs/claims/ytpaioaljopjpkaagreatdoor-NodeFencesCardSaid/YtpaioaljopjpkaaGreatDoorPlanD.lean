/- slices.Delete of one pair from an own row. Conditions: fewer than 10000 pairs. -/
import Derived.Test.YtpaioaljopjpkaaGreatDoorPlanC
set_option linter.unusedVariables false
set_option linter.unusedSimpArgs false
namespace Go.Proofs.YtpaioaljopjpkaaGreatDoor
open Go.RowKit

theorem run_clear_row (g o m c : Nat) (ty : TypeId) (cur : Array Value) (w : World) (hg : w.heap[g]? = some (.cells cur 65 (0, 0))) (hfit : o + (m + 1) * 2 ≤ cur.size) :
    ∃ row : Array Value, (Builtin.clear_ #[62] ty #[.slice (some ⟨g, o, none⟩) (m + 1) c]).run Tryz.prog w = .ok (.tuple #[]) (w.setRow g row) ∧ row.size = cur.size ∧ row.toList.take o = cur.toList.take o := by
  have hz : (zeroValue 65).run Tryz.prog w = .ok (.agg #[.string ⟨#[]⟩, .string ⟨#[]⟩]) w := by kernel_rfl
  have hs : (Builtin.zeroCells #[.string ⟨#[]⟩, .string ⟨#[]⟩] (m + 1)).toList.length = (m + 1) * 2 := by simp [Builtin.zeroCells]
  have h1 : ∀ v ∈ (Builtin.zeroCells #[.string ⟨#[]⟩, .string ⟨#[]⟩] (m + 1)).toList, v.oneCell' = true := by
    intro v hv
    simp only [Builtin.zeroCells, Array.toList_map, List.mem_map] at hv
    obtain ⟨i, _, rfl⟩ := hv
    show Value.oneCell' (#[Value.string ⟨#[]⟩, Value.string ⟨#[]⟩][i % 2]!) = true
    rcases (by omega : i % 2 = 0 ∨ i % 2 = 1) with h | h <;> rw [h] <;> rfl
  have hst := run_storeCells_at Tryz.prog g o 65 (Builtin.zeroCells #[.string ⟨#[]⟩, .string ⟨#[]⟩] (m + 1)).toList 0 cur w hg (by rw [hs]; simpa using hfit) h1
  obtain ⟨row, hrow⟩ : ∃ row : Array Value, row = (cur.toList.take (o + 0) ++ (Builtin.zeroCells #[.string ⟨#[]⟩, .string ⟨#[]⟩] (m + 1)).toList ++ cur.toList.drop (o + 0 + (Builtin.zeroCells #[.string ⟨#[]⟩, .string ⟨#[]⟩] (m + 1)).toList.length)).toArray := ⟨_, rfl⟩
  rw [← hrow] at hst
  refine ⟨row, ?_, ?_, ?_⟩
  · simp [Builtin.clear_, run_underlying Tryz.underlying62, hz, Value.cells, hst, Result.andThen]
  · subst hrow
    simp only [List.size_toArray, List.length_append, List.length_take, List.length_drop, hs, Array.length_toList]; omega
  · subst hrow
    have e : (List.take (o + 0) cur.toList).length = o := by rw [List.length_take, Array.length_toList]; omega
    rw [List.append_assoc]
    exact List.take_left' e

theorem step_append_runI {P : Program} {ops : Array Oper} {o : Oper} {a : Act} {w : World} {K : Act → World → Prop} {Q : Exit → Act → World → Prop} {E : Prop}
    (hg : o.guard = none) (d x : Operand) (dT sT : TypeId) (hop : o.op = Op.call { callee := Callee.builtin Builtin.append, args := #[d, x], argTypes := #[dT, sT] })
    (v u : Value) (hd : a.eval d = v) (hx : a.eval x = u) {v' : Value} {w' : World} (hr : (Builtin.append_ #[dT, sT] o.type #[v, u]).run P w = .ok v' w') (hK : K (a.put o.dst v') w') :
    if Region.wanted o (yielded ops a.tmps) = true then Oper.wp P o a w K Q else E := by
  have hw : Region.wanted o (yielded ops a.tmps) = true := by simp [Region.wanted, hg]
  rw [if_pos hw]
  unfold Oper.wp
  simp [execOp, hop, resolve, invoke, builtin, hd, hx, hr, Result.andThen]
  exact hK

set_option maxRecDepth 100000 in
set_option maxHeartbeats 8000000 in
theorem delete_calls (B : Nat) (v : Value) (n i : Nat) (xs : List Value) (w : World) (hown : w.ownsRow B 65 2 v n xs) (h1 : OneC xs) (hi : i < n) (hn : n ≤ 10000) (hB : B ≤ w.heap.size) :
    Calls Tryz.prog 122 #[v, .int .i64 i, .int .i64 ((i : Int) + 1)] w fun e w' => ∃ v', e = .returned v' ∧ w'.ownsRow B 65 2 v' (n - 1) (xs.take (i * 2) ++ xs.drop (i * 2 + 2)) ∧ Below B w w' := by
  obtain ⟨i0, hinfo, hz0, hz1, hz2⟩ := info65_parts
  rcases hown.2 with ⟨rfl, h0⟩ | ⟨g, cap, cur, rfl, hb, hg, hnc, hm, hs, ht⟩
  · omega
  have hxl := hown.1
  clear hown
  unfold maxLen at hm
  have H1 := Lib.hid h1
  clear h1
  obtain ⟨p, q, hpl, hql, hpe, hqe, hmem⟩ : ∃ p q : List Value, p.length = i * 2 ∧ q.length = (n - (i + 1)) * 2 ∧ p = xs.take (i * 2) ∧ q = xs.drop (i * 2 + 2) ∧ ∀ u ∈ q, u ∈ xs :=
    ⟨xs.take (i * 2), xs.drop (i * 2 + 2), by simp; omega, by simp; omega, rfl, rfl, fun u hu => List.mem_of_mem_drop hu⟩
  rw [← hpe, ← hqe]
  have hct : cur.toList.take (i * 2) = p := by rw [hpe, ← ht, List.take_take, Nat.min_eq_left (by omega)]
  have hcell : ∀ j u, q[j]? = some u → w.cell? ⟨g, (i + 1) * 2 + j, none⟩ = some u := fun j u hj => by
    have hjl := (List.getElem?_eq_some_iff.1 hj).1
    rw [hqe, List.getElem?_drop, ← ht, List.getElem?_take_of_lt (by omega)] at hj
    simp only [World.cell?, hg]
    rw [show (i + 1) * 2 + j = i * 2 + 2 + j from by omega]
    simpa using hj
  obtain ⟨row1, hrow1⟩ : ∃ r : List Value, r = p ++ q ++ cur.toList.drop (i * 2 + q.length) := ⟨_, rfl⟩
  have hr1l : row1.length = cap * 2 := by rw [hrow1]; simp only [List.length_append, List.length_drop, hpl, hql, Array.length_toList, hs]; omega
  have hap : (Builtin.append_ #[62, 62] 62 #[.slice (some ⟨g, 0, none⟩) i cap, .slice (if cap = i + 1 then some ⟨g, 0, none⟩ else some ⟨g, (i + 1) * 2, none⟩) (n - (i + 1)) (cap - (i + 1))]).run Tryz.prog w.drew = .ok (.slice (some ⟨g, 0, none⟩) (i + (n - (i + 1))) cap) (w.drew.setRow g row1.toArray) := by
    split
    · have hq0 : q = [] := List.eq_nil_of_length_eq_zero (by omega)
      have := run_append_room (P := Tryz.prog) w.drew 62 62 65 i0 Tryz.underlying62 hinfo g i cap cur hg ⟨g, 0, none⟩ (n - (i + 1)) (cap - (i + 1)) q (by rw [hz1]; exact hql) (fun j u hj => by rw [hq0] at hj; simp at hj) (fun u hu => H1.out u (hmem u hu)) (by omega) (by rw [hz1, hql, hs]; omega)
      rw [this, hz1, hct, hrow1]
    · have := run_append_room (P := Tryz.prog) w.drew 62 62 65 i0 Tryz.underlying62 hinfo g i cap cur hg ⟨g, (i + 1) * 2, none⟩ (n - (i + 1)) (cap - (i + 1)) q (by rw [hz1]; exact hql) (fun j u hj => by rw [Addr.add_lit]; exact hcell j u hj) (fun u hu => H1.out u (hmem u hu)) (by omega) (by rw [hz1, hql, hs]; omega)
      rw [this, hz1, hct, hrow1]
  have hg1 : (w.drew.setRow g row1.toArray).heap[g]? = some (.cells row1.toArray 65 (0, 0)) := setRow_heap w.drew g _ _ 65 (0, 0) hg
  obtain ⟨row2, hcl, hr2s, hr2t⟩ := run_clear_row g ((n - 1) * 2) 0 (cap - (n - 1)) 0 row1.toArray _ hg1 (by rw [List.size_toArray, hr1l]; omega)
  have hcl2 : (Builtin.clear_ #[62] 0 #[.slice (some ⟨g, (n - 1) * 2, none⟩) (n - (n - 1)) (cap - (n - 1))]).run Tryz.prog (w.drew.setRow g row1.toArray) = .ok (.tuple #[]) ((w.drew.setRow g row1.toArray).setRow g row2) := by
    rw [show n - (n - 1) = 0 + 1 from by omega]; exact hcl
  clear hcl
  have hin : i + (n - (i + 1)) = n - 1 := by omega
  rw [hin] at hap
  have HE : Hid (((w.drew.setRow g row1.toArray).setRow g row2).ownsRow B 65 2 (.slice (some ⟨g, 0, none⟩) (n - 1) cap) (n - 1) (p ++ q) ∧ Below B w ((w.drew.setRow g row1.toArray).setRow g row2)) := by
    refine ⟨⟨by simp only [List.length_append, hpl, hql]; omega, .inr ⟨g, cap, row2, rfl, hb, setRow_heap _ g _ _ 65 (0, 0) hg1, by omega, by unfold maxLen; omega, by rw [hr2s, List.size_toArray, hr1l], ?_⟩⟩, ⟨rfl, rfl, rfl, by simp, fun k hk => ?_⟩⟩
    · rw [hr2t, hrow1]; exact List.take_left' (by simp only [List.length_append, hpl, hql]; omega)
    · rw [setRow_other _ g k _ (by omega), setRow_other _ g k _ (by omega)]; rfl
  clear hr2t hr2s hrow1 hpe hqe hct ht hs hcell hmem H1 hin
  have mixed : Tryz.prog.follows Departure.mixedOrders = true := by kernel_rfl
  have hf2 : (0 : Int) ≤ (i : Int) + 1 := by omega
  have hf3 : ((i : Int) + 1).toNat = i + 1 := by omega
  have hf5 : i ≤ cap := by omega
  have hf6 : i + 1 ≤ n := by omega
  have hf7 : n ≤ cap := by omega
  have hf8 : (i : Int) + 1 ≤ (n : Int) := by omega
  have hf9 : (i : Int) ≤ (n : Int) := by omega
  have hfa : ¬ (cap = n - 1) := by omega
  have hfb : (i : Int) ≤ (i : Int) + 1 := by omega
  by_cases hce : cap = i + 1
  · rw [if_pos hce] at hap
    obtain rfl : n = i + 1 := by omega
    subst hce
    simp only [Nat.sub_self, Nat.add_sub_cancel, Nat.add_sub_cancel_left] at hap hcl2 HE hfa hql
    go_enter Tryz.func122, Tryz.ntmps122
    go_wp2
    go_region_law_o (refine step_append_runI rfl _ _ 62 62 rfl _ _ (by simp [Act.eval, Act.put]) (by simp [Act.eval, Act.put]) hap ?_)
    go_wp2
    go_ret
    exact ⟨_, rfl, HE.out⟩
  · rw [if_neg hce] at hap
    go_enter Tryz.func122, Tryz.ntmps122
    go_wp2
    go_region_law_o (refine step_append_runI rfl _ _ 62 62 rfl _ _ (by simp [Act.eval, Act.put]) (by simp [Act.eval, Act.put]) hap ?_)
    go_wp2
    go_ret
    exact ⟨_, rfl, HE.out⟩
end Go.Proofs.YtpaioaljopjpkaaGreatDoor
