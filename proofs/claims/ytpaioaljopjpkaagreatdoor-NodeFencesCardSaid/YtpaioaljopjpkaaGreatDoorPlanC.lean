/- slices.Insert of one pair into an own row. Conditions: fewer than 10000 pairs. -/
import Derived.Test.YtpaioaljopjpkaaGreatDoorPlanB
set_option linter.unusedVariables false
set_option linter.unusedSimpArgs false
namespace Go.Proofs.YtpaioaljopjpkaaGreatDoor
open Go.RowKit

theorem ins_one (p q sp : List Value) (a b : Value) (hq : 2 ≤ q.length) : 
    (((p ++ q ++ sp).take (p.length + 2) ++ q ++ (p ++ q ++ sp).drop (p.length + 2 + q.length)).take p.length) ++ [a, b] ++ (((p ++ q ++ sp).take (p.length + 2) ++ q ++ (p ++ q ++ sp).drop (p.length + 2 + q.length)).drop (p.length + 2)) = p ++ [a, b] ++ q ++ sp.drop 2 := by
  obtain ⟨x, y, q, rfl⟩ : ∃ x y r, q = x :: y :: r := by
    rcases q with _ | ⟨x, _ | ⟨y, q⟩⟩ <;> simp at hq ⊢
  have e1 : (p ++ (x :: y :: q) ++ sp).take (p.length + 2) = p ++ [x, y] := by simp [List.take_append]; exact List.take_of_length_le (by omega)
  have e2 : (p ++ (x :: y :: q) ++ sp).drop (p.length + 2 + (x :: y :: q).length) = sp.drop 2 := by
    rw [List.drop_append]
    rw [List.drop_of_length_le (by simp)]
    simp only [List.nil_append]
    congr 1
    simp; omega
  rw [e1, e2]
  simp [List.append_assoc]

set_option maxRecDepth 100000 in
set_option maxHeartbeats 8000000 in
theorem insert_calls (B : Nat) (v : Value) (n i : Nat) (xs : List Value) (x y : Value) (vb : Nat) (w : World) (hown : w.ownsRow B 65 2 v n xs) (h1 : OneC xs) (hx : x.oneCell' = true) (hy : y.oneCell' = true) (hi : i ≤ n) (hn : n ≤ 10000) (hB : B ≤ w.heap.size)
    (hvb : w.heap[vb]? = some (.cells #[x, y] 65 (0, 0))) (hvne : v.ownBlock ≠ some vb) :
    Calls Tryz.prog 121 #[v, .int .i64 i, .slice (some ⟨vb, 0, none⟩) 1 1] w fun e w' => ∃ v', e = .returned v' ∧ w'.ownsRow B 65 2 v' (n + 1) (xs.take (i * 2) ++ [x, y] ++ xs.drop (i * 2)) ∧ Below B w w' := by
  obtain ⟨i0, hinfo, hz0, hz1, hz2⟩ := info65_parts
  have hnews : ∀ j u, [x, y][j]? = some u → w.cell? ((⟨vb, 0, none⟩ : Addr).add j) = some u := fun j u hj => by
    rw [Addr.add_lit]
    simp only [World.cell?, hvb, Nat.zero_add]
    simpa using hj
  have h1v : OneC [x, y] := fun u hu => by rcases List.mem_cons.1 hu with rfl | h; exact hx; rcases List.mem_cons.1 h with rfl | h; exact hy; cases h
  have HN := Lib.hid hnews
  have H1V := Lib.hid h1v
  have H1 := Lib.hid h1
  clear hnews h1v h1
  by_cases hin : i = n
  · subst hin
    have hxl := hown.1
    have hbl : ∀ k, v.ownBlock = some k → B ≤ k := fun k hk => (hown.lt k hk).1
    have e1 : xs.take (i * 2) ++ [x, y] ++ xs.drop (i * 2) = xs ++ [x, y] := by rw [← hxl]; simp
    rw [e1]
    have HL := Lib.hid hxl
    clear hxl e1
    have hlen : ∃ a c, v = .slice a i c ∧ i ≤ c ∧ c ≤ maxLen := by
      rcases hown.2 with ⟨rfl, h0⟩ | ⟨g, cap, cur, rfl, hb, hg, hnc, hm, hs, ht⟩
      · exact ⟨none, 0, by rw [h0], by omega, by unfold maxLen; omega⟩
      · exact ⟨_, cap, rfl, hnc, hm⟩
    obtain ⟨a, c, rfl, hc1, hc2⟩ := hlen
    unfold maxLen at hc2
    have HO := Lib.hid hown
    have HBL : ∀ c k, (Value.slice a i c).ownBlock = some k → B ≤ k := fun c k hk => hbl k (by cases a <;> exact hk)
    clear hown hbl
    go_enter Tryz.func121, Tryz.ntmps121
    go_wp2_with (at_builtin; refine wpList_append_own _ rfl _ _ 62 rfl B 65 i0 _ 2 32 Tryz.underlying62 hinfo hz0 hz1 hz2 rfl (by decide) _ _ _ rfl HO.out ⟨vb, 0, none⟩ 1 1 [x, y] rfl rfl HN.out H1V.out (by unfold maxLen; omega) (by omega) hB ?_)
    all_goals
      intro v' w1 hown hgrow hnil
      go_wp2
      go_ret
      exact ⟨v', rfl, hown, below_grown hgrow hB (HBL _)⟩
  · rcases hown.2 with ⟨rfl, h0⟩ | ⟨g, cap, cur, rfl, hb, hg, hnc, hm, hs, ht⟩
    · omega
    have hxl := hown.1
    have hvg : vb ≠ g := fun e => hvne (by rw [e]; rfl)
    clear hown hvne
    unfold maxLen at hm
    have hiz : i < n := by omega
    by_cases hroom : n + 1 ≤ cap
    · obtain ⟨p, q, sp, hpl, hql, hpq, hcur⟩ : ∃ p q sp : List Value, p.length = i * 2 ∧ q.length = (n - i) * 2 ∧ xs = p ++ q ∧ cur = (p ++ q ++ sp).toArray := by
        refine ⟨xs.take (i * 2), xs.drop (i * 2), cur.toList.drop (n * 2), by simp; omega, by simp; omega, by simp, ?_⟩
        rw [List.take_append_drop, ← ht, List.take_append_drop]
      subst hpq
      subst hcur
      have hsz : (p ++ q ++ sp).length = cap * 2 := by simpa using hs
      have hspl : sp.length = (cap - n) * 2 := by simp at hsz; omega
      have hres : ((p ++ q).take (i * 2) ++ [x, y] ++ (p ++ q).drop (i * 2)) = p ++ [x, y] ++ q := by rw [← hpl]; simp
      rw [hres]
      obtain ⟨row1, hrow1⟩ : ∃ r : List Value, r = (p ++ q ++ sp).take (p.length + 2) ++ q ++ (p ++ q ++ sp).drop (p.length + 2 + q.length) := ⟨_, rfl⟩
      obtain ⟨row2, hrow2⟩ : ∃ r : List Value, r = row1.take p.length ++ [x, y] ++ row1.drop (p.length + 2) := ⟨_, rfl⟩
      have hr2 : row2 = p ++ [x, y] ++ q ++ sp.drop 2 := by rw [hrow2, hrow1]; exact ins_one p q sp x y (by omega)
      have hsz1 : row1.length = cap * 2 := by rw [hrow1]; simp only [List.length_append, List.length_take, List.length_drop, hpl, hql, hspl]; omega
      obtain ⟨w1, hw1⟩ : ∃ w1 : World, w1 = w.setRow g row1.toArray := ⟨_, rfl⟩
      have hov : ∀ o lb cb, (callFunc 153 #[.slice (some ⟨vb, 0, none⟩) 1 1, .slice (some ⟨g, o, none⟩) lb cb]).run Tryz.prog w = .ok (.value (.bool false)) w := fun o lb cb =>
        callFunc_153 w vb g o 1 1 lb cb _ _ _ _ hvg hvb hg (by rw [hs]; omega)
      have hg1 : w1.heap[g]? = some (.cells row1.toArray 65 (0, 0)) := by rw [hw1]; exact setRow_heap w g _ _ 65 (0, 0) hg
      have hv1 : w1.heap[vb]? = some (.cells #[x, y] 65 (0, 0)) := by rw [hw1, setRow_other w g vb _ hvg]; exact hvb
      have hcp1 : ∀ W : World, W.heap = w.heap → ∀ ty dc sc, (Builtin.copy_ #[62, 62] ty #[.slice (some ⟨g, (i + 1) * 2, none⟩) (n - i) dc, .slice (some ⟨g, i * 2, none⟩) (n + 1 - i) sc]).run Tryz.prog W = .ok (goInt ((n - i : Nat) : Int)) (W.setRow g row1.toArray) := fun W hW ty dc sc => by
        have := run_copy_rowN (P := Tryz.prog) W 62 62 ty 65 2 g ((i + 1) * 2) (n - i) dc ⟨g, i * 2, none⟩ (n + 1 - i) sc (n - i) (p ++ q ++ sp).toArray 65 q Tryz.underlying62 (by rw [hinfo]; simp [hz1]) (by rw [hW]; exact hg) (by simp only [Nat.min_def]; split <;> omega) hql (fun j u hj => by
            rw [Addr.add_lit]
            simp only [World.cell?, hW, hg]
            have := (List.getElem?_eq_some_iff.1 hj).1
            rw [List.getElem?_toArray, List.append_assoc, List.getElem?_append_right (by omega), List.getElem?_append_left (by omega)]
            rw [show i * 2 + j - p.length = j from by omega]; exact hj) (by simp; omega) (fun u hu => H1.out u (by simp [hu]))
        rw [this, hrow1, hpl, show (i + 1) * 2 = i * 2 + 2 from by omega] <;> rfl
      have hcp2 : ∀ W : World, W.heap = w1.heap → ∀ ty dl dc, 1 ≤ dl → (Builtin.copy_ #[62, 62] ty #[.slice (some ⟨g, i * 2, none⟩) dl dc, .slice (some ⟨vb, 0, none⟩) 1 1]).run Tryz.prog W = .ok (goInt 1) (W.setRow g row2.toArray) := fun W hW ty dl dc hdl => by
        have := run_copy_rowN (P := Tryz.prog) W 62 62 ty 65 2 g (i * 2) dl dc ⟨vb, 0, none⟩ 1 1 1 row1.toArray 65 [x, y] Tryz.underlying62 (by rw [hinfo]; simp [hz1]) (by rw [hW]; exact hg1) (by simp only [Nat.min_def]; split <;> omega) rfl (fun j u hj => by
            rw [Addr.add_lit]
            simp only [World.cell?, hW, hv1]
            simpa using hj) (by simp; omega) H1V.out
        rw [this, hrow2, hpl] <;> rfl
      have HE : Hid (∀ W : World, W.heap = w1.heap → W.os = w.os → W.tape = w.tape → W.output = w.output → (W.setRow g row2.toArray).ownsRow B 65 2 (.slice (some ⟨g, 0, none⟩) (n + 1) cap) (n + 1) (p ++ [x, y] ++ q) ∧ Below B w (W.setRow g row2.toArray)) := by
        intro W hW h1 h2 h3
        refine ⟨⟨by simp only [List.length_append, List.length_cons, List.length_nil, hpl, hql]; omega, .inr ⟨g, cap, row2.toArray, rfl, hb, setRow_heap W g row1.toArray _ 65 (0, 0) (by rw [hW]; exact hg1), hroom, by unfold maxLen; omega, ?_, ?_⟩⟩, ⟨h1, h2, h3, ?_, fun k hk => ?_⟩⟩
        · rw [hr2, List.size_toArray]; simp only [List.length_append, List.length_cons, List.length_nil, List.length_drop, hpl, hql, hspl]; omega
        · rw [hr2]; exact List.take_left' (by simp only [List.length_append, List.length_cons, List.length_nil, hpl, hql]; omega)
        · rw [size_setRow, hW, hw1, size_setRow]; omega
        · rw [setRow_other W g k _ (by omega), hW, hw1, setRow_other w g k _ (by omega)]
      clear hr2 hrow2 hrow1 hres ht hs hg1 hv1 hsz hsz1
      go_enter Tryz.func121, Tryz.ntmps121
      go_wp2_with (simp only [hov])
      have mixed : Tryz.prog.follows Departure.mixedOrders = true := by kernel_rfl
      have hf1 : IntKind.i64.wrap ((i : Int) + 1) = (i : Int) + 1 := by rw [IntKind.wrap_i64]; omega
      have hf2 : (0 : Int) ≤ (i : Int) + 1 := by omega
      have hf3 : ((i : Int) + 1).toNat = i + 1 := by omega
      have hf4 : ¬ (cap = i + 1) := by omega
      have hf5 : (i : Int) ≤ (n : Int) + 1 := by omega
      have hf6 : ¬ (cap = i) := by omega
      have hf7 : i ≤ n := by omega
      have hcp2' := fun (W : World) (hW : W.heap = w1.heap) => hcp2 W hW
      go_region_law_o (refine step_copy_runI rfl _ _ 62 62 rfl _ _ (by simp [Act.eval, Act.put]) (by simp [Act.eval, Act.put]) (hcp1 w.drew rfl 3 (cap - (i + 1)) (cap - i)) ?_)
      have hcpB := hcp2 (w.drew.setRow g row1.toArray) (by rw [hw1]; rfl) 3 (n + 1 - i) (cap - i) (by omega)
      go_wp2
      go_ret
      exact ⟨_, rfl, HE.out (w.drew.setRow g row1.toArray) (by rw [hw1]; rfl) rfl rfl rfl⟩
    · obtain ⟨p, q, hpl, hql, hpq⟩ : ∃ p q : List Value, p.length = i * 2 ∧ q.length = (n - i) * 2 ∧ xs = p ++ q :=
        ⟨xs.take (i * 2), xs.drop (i * 2), by simp; omega, by simp; omega, by simp⟩
      subst hpq
      obtain rfl : cap = n := by omega
      have hres : ((p ++ q).take (i * 2) ++ [x, y] ++ (p ++ q).drop (i * 2)) = p ++ [x, y] ++ q := by rw [← hpl]; simp
      rw [hres]
      have hcell : ∀ j u, (p ++ q)[j]? = some u → w.cell? ⟨g, j, none⟩ = some u := fun j u hj => by
        have hjl := (List.getElem?_eq_some_iff.1 hj).1
        simp only [World.cell?, hg]
        rw [← ht, List.getElem?_take_of_lt (by omega)] at hj
        simpa using hj
      have hold : (Builtin.firstCells i0.size i (.slice (some ⟨g, 0, none⟩) i cap)).run Tryz.prog w.drew = .ok p.toArray w.drew := by
        rw [hz1]
        exact run_firstCells_some w.drew 2 i ⟨g, 0, none⟩ i cap p hpl (fun j u hj => by
          rw [Addr.add_lit, Nat.zero_add]
          exact hcell j u (by rw [List.getElem?_append_left (List.getElem?_eq_some_iff.1 hj).1]; exact hj))
      have hik : i + (cap + 1 - i) = cap + 1 := by omega
      have hkk : (cap : Int) + 1 - (i : Int) = ((cap + 1 - i : Nat) : Int) := by omega
      have hrz := fun ty => Lib.run_append_grow_zeros w 62 3 ty 65 i0 _ .i64 .i64 Tryz.underlying62 Tryz.underlying3 hinfo hz0 (some ⟨g, 0, none⟩) i cap p hold (cap + 1 - i) (by omega) (by omega) (by omega) (by omega) (by rw [hz2]; omega) (by rw [hz2, hik]; exact growslice_fits (by omega) (by omega))
      simp only [hik, ← hkk] at hrz
      obtain ⟨G, hG⟩ : ∃ G, G = grownCap w (cap + 1) cap 65 := ⟨_, rfl⟩
      have hG1 : cap + 1 ≤ G := by rw [hG]; exact grownCap_ge w _ _ _
      have hG2 : G ≤ maxLen := by rw [hG]; exact grownCap_le_maxLen w _ _ _ (by unfold maxLen; omega)
      simp only [← hG] at hrz
      obtain ⟨Z, hZ, hZl⟩ : ∃ Z : List Value, (p.toArray ++ Builtin.zeroCells (Value.agg #[.string ⟨#[]⟩, .string ⟨#[]⟩]).cells (cap + 1 - i) ++ Builtin.zeroCells (Value.agg #[.string ⟨#[]⟩, .string ⟨#[]⟩]).cells (G - (cap + 1))) = (p ++ Z).toArray ∧ Z.length = (G - i) * 2 := by
        refine ⟨(Builtin.zeroCells (Value.agg #[.string ⟨#[]⟩, .string ⟨#[]⟩]).cells (cap + 1 - i)).toList ++ (Builtin.zeroCells (Value.agg #[.string ⟨#[]⟩, .string ⟨#[]⟩]).cells (G - (cap + 1))).toList, by simp [Array.append_assoc], ?_⟩
        rw [List.length_append, Array.length_toList, Array.length_toList, size_zeroCells, size_zeroCells]
        show (cap + 1 - i) * 2 + (G - (cap + 1)) * 2 = _
        omega
      simp only [hZ] at hrz
      unfold maxLen at hG2
      obtain ⟨row1, hrow1⟩ : ∃ r : List Value, r = (p ++ Z).take (i * 2) ++ [x, y] ++ (p ++ Z).drop (i * 2 + 2) := ⟨_, rfl⟩
      have hr1 : row1 = p ++ [x, y] ++ Z.drop 2 := by rw [hrow1, ← hpl]; simp
      obtain ⟨row2, hrow2⟩ : ∃ r : List Value, r = row1.take ((i + 1) * 2) ++ q ++ row1.drop ((i + 1) * 2 + q.length) := ⟨_, rfl⟩
      have hr2 : row2 = p ++ [x, y] ++ q ++ Z.drop (2 + q.length) := by
        rw [hrow2, hr1]
        have e1 : (i + 1) * 2 = (p ++ [x, y]).length := by simp; omega
        rw [e1, List.take_left, ← List.drop_drop, List.drop_left, List.drop_drop]
      have hA : ∀ (W : World) (o : Nat × Nat), W = W := fun _ _ => rfl
      obtain ⟨w1, hw1⟩ : ∃ w1 : World, w1 = (w.alloc (.cells (p ++ Z).toArray 65)).drew := ⟨_, rfl⟩
      have hglt : g < w.heap.size := (Array.getElem?_eq_some_iff.1 hg).1
      have hvlt : vb < w.heap.size := (Array.getElem?_eq_some_iff.1 hvb).1
      have hN : w1.heap[w.heap.size]? = some (.cells (p ++ Z).toArray 65 (0, 0)) := by rw [hw1]; exact heap_alloc_new w.drew _
      have ho : ∀ k, k < w.heap.size → w1.heap[k]? = w.heap[k]? := fun k hk => by rw [hw1]; exact heap_alloc_old w.drew _ hk
      have hcp1 : ∀ ty, (Builtin.copy_ #[62, 62] ty #[.slice (some ⟨w.heap.size, i * 2, none⟩) (cap + 1 - i) (G - i), .slice (some ⟨vb, 0, none⟩) 1 1]).run Tryz.prog w1 = .ok (goInt 1) (w1.setRow w.heap.size row1.toArray) := fun ty => by
        have := run_copy_rowN (P := Tryz.prog) w1 62 62 ty 65 2 w.heap.size (i * 2) (cap + 1 - i) (G - i) ⟨vb, 0, none⟩ 1 1 1 (p ++ Z).toArray 65 [x, y] Tryz.underlying62 (by rw [hinfo]; simp [hz1]) hN (by simp only [Nat.min_def]; split <;> omega) rfl (fun j u hj => by
            rw [Addr.add_lit]
            simp only [World.cell?, ho vb hvlt, hvb]
            simpa using hj) (by simp only [List.size_toArray, List.length_append, List.length_cons, List.length_nil, hpl, hZl]; omega) H1V.out
        rw [this, hrow1] <;> rfl
      have hN1 : (w1.setRow w.heap.size row1.toArray).heap[w.heap.size]? = some (.cells row1.toArray 65 (0, 0)) := setRow_heap w1 _ _ _ 65 (0, 0) hN
      have hcp2 : ∀ W : World, W.heap = (w1.setRow w.heap.size row1.toArray).heap → ∀ ty, (Builtin.copy_ #[62, 62] ty #[.slice (some ⟨w.heap.size, (i + 1) * 2, none⟩) (cap - i) (G - (i + 1)), .slice (some ⟨g, i * 2, none⟩) (cap - i) (cap - i)]).run Tryz.prog W = .ok (goInt ((cap - i : Nat) : Int)) (W.setRow w.heap.size row2.toArray) := fun W hW ty => by
        have := run_copy_rowN (P := Tryz.prog) W 62 62 ty 65 2 w.heap.size ((i + 1) * 2) (cap - i) (G - (i + 1)) ⟨g, i * 2, none⟩ (cap - i) (cap - i) (cap - i) row1.toArray 65 q Tryz.underlying62 (by rw [hinfo]; simp [hz1]) (by rw [hW]; exact hN1) (by simp only [Nat.min_def]; split <;> omega) hql (fun j u hj => by
            rw [Addr.add_lit]
            have := hcell (i * 2 + j) u (by rw [List.getElem?_append_right (by omega), show i * 2 + j - p.length = j from by omega]; exact hj)
            simp only [World.cell?] at this ⊢
            rw [hW, setRow_other w1 _ g _ (by omega), ho g hglt]
            exact this) (by rw [hr1]; simp only [List.size_toArray, List.length_append, List.length_cons, List.length_nil, List.length_drop, hpl, hZl, hql]; omega) (fun u hu => H1.out u (by simp [hu]))
        rw [this, hrow2] <;> rfl
      have HE : Hid (∀ W : World, W.heap = (w1.setRow w.heap.size row1.toArray).heap → W.os = w.os → W.tape = w.tape → W.output = w.output → (W.setRow w.heap.size row2.toArray).ownsRow B 65 2 (.slice (some ⟨w.heap.size, 0, none⟩) (cap + 1) G) (cap + 1) (p ++ [x, y] ++ q) ∧ Below B w (W.setRow w.heap.size row2.toArray)) := by
        intro W hW h1 h2 h3
        refine ⟨⟨by simp only [List.length_append, List.length_cons, List.length_nil, hpl, hql]; omega, .inr ⟨w.heap.size, G, row2.toArray, rfl, hB, setRow_heap W _ row1.toArray _ 65 (0, 0) (by rw [hW]; exact hN1), hG1, by unfold maxLen; omega, ?_, ?_⟩⟩, ⟨h1, h2, h3, ?_, fun k hk => ?_⟩⟩
        · rw [hr2, List.size_toArray]; simp only [List.length_append, List.length_cons, List.length_nil, List.length_drop, hpl, hql, hZl]; omega
        · rw [hr2]; exact List.take_left' (by simp only [List.length_append, List.length_cons, List.length_nil, hpl, hql]; omega)
        · rw [size_setRow, hW, size_setRow, hw1]; simp
        · rw [setRow_other W _ k _ (by omega), hW, setRow_other w1 _ k _ (by omega), ho k (by omega)]
      have HW1 := Lib.hid hw1
      rw [hw1] at hcp1
      clear hr2 hrow2 hr1 hrow1 hres ht hs hZ hold hG hkk hik hA
      have mixed : Tryz.prog.follows Departure.mixedOrders = true := by kernel_rfl
      have hf1 : IntKind.i64.wrap ((i : Int) + 1) = (i : Int) + 1 := by rw [IntKind.wrap_i64]; omega
      have hf2 : (0 : Int) ≤ (i : Int) + 1 := by omega
      have hf3 : ((i : Int) + 1).toNat = i + 1 := by omega
      have hf4 : ¬ (G = i + 1) := by omega
      have hf5 : (i : Int) ≤ (cap : Int) + 1 := by omega
      have hf6 : ¬ (cap = i) := by omega
      have hf8 : ¬ (G = i) := by omega
      have hf7 : i ≤ cap := by omega
      have hcpA := hcp2 ((((w.alloc (.cells (p ++ Z).toArray 65)).drew).setRow w.heap.size row1.toArray).drew) (by rw [HW1.out]; rfl) 3
      clear hcp2 hw1
      go_enter Tryz.func121, Tryz.ntmps121
      go_wp2_with (at_builtin; go_must (refine Lib.wpList_append_run _ rfl _ _ _ _ rfl _ _ rfl rfl _ _ (hrz 62) ?_))
      go_region_law_o (refine step_copy_runI rfl _ _ 62 62 rfl _ _ (by simp [Act.eval, Act.put]) (by simp [Act.eval, Act.put]) hcpA ?_)
      go_wp2
      go_ret
      exact ⟨_, rfl, HE.out _ (by rw [HW1.out]; rfl) rfl rfl rfl⟩
end Go.Proofs.YtpaioaljopjpkaaGreatDoor
