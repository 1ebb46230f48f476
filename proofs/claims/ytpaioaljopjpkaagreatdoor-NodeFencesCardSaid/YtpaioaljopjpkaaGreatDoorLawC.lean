/- The node's laws' awake: calls whose answers the document fixes. Conditions: the world's first cell a number. -/
import Derived.Test.YtpaioaljopjpkaaGreatDoorLawB
set_option linter.unusedVariables false
set_option linter.unusedSimpArgs false
namespace Go.Proofs.YtpaioaljopjpkaaGreatDoor
open Go.RowKit

def insB : Sg.B := [105, 110, 115, 101, 114, 116, 32, 105, 110, 116, 111, 32, 107, 118, 32, 118, 97, 108, 117, 101, 115, 32, 40, 39, 97, 39, 44, 32, 39, 98, 39, 41]
def selB : Sg.B := [115, 101, 108, 101, 99, 116, 32, 42, 32, 102, 114, 111, 109, 32, 107, 118]
theorem aw1 : NodeS.new.run 1 1 false [120] = ⟨NodeS.new, 7, []⟩ := by kernel_rfl
theorem aw2 : NodeS.new.lead 1 = (⟨1, true, [], []⟩, true) := by kernel_rfl
theorem aw3 : (NodeS.mk 1 true [] []).run 1 1 false insB = ⟨⟨1, true, [(1, insB)], []⟩, 0, []⟩ := by kernel_rfl
theorem aw4 : (NodeS.mk 1 true [(1, insB)] []).run 1 1 true selB = ⟨⟨1, true, [(1, insB)], []⟩, 0, [[97], [98]]⟩ := by kernel_rfl
theorem aw5 : (NodeS.mk 1 true [(1, insB)] []).run 1 2 true selB = ⟨⟨1, true, [(1, insB)], []⟩, 8, []⟩ := by kernel_rfl
theorem aw6 : NodeS.new.copy ⟨1, true, [(1, insB)], []⟩ 5 = (⟨1, false, [(1, insB)], []⟩, 1) := by kernel_rfl
theorem aw7 : (NodeS.mk 1 false [(1, insB)] []).table = [([97], [98])] := by kernel_rfl

/-! ### one of several nodes, called -/
def RunsPost (w : World) (R : Nat → Prop) (cs : List Nat) (ss : List NodeS) (i : Nat) (r : RunR) (e : Ending) (w' : World) : Prop :=
  ∃ x n cp R', e = .returned (.agg #[.int .i64 r.err, .int .u64 (r.s.epoch : Int), .int .u64 (r.s.log.length : Int), .slice x n cp]) ∧ StrRow w' (.slice x n cp) r.texts ∧ (∀ k, (Value.slice x n cp).ownBlock = some k → R' k) ∧ Nodes w' R' cs (ss.set i r.s) ∧ Grows R R' w w'
theorem nodes_run {w : World} {R : Nat → Prop} {cs : List Nat} {ss : List NodeS} (hN : Nodes w R cs ss) {i c : Nat} {s : NodeS} (hc : cs[i]? = some c) (hs : ss[i]? = some s) (hR0 : R 0) (m : Int) (hm : w.cell? ⟨0, 0, none⟩ = some (.int .i64 m)) (n : Int) (epoch : Nat) (reads : Bool) (t : Sg.B) (ht : t.length ≤ maxLen) :
    Calls Tryz.prog 17 #[.pointer (some ⟨c, 0, none⟩), .int .i64 n, .int .u64 (epoch : Int), .bool reads, .string (ba t)] w (RunsPost w R cs ss i (s.run n epoch reads t)) := by
  obtain ⟨L, nL, fL, stepL, _⟩ := hN.get hc hs
  refine (nrun_calls w c L s nL m hm (fun e => fL 0 e hR0) n epoch reads t ht).mono ?_
  rintro e w' ⟨tv, rfl, hrow, hnew, htv⟩
  obtain ⟨R', h1, h2, h3⟩ := stepL w' _ tv htv
  obtain ⟨x, cp, hf, _⟩ := id hrow
  subst hf
  exact ⟨x, _, cp, R', rfl, hrow, fun k e => h3 k e (hnew k e), h1, h2⟩
def TurnPost (w : World) (R : Nat → Prop) (cs : List Nat) (ss : List NodeS) (i : Nat) (s' : NodeS) (v : Value) (e : Ending) (w' : World) : Prop := ∃ R', e = .returned v ∧ Nodes w' R' cs (ss.set i s') ∧ Grows R R' w w'
theorem nodes_turn {w : World} {R : Nat → Prop} {cs : List Nat} {ss : List NodeS} (hN : Nodes w R cs ss) {i c : Nat} {s : NodeS} (hc : cs[i]? = some c) (hs : ss[i]? = some s) (f : Nat) (args : Array Value) (s' : NodeS) (v : Value)
    (h : ∀ L, NodeAt w c L s → Calls Tryz.prog f args w fun r w' => r = .returned v ∧ NodeTo w c L s' w') : Calls Tryz.prog f args w (TurnPost w R cs ss i s' v) := by
  obtain ⟨L, nL, fL, stepL, _⟩ := hN.get hc hs
  refine (h L nL).mono ?_
  rintro e w' ⟨rfl, hto⟩
  obtain ⟨R', h1, h2, _⟩ := stepL w' _ _ hto.tvNil
  exact ⟨R', rfl, h1, h2⟩
theorem nodes_at {w : World} {R : Nat → Prop} {cs : List Nat} {ss : List NodeS} (hN : Nodes w R cs ss) {i c : Nat} {s : NodeS} (hc : cs[i]? = some c) (hs : ss[i]? = some s) : ∃ L, NodeAt w c L s := let ⟨L, nL, _⟩ := hN.get hc hs; ⟨L, nL⟩
theorem nodes_copy {w : World} {R : Nat → Prop} {cs : List Nat} {ss : List NodeS} (hN : Nodes w R cs ss) {i c j d : Nat} {s t : NodeS} (hc : cs[i]? = some c) (hs : ss[i]? = some s) (hd : cs[j]? = some d) (ht : ss[j]? = some t) (most : Int) :
    Calls Tryz.prog 36 #[.pointer (some ⟨c, 0, none⟩), .pointer (some ⟨d, 0, none⟩), .int .i64 most] w (TurnPost w R cs ss i (s.copy t most).1 (.int .i64 ((s.copy t most).2 : Int))) := by
  obtain ⟨L, nL, fL, stepL, oth⟩ := hN.get hc hs
  obtain ⟨M, nM, hsep⟩ := oth j d t hd ht
  refine (copy_calls w c L s nL d M t nM (fun hlt => hsep fun e => by subst e; rw [hs] at ht; cases ht; omega) most).mono ?_
  rintro e w' ⟨rfl, hto⟩
  obtain ⟨R', h1, h2, _⟩ := stepL w' _ _ hto.tvNil
  exact ⟨R', rfl, h1, h2⟩

def RunsPost2 (w : World) (R : Nat → Prop) (cs : List Nat) (ss : List NodeS) (err E P : Int) (texts : List Sg.B) (e : Ending) (w' : World) : Prop :=
  ∃ x n cp R', e = .returned (.agg #[.int .i64 err, .int .u64 E, .int .u64 P, .slice x n cp]) ∧ StrRow w' (.slice x n cp) texts ∧ (∀ k, (Value.slice x n cp).ownBlock = some k → R' k) ∧ Nodes w' R' cs ss ∧ Grows R R' w w'
theorem nodes_run2 {w : World} {R : Nat → Prop} {cs : List Nat} {ss : List NodeS} (hN : Nodes w R cs ss) {i c : Nat} {s : NodeS} (hc : cs[i]? = some c) (hs : ss[i]? = some s) (hR0 : R 0) (m : Int) (hm : w.cell? ⟨0, 0, none⟩ = some (.int .i64 m)) (n : Int) (epoch : Nat) (reads : Bool) (t : Sg.B) (ht : t.length ≤ maxLen)
    (s' : NodeS) (err : Int) (texts : List Sg.B) (hr : s.run n epoch reads t = ⟨s', err, texts⟩) (ss' : List NodeS) (hss : ss.set i s' = ss') (ep E P : Int) (hep : (epoch : Int) = ep) (hE : (s'.epoch : Int) = E) (hP : (s'.log.length : Int) = P) :
    Calls Tryz.prog 17 #[.pointer (some ⟨c, 0, none⟩), .int .i64 n, .int .u64 ep, .bool reads, .string (ba t)] w (RunsPost2 w R cs ss' err E P texts) := by
  subst hep
  refine (nodes_run hN hc hs hR0 m hm n epoch reads t ht).mono ?_
  rw [hr]
  rintro e w' ⟨x, k, cp, R', rfl, h1, h2, h3, h4⟩
  exact ⟨x, k, cp, R', by rw [← hE, ← hP], h1, h2, by rw [← hss]; exact h3, h4⟩

set_option maxRecDepth 100000 in
set_option maxHeartbeats 4000000 in
theorem awake_calls (w : World) (m : Int) (hm : w.cell? ⟨0, 0, none⟩ = some (.int .i64 m)) : Calls Tryz.prog 13 #[] w fun e w' => e = .returned (.bool true) ∧ Below w.heap.size w w' := by
  have h00 : 0 < w.heap.size := World.block_lt_of_cell? w ⟨0, 0, none⟩ hm
  have H0 := Lib.hid (Nodes.nil w)
  have HM := Lib.hid hm
  clear hm
  go_enter Tryz.func13, Tryz.ntmps13
  go_wp2_with fail
  refine (new_calls _).mono ?_
  rintro e w1 ⟨c0, L0, rfl, n0, b0, f0⟩
  have H1 := Lib.hid (H0.out.snoc b0 n0 f0)
  clear n0 b0 f0
  go_wp2_with fail
  refine (new_calls _).mono ?_
  rintro e w2 ⟨c1, L1, rfl, n0, b0, f0⟩
  have H2 := Lib.hid (H1.out.1.snoc b0 n0 f0)
  have G2 := Lib.hid (H1.out.2.trans H2.out.2)
  clear n0 b0 f0
  have hc0 : ([c0, c1] : List Nat)[0]? = some c0 := rfl
  have hc1 : ([c0, c1] : List Nat)[1]? = some c1 := rfl
  have HC0 := Lib.hid hc0
  have HC1 := Lib.hid hc1
  clear hc0 hc1
  have cell0 : Hid (∀ {R' : Nat → Prop} {w' : World}, Grows (fun k => k < w.heap.size) R' w w' → w'.cell? ⟨0, 0, none⟩ = some (.int .i64 m) ∧ R' 0) := fun hg => ⟨(hg.cell (a := ⟨0, 0, none⟩) h00 h00).trans HM.out, hg.2 0 h00⟩
  go_wp2_with fail
  refine (nodes_run2 H2.out.1 HC0.out (s := NodeS.new) rfl (cell0.out G2.out).2 m (cell0.out G2.out).1 1 1 false [120] (by decide) _ _ _ aw1 [NodeS.new, NodeS.new] rfl 1 1 0 rfl rfl rfl).mono ?_
  rintro e w3 ⟨x3, n3, p3, R3, rfl, row3, tv3, nd3, gr3⟩
  obtain ⟨R3', nd3', gr3', in3⟩ := nd3.below ((Below.refl _ _).alloc (Nat.le_refl _) (.cells #[.int .i64 7, .int .u64 1, .int .u64 0, .slice x3 n3 p3] 32))
  have G3 := Lib.hid ((G2.out.trans gr3).trans gr3')
  have N3 := Lib.hid nd3'
  have B3 := Lib.hid (And.intro (in3 w3.heap.size (Nat.le_refl _) (by simp)) (heap_alloc_new w3 (.cells #[.int .i64 7, .int .u64 1, .int .u64 0, .slice x3 n3 p3] 32)))
  have RW3 := Lib.hid (And.intro (row3.below (Below.alloc (Below.refl w3.heap.size _) (Nat.le_refl _) (.cells #[.int .i64 7, .int .u64 1, .int .u64 0, .slice x3 n3 p3] 32)) (Nat.le_refl _)) (fun k e => gr3'.2 k (tv3 k e)))
  have B3_3 := B3
  clear row3 tv3 nd3 gr3 nd3' gr3' in3
  go_wp2_with fail
  refine (nodes_turn N3.out HC0.out (s := NodeS.new) rfl 15 _ (NodeS.mk 1 true [] []) (.bool true) (fun L nL => by have h := lead_calls _ c0 L NodeS.new nL 1 (by decide); rw [aw2] at h; exact h)).mono ?_
  rintro e w4 ⟨R4, rfl, nd4, gr4⟩
  have G4 := Lib.hid (G3.out.trans gr4)
  have N4 : Hid (Nodes w4 R4 [c0, c1] [NodeS.mk 1 true [] [], NodeS.new]) := nd4
  have B3_4 := Lib.hid (And.intro (gr4.2 _ B3.out.1) ((gr4.block B3.out.1 (heap_lt B3.out.2)).trans B3.out.2))
  clear nd4 gr4
  go_wp2_with fail
  refine (nodes_run2 N4.out HC0.out (s := NodeS.mk 1 true [] []) rfl (cell0.out G4.out).2 m (cell0.out G4.out).1 1 1 false insB (by decide) _ _ _ aw3 [NodeS.mk 1 true [(1, insB)] [], NodeS.new] rfl 1 1 1 rfl rfl rfl).mono ?_
  rintro e w5 ⟨x5, n5, p5, R5, rfl, row5, tv5, nd5, gr5⟩
  obtain ⟨R5', nd5', gr5', in5⟩ := nd5.below ((Below.refl _ _).alloc (Nat.le_refl _) (.cells #[.int .i64 0, .int .u64 1, .int .u64 1, .slice x5 n5 p5] 32))
  have G5 := Lib.hid ((G4.out.trans gr5).trans gr5')
  have N5 := Lib.hid nd5'
  have B5 := Lib.hid (And.intro (in5 w5.heap.size (Nat.le_refl _) (by simp)) (heap_alloc_new w5 (.cells #[.int .i64 0, .int .u64 1, .int .u64 1, .slice x5 n5 p5] 32)))
  have RW5 := Lib.hid (And.intro (row5.below (Below.alloc (Below.refl w5.heap.size _) (Nat.le_refl _) (.cells #[.int .i64 0, .int .u64 1, .int .u64 1, .slice x5 n5 p5] 32)) (Nat.le_refl _)) (fun k e => gr5'.2 k (tv5 k e)))
  have B3_5 := Lib.hid (And.intro ((gr5.trans gr5').2 _ B3_4.out.1) (((gr5.trans gr5').block B3_4.out.1 (heap_lt B3_4.out.2)).trans B3_4.out.2))
  have B5_5 := B5
  clear row5 tv5 nd5 gr5 nd5' gr5' in5
  go_wp2_with fail
  refine (nodes_run2 N5.out HC0.out (s := NodeS.mk 1 true [(1, insB)] []) rfl (cell0.out G5.out).2 m (cell0.out G5.out).1 1 1 true selB (by decide) _ _ _ aw4 [NodeS.mk 1 true [(1, insB)] [], NodeS.new] rfl 1 1 1 rfl rfl rfl).mono ?_
  rintro e w6 ⟨x6, n6, p6, R6, rfl, row6, tv6, nd6, gr6⟩
  obtain ⟨R6', nd6', gr6', in6⟩ := nd6.below ((Below.refl _ _).alloc (Nat.le_refl _) (.cells #[.int .i64 0, .int .u64 1, .int .u64 1, .slice x6 n6 p6] 32))
  have G6 := Lib.hid ((G5.out.trans gr6).trans gr6')
  have N6 := Lib.hid nd6'
  have B6 := Lib.hid (And.intro (in6 w6.heap.size (Nat.le_refl _) (by simp)) (heap_alloc_new w6 (.cells #[.int .i64 0, .int .u64 1, .int .u64 1, .slice x6 n6 p6] 32)))
  have RW6 := Lib.hid (And.intro (row6.below (Below.alloc (Below.refl w6.heap.size _) (Nat.le_refl _) (.cells #[.int .i64 0, .int .u64 1, .int .u64 1, .slice x6 n6 p6] 32)) (Nat.le_refl _)) (fun k e => gr6'.2 k (tv6 k e)))
  have B3_6 := Lib.hid (And.intro ((gr6.trans gr6').2 _ B3_5.out.1) (((gr6.trans gr6').block B3_5.out.1 (heap_lt B3_5.out.2)).trans B3_5.out.2))
  have B5_6 := Lib.hid (And.intro ((gr6.trans gr6').2 _ B5_5.out.1) (((gr6.trans gr6').block B5_5.out.1 (heap_lt B5_5.out.2)).trans B5_5.out.2))
  have B6_6 := B6
  clear row6 tv6 nd6 gr6 nd6' gr6' in6
  go_wp2_with fail
  refine (nodes_run2 N6.out HC0.out (s := NodeS.mk 1 true [(1, insB)] []) rfl (cell0.out G6.out).2 m (cell0.out G6.out).1 1 2 true selB (by decide) _ _ _ aw5 [NodeS.mk 1 true [(1, insB)] [], NodeS.new] rfl 2 1 1 rfl rfl rfl).mono ?_
  rintro e w7 ⟨x7, n7, p7, R7, rfl, row7, tv7, nd7, gr7⟩
  obtain ⟨R7', nd7', gr7', in7⟩ := nd7.below ((Below.refl _ _).alloc (Nat.le_refl _) (.cells #[.int .i64 8, .int .u64 1, .int .u64 1, .slice x7 n7 p7] 32))
  have GX := Lib.hid (gr7.trans gr7')
  have G7 := Lib.hid ((G6.out.trans gr7).trans gr7')
  have N7 := Lib.hid nd7'
  have B7 := Lib.hid (And.intro (in7 w7.heap.size (Nat.le_refl _) (by simp)) (heap_alloc_new w7 (.cells #[.int .i64 8, .int .u64 1, .int .u64 1, .slice x7 n7 p7] 32)))
  have RW7 := Lib.hid (And.intro (row7.below (Below.alloc (Below.refl w7.heap.size _) (Nat.le_refl _) (.cells #[.int .i64 8, .int .u64 1, .int .u64 1, .slice x7 n7 p7] 32)) (Nat.le_refl _)) (fun k e => gr7'.2 k (tv7 k e)))
  have B3_7 := Lib.hid (And.intro ((gr7.trans gr7').2 _ B3_6.out.1) (((gr7.trans gr7').block B3_6.out.1 (heap_lt B3_6.out.2)).trans B3_6.out.2))
  have B5_7 := Lib.hid (And.intro ((gr7.trans gr7').2 _ B5_6.out.1) (((gr7.trans gr7').block B5_6.out.1 (heap_lt B5_6.out.2)).trans B5_6.out.2))
  have B6_7 := Lib.hid (And.intro ((gr7.trans gr7').2 _ B6_6.out.1) (((gr7.trans gr7').block B6_6.out.1 (heap_lt B6_6.out.2)).trans B6_6.out.2))
  have B7_7 := B7
  clear row7 tv7 nd7 gr7 nd7' gr7' in7
  go_wp2_with fail
  refine (nodes_copy N7.out HC1.out (s := NodeS.new) rfl HC0.out (t := NodeS.mk 1 true [(1, insB)] []) rfl 5).mono ?_
  rw [aw6]
  rintro e w8 ⟨R8, rfl, nd8, gr8⟩
  have G8 := Lib.hid (G7.out.trans gr8)
  have N8 : Hid (Nodes w8 R8 [c0, c1] [NodeS.mk 1 true [(1, insB)] [], NodeS.mk 1 false [(1, insB)] []]) := nd8
  obtain ⟨i3, h3⟩ : R8 w3.heap.size ∧ _ := ⟨gr8.2 _ B3_7.out.1, (gr8.block B3_7.out.1 (heap_lt B3_7.out.2)).trans B3_7.out.2⟩
  obtain ⟨i5, h5⟩ : R8 w5.heap.size ∧ _ := ⟨gr8.2 _ B5_7.out.1, (gr8.block B5_7.out.1 (heap_lt B5_7.out.2)).trans B5_7.out.2⟩
  obtain ⟨i6, h6⟩ : R8 w6.heap.size ∧ _ := ⟨gr8.2 _ B6_7.out.1, (gr8.block B6_7.out.1 (heap_lt B6_7.out.2)).trans B6_7.out.2⟩
  obtain ⟨i7, h7⟩ : R8 w7.heap.size ∧ _ := ⟨gr8.2 _ B7_7.out.1, (gr8.block B7_7.out.1 (heap_lt B7_7.out.2)).trans B7_7.out.2⟩
  have RB := Lib.hid (StrRow.grows (GX.out.trans gr8) RW6.out.1 RW6.out.2)
  have z30 : w8.cell? ⟨w3.heap.size, 0, none⟩ = some (.int .i64 7) := by simp [World.cell?, h3]
  have z50 : w8.cell? ⟨w5.heap.size, 0, none⟩ = some (.int .i64 0) := by simp [World.cell?, h5]
  have z52 : w8.cell? ⟨w5.heap.size, 2, none⟩ = some (.int .u64 1) := by simp [World.cell?, h5]
  have z63 : w8.cell? ⟨w6.heap.size, 3, none⟩ = some (.slice x6 n6 p6) := by simp [World.cell?, h6]
  have hl6 := heap_lt h6
  have hl7 := heap_lt h7
  have hl5 := heap_lt h5
  have H7 := Lib.hid h7
  have hrow : StrRow (w8.alloc (.cells #[.string ⟨#[97]⟩, .string ⟨#[98]⟩] 9)) (.slice (some ⟨w8.heap.size, 0, none⟩) 2 2) [[97], [98]] := ⟨_, 2, rfl, by simp, by decide, fun _ => ⟨w8.heap.size, 0, _, _, _, rfl, heap_alloc_new _ _, fun j u hj => by have e : (strCells [[97], [98]]) = [.string ⟨#[97]⟩, .string ⟨#[98]⟩] := rfl; rw [e] at hj; simpa using hj⟩⟩
  have HTX := Lib.hid (texts_calls _ _ [[97], [98]] (w8.alloc (.cells #[.string ⟨#[97]⟩, .string ⟨#[98]⟩] 9)) (StrRow.below RB.out (Below.alloc (Below.refl w8.heap.size _) (Nat.le_refl _) _) (Nat.le_refl _)) hrow (by decide))
  obtain ⟨M0, nM0⟩ := nodes_at N8.out HC0.out (s := NodeS.mk 1 true [(1, insB)] []) rfl
  obtain ⟨M1, nM1⟩ := nodes_at N8.out HC1.out (s := NodeS.mk 1 false [(1, insB)] []) rfl
  have NM0 := Lib.hid nM0
  have NM1 := Lib.hid nM1
  have HG8 := Lib.hid (cell0.out G8.out)
  have HB8 := Lib.hid (Grows.below G8.out w.heap.size (Nat.le_refl _) fun k hk => hk)
  clear nd8 gr8 h3 h5 h6 h7 hrow nM0 nM1
  go_wp2_with fail
  refine HTX.out.mono ?_
  rintro e w9 ⟨rfl, hb9⟩
  have B9 := Lib.hid ((Below.alloc (Below.refl w8.heap.size _) (Nat.le_refl _) (.cells #[.string ⟨#[97]⟩, .string ⟨#[98]⟩] 9)).trans (hb9.mono (by simp)))
  have z70 : w9.cell? ⟨w7.heap.size, 0, none⟩ = some (.int .i64 8) := (B9.out.cell (p := ⟨w7.heap.size, 0, none⟩) hl7).trans (by simp [World.cell?, H7.out])
  have z71 : w9.cell? ⟨w7.heap.size, 1, none⟩ = some (.int .u64 1) := (B9.out.cell (p := ⟨w7.heap.size, 1, none⟩) hl7).trans (by simp [World.cell?, H7.out])
  have HLG := Lib.hid (log_calls w9 c1 M1 _ (NM1.out.below B9.out))
  clear hb9
  go_wp2_with fail
  refine HLG.out.mono ?_
  rintro e w10 ⟨v10, rfl, ho10, hb10⟩
  obtain ⟨a10, d10, hv10⟩ := own_len ho10
  subst hv10
  have B10 := Lib.hid (B9.out.trans (hb10.mono B9.out.size))
  have HTB := Lib.hid (table_calls w10 c1 M1 _ (NM1.out.below B10.out) m ((B10.out.cell (p := ⟨0, 0, none⟩) (Nat.lt_of_lt_of_le h00 HB8.out.size)).trans HG8.out.1))
  rw [aw7] at HTB
  clear ho10 hb10
  have e1 : (([(1, insB)] : List En).length : Int) = 1 := rfl
  have e2 : (([([97], [98])] : List Pr).length : Int) = 1 := rfl
  have E2 := Lib.hid e2
  clear e2
  go_wp2_with fail
  refine HTB.out.mono ?_
  rintro e w11 ⟨v11, rfl, ho11, hb11⟩
  obtain ⟨a11, d11, hv11⟩ := own_len ho11
  subst hv11
  have B11 := Lib.hid (B10.out.trans (hb11.mono B10.out.size))
  have HL1 := Lib.hid (leads_calls w11 c1 M1 _ (NM1.out.below B11.out))
  have HL0 := Lib.hid (leads_calls w11 c0 M0 _ (NM0.out.below B11.out))
  have e2 := E2.out
  clear ho11 hb11 e1
  go_wp2_with fail
  refine HL1.out.mono ?_
  rintro e w' ⟨rfl, rfl⟩
  go_wp2_with fail
  refine HL0.out.mono ?_
  rintro e w' ⟨rfl, rfl⟩
  go_wp2
  go_ret
  exact ⟨rfl, HB8.out.trans (B11.out.mono HB8.out.size)⟩
end Go.Proofs.YtpaioaljopjpkaaGreatDoor
