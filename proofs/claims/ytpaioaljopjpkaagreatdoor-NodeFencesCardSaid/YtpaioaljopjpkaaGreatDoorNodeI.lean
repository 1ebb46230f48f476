/- A node's Run: what is not read. Conditions: a node as it is laid; the world's first cell a number. -/
import Derived.Test.YtpaioaljopjpkaaGreatDoorNodeH
set_option linter.unusedVariables false
set_option linter.unusedSimpArgs false
namespace Go.Proofs.YtpaioaljopjpkaaGreatDoor
open Go.RowKit

set_option maxRecDepth 100000 in
set_option maxHeartbeats 4000000 in
theorem run_none (w : World) (c : Nat) (L : NodeL) (s : NodeS) (h : NodeAt w c L s) (m : Int) (hm : w.cell? ⟨0, 0, none⟩ = some (.int .i64 m)) (n : Int) (epoch : Nat) (reads : Bool) (t : Sg.B) (ht : t.length ≤ maxLen) (he : s.may epoch reads (clsL t) = 0) (hk1 : clsL t ≠ 1) (hno : ∀ p ∈ waysOps, p.1 ≠ clsL t) :
    Calls Tryz.prog 17 #[.pointer (some ⟨c, 0, none⟩), .int .i64 n, .int .u64 (epoch : Int), .bool reads, .string (ba t)] w (RunPost w c L ⟨s, 0, []⟩) := by
  have h0 : (0 : Nat) < w.heap.size := World.block_lt_of_cell? w ⟨0, 0, none⟩ hm
  have hb : Below w.heap.size w (w.alloc (.cells #[.int .i64 0, .int .u64 0, .int .u64 0, .slice none 0 0] 32)) := (Below.refl _ _).alloc (Nat.le_refl _) _
  have h1 := h.below hb
  have c4 := h1.cell4
  have HC := Lib.hid (class_calls L.cl L.mo (ba t) m _ h1.hcls (by rw [ba_size]; exact ht) ((hb.cell (p := ⟨0, 0, none⟩) h0).trans hm))
  rw [ba_data] at HC
  have hl200 := clsL_long (may_cls he)
  have HE := Lib.hid he
  have H1 := Lib.hid h1
  have HB := Lib.hid hb
  have k1 : (clsL t == 1) = false := by simpa using hk1
  have HNO := Lib.hid hno
  have mixed : Tryz.prog.follows Departure.mixedOrders = true := by kernel_rfl
  clear h h1 hb he hno hk1
  go_enter Tryz.func17, Tryz.ntmps17
  go_wp2_with (first | (go_at_call 18; refine HC.out.mono ?_; intro e w1 hp; obtain ⟨rfl, hto⟩ := H1.out.reclass hp; have q10 := hto.far H1.out (heap_alloc_new w _) (by decide); obtain ⟨L1, hN1, hM1⟩ := hto; have hM := Lib.hid (show Moves w c L L1 w1 from ⟨(Keeps.of_new HB.out _).trans hM1.1, fun k hk => (hM1.2 k hk).imp id fun e => Nat.le_trans HB.out.size e⟩); have HM := Lib.hid (may_calls _ c L1 s (hN1.alloc (.cells #[.int .i64 0, .int .u64 0, .int .u64 0, .slice none 0 0] 32)) epoch reads (clsL t)); rw [HE.out] at HM; have HN1 := Lib.hid hN1; have Q10 := Lib.hid q10; clear hp hN1 hM1 q10) | (go_at_call 56; refine HM.out.mono ?_; rintro e w2 ⟨rfl, rfl⟩) | (go_at_call 57; refine (ways_calls _).mono ?_; rintro e w3 ⟨mb, rfl, hen, hbw⟩; have hlk := ways_no hen HNO.out; have HBW := Lib.hid hbw; clear hen hbw))
  have hto0 : NodeTo w c L s (w1.alloc (.cells #[.int .i64 0, .int .u64 0, .int .u64 0, .slice none 0 0] 32)) := ⟨L1, HN1.out.alloc _, hM.out.below ((Below.refl _ _).alloc (Nat.le_refl _) _)⟩
  have s12 := heap_alloc_new w1 (.cells #[.int .i64 0, .int .u64 0, .int .u64 0, .slice none 0 0] 32)
  have s10 := heap_old (o := .cells #[.int .i64 0, .int .u64 0, .int .u64 0, .slice none 0 0] 32) Q10.out
  have hw1 : w.heap.size ≤ w1.heap.size := hM.out.1.size
  have hlt := heap_lt Q10.out
  have hto := hto0.then_below HBW.out
  have r12 := (HBW.out.block _ (heap_lt s12)).trans s12
  have r10 := (HBW.out.block _ (heap_lt s10)).trans s10
  have HS : Hid (StrRow w3 (.slice none 0 0) []) := ⟨none, 0, rfl, by simp, by decide, fun h => absurd h (by simp)⟩
  generalize w1.heap.size = b12 at *
  generalize w3 = w2 at *
  clear Q10 HN1 hM HC H1 HB HM HBW s12 s10 hto0 hlk k1
  have HT := Lib.hid hto
  obtain ⟨L2, hN2, -⟩ := hto
  have n0 := hN2.cell0
  have n2 := hN2.cell2
  obtain ⟨al, cl, hlv, hcl1, hcl2⟩ := own_len2 hN2.hlog
  rw [hlv] at n2
  have hc12 : c ≠ b12 := obj_ne hN2.hc r12 (cells_ne (by decide))
  have hc10 : c ≠ w.heap.size := obj_ne hN2.hc r10 (cells_ne (by decide))
  have hfl := hN2.fine.log
  have hb1 : w.heap.size ≠ b12 := by omega
  have hb2 : b12 ≠ w.heap.size := by omega
  have a0 : w2.cell? ⟨b12, 0, none⟩ = some (.int .i64 0) := by simp [World.cell?, r12]
  have a1 : w2.cell? ⟨b12, 1, none⟩ = some (.int .u64 0) := by simp [World.cell?, r12]
  have a2 : w2.cell? ⟨b12, 2, none⟩ = some (.int .u64 0) := by simp [World.cell?, r12]
  have a3 : w2.cell? ⟨b12, 3, none⟩ = some (.slice none 0 0) := by simp [World.cell?, r12]
  have f1 : w2.frozen? ⟨b12, 1, none⟩ = false := by simp [World.frozen?, r12]
  have f2 : w2.frozen? ⟨b12, 2, none⟩ = false := by simp [World.frozen?, r12]
  have d0 : w2.cell? ⟨w.heap.size, 0, none⟩ = some (.int .i64 0) := by simp [World.cell?, r10]
  have d1 : w2.cell? ⟨w.heap.size, 1, none⟩ = some (.int .u64 0) := by simp [World.cell?, r10]
  have d2 : w2.cell? ⟨w.heap.size, 2, none⟩ = some (.int .u64 0) := by simp [World.cell?, r10]
  have d3 : w2.cell? ⟨w.heap.size, 3, none⟩ = some (.slice none 0 0) := by simp [World.cell?, r10]
  have g0 : w2.frozen? ⟨w.heap.size, 0, none⟩ = false := by simp [World.frozen?, r10]
  have g1 : w2.frozen? ⟨w.heap.size, 1, none⟩ = false := by simp [World.frozen?, r10]
  have g2 : w2.frozen? ⟨w.heap.size, 2, none⟩ = false := by simp [World.frozen?, r10]
  have g3 : w2.frozen? ⟨w.heap.size, 3, none⟩ = false := by simp [World.frozen?, r10]
  have HR12 := Lib.hid r12
  have HR10 := Lib.hid r10
  clear hN2 r12 r10 hlv
  go_region
  go_wp2
  exact run_ret (r := ⟨s, 0, []⟩) (.slice none 0 0) HT.out.tvNil HR12.out HR10.out (by omega) HS.out (fun k e => by cases e) rfl rfl ⟨_, _, _, rfl⟩

set_option maxRecDepth 100000 in
set_option maxHeartbeats 4000000 in
theorem run_do (w : World) (c : Nat) (L : NodeL) (s : NodeS) (h : NodeAt w c L s) (m : Int) (hm : w.cell? ⟨0, 0, none⟩ = some (.int .i64 m)) (n : Int) (epoch : Nat) (reads : Bool) (t : Sg.B) (ht : t.length ≤ maxLen) (he : s.may epoch reads (clsL t) = 0) (hk1 : clsL t ≠ 1) (i k : Nat) (hi : waysOps[i]? = some (clsL t, fnV k)) :
    Calls Tryz.prog 17 #[.pointer (some ⟨c, 0, none⟩), .int .i64 n, .int .u64 (epoch : Int), .bool reads, .string (ba t)] w (RunPost w c L ⟨(s.doCls (clsL t) n t).1, (s.doCls (clsL t) n t).2, []⟩) := by
  have h0 : (0 : Nat) < w.heap.size := World.block_lt_of_cell? w ⟨0, 0, none⟩ hm
  have hb : Below w.heap.size w (w.alloc (.cells #[.int .i64 0, .int .u64 0, .int .u64 0, .slice none 0 0] 32)) := (Below.refl _ _).alloc (Nat.le_refl _) _
  have h1 := h.below hb
  have c4 := h1.cell4
  have HC := Lib.hid (class_calls L.cl L.mo (ba t) m _ h1.hcls (by rw [ba_size]; exact ht) ((hb.cell (p := ⟨0, 0, none⟩) h0).trans hm))
  rw [ba_data] at HC
  have hl200 := clsL_long (may_cls he)
  have HE := Lib.hid he
  have H1 := Lib.hid h1
  have HB := Lib.hid hb
  have k1 : (clsL t == 1) = false := by simpa using hk1
  have HI := Lib.hid hi
  have HF := Lib.hid (fun i hi => (h.fp_obj (k := i) hi).1)
  have mixed : Tryz.prog.follows Departure.mixedOrders = true := by kernel_rfl
  clear h h1 hb he hk1 hi
  go_enter Tryz.func17, Tryz.ntmps17
  go_wp2_with (first | (go_at_call 18; refine HC.out.mono ?_; intro e w1 hp; obtain ⟨rfl, hto⟩ := H1.out.reclass hp; have q10 := hto.far H1.out (heap_alloc_new w _) (by decide); obtain ⟨L1, hN1, hM1⟩ := hto; have hM := Lib.hid (show Moves w c L L1 w1 from ⟨(Keeps.of_new HB.out _).trans hM1.1, fun k hk => (hM1.2 k hk).imp id fun e => Nat.le_trans HB.out.size e⟩); have HM := Lib.hid (may_calls _ c L1 s (hN1.alloc (.cells #[.int .i64 0, .int .u64 0, .int .u64 0, .slice none 0 0] 32)) epoch reads (clsL t)); rw [HE.out] at HM; have HN1 := Lib.hid hN1; have Q10 := Lib.hid q10; clear hp hN1 hM1 q10) | (go_at_call 56; refine HM.out.mono ?_; rintro e w2 ⟨rfl, rfl⟩) | (go_at_call 57; refine (ways_calls _).mono ?_; rintro e w3 ⟨mb, rfl, hen, hbw⟩; have hlk := ways_look hen (by decide) HI.out; unfold fnV at hlk; obtain ⟨hcf, hdo⟩ := do_cls w3 c L1 s ((HN1.out.alloc _).below hbw) (clsL t) n t hl200 HI.out; have HD := Lib.hid hdo; have HBW := Lib.hid hbw; have HN3 := Lib.hid ((HN1.out.alloc _).below hbw); have u12 := (hbw.block _ (heap_lt (heap_alloc_new w1 (.cells #[.int .i64 0, .int .u64 0, .int .u64 0, .slice none 0 0] 32)))).trans (heap_alloc_new w1 (.cells #[.int .i64 0, .int .u64 0, .int .u64 0, .slice none 0 0] 32)); have u10 := (hbw.block _ (heap_lt (heap_old (o := .cells #[.int .i64 0, .int .u64 0, .int .u64 0, .slice none 0 0] 32) Q10.out))).trans (heap_old (o := .cells #[.int .i64 0, .int .u64 0, .int .u64 0, .slice none 0 0] 32) Q10.out); have U12 := Lib.hid u12; have U10 := Lib.hid u10; clear hen hbw hdo u12 u10))
  refine HD.out.mono ?_
  rintro e w4 ⟨rfl, hto4⟩
  have v12 := hto4.far HN3.out U12.out (by decide)
  have v10 := hto4.far HN3.out U10.out (by decide)
  have z0 : w4.cell? ⟨w1.heap.size, 0, none⟩ = some (.int .i64 0) := by simp [World.cell?, v12]
  have zf : w4.frozen? ⟨w1.heap.size, 0, none⟩ = false := by simp [World.frozen?, v12]
  have HV12 := Lib.hid v12
  have HV10 := Lib.hid v10
  have HT4 := Lib.hid hto4
  clear v12 v10 hto4
  obtain ⟨⟨s', err⟩, hs'⟩ : ∃ x, x = s.doCls (clsL t) n t := ⟨_, rfl⟩
  rw [← hs'] at HT4 ⊢
  have HDE := Lib.hid hs'
  clear hs' HD
  go_wp2
  have hw1 : w.heap.size ≤ w1.heap.size := hM.out.1.size
  have hlt := heap_lt Q10.out
  have r12 := setCell_row w4 w1.heap.size 0 _ _ _ (.int .i64 err) HV12.out
  have r12 : (w4.setCell ⟨w1.heap.size, 0, none⟩ (.int .i64 err)).heap[w1.heap.size]? = some (.cells #[.int .i64 err, .int .u64 0, .int .u64 0, .slice none 0 0] 32 (0, 0)) := r12
  have r10 := (Below.heap_setCell w4 ⟨w1.heap.size, 0, none⟩ (.int .i64 err) w.heap.size (fun e => by simp only at e; omega)).trans HV10.out
  have hto3 : NodeTo w c L s w3 := ⟨L1, HN3.out, (hM.out.below ((Below.refl _ _).alloc (Nat.le_refl _) _)).below HBW.out⟩
  have hto : NodeTo w c L s' (w4.setCell ⟨w1.heap.size, 0, none⟩ (.int .i64 err)) := by
    obtain ⟨L4, h4, m4⟩ := HT4.out
    have hto4 : NodeTo w c L s' w4 := ⟨L4, h4, ((hM.out.below ((Below.refl _ _).alloc (Nat.le_refl _) _)).below HBW.out).trans m4 fun i hi => Nat.lt_of_lt_of_le (HF.out i hi) (Nat.le_refl _)⟩
    exact hto4.write 0 (.int .i64 err) HV12.out (by decide) (by decide) hw1
  have HS : Hid (StrRow (w4.setCell ⟨w1.heap.size, 0, none⟩ (.int .i64 err)) (.slice none 0 0) []) := ⟨none, 0, rfl, by simp, by decide, fun h => absurd h (by simp)⟩
  generalize w4.setCell ⟨w1.heap.size, 0, none⟩ (.int .i64 err) = w2 at *
  generalize w1.heap.size = b12 at *
  clear Q10 HN1 hM HC H1 HB HM HBW HN3 HV12 HV10 HT4 U12 U10 hlk hcf hto3 z0 zf k1
  have HT := Lib.hid hto
  obtain ⟨L2, hN2, -⟩ := hto
  have n0 := hN2.cell0
  have n2 := hN2.cell2
  obtain ⟨al, cl, hlv, hcl1, hcl2⟩ := own_len2 hN2.hlog
  rw [hlv] at n2
  have hc12 : c ≠ b12 := obj_ne hN2.hc r12 (cells_ne (by decide))
  have hc10 : c ≠ w.heap.size := obj_ne hN2.hc r10 (cells_ne (by decide))
  have hfl := hN2.fine.log
  have hb1 : w.heap.size ≠ b12 := by omega
  have hb2 : b12 ≠ w.heap.size := by omega
  have a0 : w2.cell? ⟨b12, 0, none⟩ = some (.int .i64 err) := by simp [World.cell?, r12]
  have a1 : w2.cell? ⟨b12, 1, none⟩ = some (.int .u64 0) := by simp [World.cell?, r12]
  have a2 : w2.cell? ⟨b12, 2, none⟩ = some (.int .u64 0) := by simp [World.cell?, r12]
  have a3 : w2.cell? ⟨b12, 3, none⟩ = some (.slice none 0 0) := by simp [World.cell?, r12]
  have f1 : w2.frozen? ⟨b12, 1, none⟩ = false := by simp [World.frozen?, r12]
  have f2 : w2.frozen? ⟨b12, 2, none⟩ = false := by simp [World.frozen?, r12]
  have d0 : w2.cell? ⟨w.heap.size, 0, none⟩ = some (.int .i64 0) := by simp [World.cell?, r10]
  have d1 : w2.cell? ⟨w.heap.size, 1, none⟩ = some (.int .u64 0) := by simp [World.cell?, r10]
  have d2 : w2.cell? ⟨w.heap.size, 2, none⟩ = some (.int .u64 0) := by simp [World.cell?, r10]
  have d3 : w2.cell? ⟨w.heap.size, 3, none⟩ = some (.slice none 0 0) := by simp [World.cell?, r10]
  have g0 : w2.frozen? ⟨w.heap.size, 0, none⟩ = false := by simp [World.frozen?, r10]
  have g1 : w2.frozen? ⟨w.heap.size, 1, none⟩ = false := by simp [World.frozen?, r10]
  have g2 : w2.frozen? ⟨w.heap.size, 2, none⟩ = false := by simp [World.frozen?, r10]
  have g3 : w2.frozen? ⟨w.heap.size, 3, none⟩ = false := by simp [World.frozen?, r10]
  have HR12 := Lib.hid r12
  have HR10 := Lib.hid r10
  clear hN2 r12 r10 hlv
  go_region
  go_wp2
  rw [← HDE.out]
  exact run_ret (r := ⟨s', err, []⟩) (.slice none 0 0) HT.out.tvNil HR12.out HR10.out (by omega) HS.out (fun k e => by cases e) rfl rfl ⟨_, _, _, rfl⟩

end Go.Proofs.YtpaioaljopjpkaaGreatDoor
