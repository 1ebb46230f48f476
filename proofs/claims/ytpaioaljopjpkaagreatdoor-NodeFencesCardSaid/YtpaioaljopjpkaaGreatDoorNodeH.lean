/- A node's Run. Conditions: a node as it is laid; the world's first cell a number. -/
import Derived.Test.YtpaioaljopjpkaaGreatDoorNodeG
set_option linter.unusedVariables false
set_option linter.unusedSimpArgs false
namespace Go.Proofs.YtpaioaljopjpkaaGreatDoor
open Go.RowKit

/-- a new block of another type turned: the node stays. -/
theorem NodeTo.put {w w1 : World} {c : Nat} {L : NodeL} {s' : NodeS} (h : NodeTo w c L s' w1) {b : Nat} (o : Obj) {cur : Array Value} {T : TypeId} {fz : Nat × Nat} (hb : w1.heap[b]? = some (.cells cur T fz)) (hT : T ≠ 116 ∧ T ≠ 132 ∧ T ≠ 73 ∧ T ≠ 9) (hT3 : T ≠ 3) (hn : w.heap.size ≤ b) :
    NodeTo w c L s' (w1.putObj b o) := by
  obtain ⟨L1, h1, hk, hf⟩ := h
  refine ⟨L1, ?_, hk.putObj (.inl hn) o, hf⟩
  refine h1.stay (fun k hk' => putObj_other _ _ _ _ fun e => h1.far hb hT (e ▸ hk')) fun k ⟨n, hk'⟩ => putObj_other _ _ _ _ fun e => ?_
  subst e
  exact obj_ne hb hk' (cells_ne hT3) rfl
theorem StrRow.put {w : World} {v : Value} {l : List Sg.B} (h : StrRow w v l) (b : Nat) (o : Obj) (hb : v.ownBlock ≠ some b) : StrRow (w.putObj b o) v l :=
  h.move fun g off n cp e hl => putObj_other _ _ _ _ fun e2 => hb (by rw [e, e2]; rfl)

theorem NodeTv.put {w w1 : World} {c : Nat} {L : NodeL} {s' : NodeS} {tv : Value} (h : NodeTv w c L s' w1 tv) {b : Nat} (o : Obj) {cur : Array Value} {T : TypeId} {fz : Nat × Nat} (hb : w1.heap[b]? = some (.cells cur T fz)) (hT : T ≠ 116 ∧ T ≠ 132 ∧ T ≠ 73 ∧ T ≠ 9) (hT3 : T ≠ 3) (hn : w.heap.size ≤ b) :
    NodeTv w c L s' (w1.putObj b o) tv := by
  obtain ⟨L1, h1, ⟨hk, hf⟩, h2⟩ := h
  refine ⟨L1, ?_, ⟨hk.putObj (.inl hn) o, hf⟩, fun k e => ⟨(h2 k e).1, by rw [putObj_size]; exact (h2 k e).2⟩⟩
  refine h1.stay (fun k hk' => putObj_other _ _ _ _ fun e => h1.far hb hT (e ▸ hk')) fun k ⟨n, hk'⟩ => putObj_other _ _ _ _ fun e => ?_
  subst e
  exact obj_ne hb hk' (cells_ne hT3) rfl
theorem NodeTv.drew {w w1 : World} {c : Nat} {L : NodeL} {s' : NodeS} {tv : Value} (h : NodeTv w c L s' w1 tv) : NodeTv w c L s' w1.drew tv := by
  obtain ⟨L1, h1, h2, h3⟩ := h
  exact ⟨L1, h1.drew, h2.below (Below.refl _ _).drew, h3⟩
def tailW (w2 : World) (b12 b10 : Nat) (v0 v1 v2 v3 : Value) : World :=
  ((((((w2.setCell ⟨b12, 1, none⟩ v1).setCell ⟨b12, 2, none⟩ v2).setCell ⟨b10, 0, none⟩ v0).setCell ⟨b10, 1, none⟩ v1).setCell ⟨b10, 2, none⟩ v2).setCell ⟨b10, 3, none⟩ v3).drew
theorem tailW_eq {w2 : World} {b12 b10 : Nat} {x0 x1 x2 x3 y0 y1 y2 y3 v0 v1 v2 v3 : Value} (r12 : w2.heap[b12]? = some (.cells #[x0, x1, x2, x3] 32 (0, 0))) (r10 : w2.heap[b10]? = some (.cells #[y0, y1, y2, y3] 32 (0, 0))) (hb : b10 ≠ b12) :
    tailW w2 b12 b10 v0 v1 v2 v3 = ((w2.putObj b12 (.cells #[x0, v1, v2, x3] 32 (0, 0))).putObj b10 (.cells #[v0, v1, v2, v3] 32 (0, 0))).drew := by
  unfold tailW
  have hl := heap_lt r10
  have hl2 := heap_lt r12
  rw [setCell_put r12, setCell_put (putObj_same _ _ _ hl2), putObj_put]
  have e : (w2.putObj b12 (.cells ((#[x0, x1, x2, x3].setIfInBounds 1 v1).setIfInBounds 2 v2) 32 (0, 0))).heap[b10]? = some (.cells #[y0, y1, y2, y3] 32 (0, 0)) := (putObj_other _ _ _ _ hb).trans r10
  have hl3 := heap_lt e
  rw [setCell_put e, setCell_put (putObj_same _ _ _ hl3), putObj_put, setCell_put (putObj_same _ _ _ hl3), putObj_put, setCell_put (putObj_same _ _ _ hl3), putObj_put]
  rfl

theorem run_ret {a : Act} {w w2 : World} {c : Nat} {L : NodeL} {r : RunR} {b12 : Nat} {x0 x1 x2 x3 y0 y1 y2 y3 : Value} (tv : Value) (hto : NodeTv w c L r.s w2 tv) (r12 : w2.heap[b12]? = some (.cells #[x0, x1, x2, x3] 32 (0, 0))) (r10 : w2.heap[w.heap.size]? = some (.cells #[y0, y1, y2, y3] 32 (0, 0))) (hb : w.heap.size < b12)
    (hrow : StrRow w2 tv r.texts) (hnew : ∀ k, tv.ownBlock = some k → w.heap.size ≤ k ∧ k ≠ b12 ∧ k ≠ w.heap.size) (ha : a.tmps.getD 10 undef = .pointer (some ⟨w.heap.size, 0, none⟩)) (hd : a.defers = []) (htv : ∃ x n cp, tv = .slice x n cp) :
    bodyPost Tryz.prog Tryz.f17 (RunPost w c L r) Exit.ret a (tailW w2 b12 w.heap.size (.int .i64 r.err) (.int .u64 (r.s.epoch : Int)) (.int .u64 (r.s.log.length : Int)) tv) := by
  rw [tailW_eq r12 r10 (by omega)]
  have h1 := hto.put (.cells #[x0, .int .u64 (r.s.epoch : Int), .int .u64 (r.s.log.length : Int), x3] 32 (0, 0)) r12 (by decide) (by decide) (by omega)
  have e := (putObj_other w2 b12 w.heap.size (.cells #[x0, .int .u64 (r.s.epoch : Int), .int .u64 (r.s.log.length : Int), x3] 32 (0, 0)) (by omega)).trans r10
  have h2 := (h1.put (.cells #[.int .i64 r.err, .int .u64 (r.s.epoch : Int), .int .u64 (r.s.log.length : Int), tv] 32 (0, 0)) e (by decide) (by decide) (Nat.le_refl _)).drew
  have h3 := (hrow.put b12 (.cells #[x0, .int .u64 (r.s.epoch : Int), .int .u64 (r.s.log.length : Int), x3] 32 (0, 0)) (fun e => (hnew _ e).2.1 rfl)).put w.heap.size (.cells #[.int .i64 r.err, .int .u64 (r.s.epoch : Int), .int .u64 (r.s.log.length : Int), tv] 32 (0, 0)) (fun e => (hnew _ e).2.2 rfl)
  have h4 := putObj_same (w2.putObj b12 (.cells #[x0, .int .u64 (r.s.epoch : Int), .int .u64 (r.s.log.length : Int), x3] 32 (0, 0))) w.heap.size (.cells #[.int .i64 r.err, .int .u64 (r.s.epoch : Int), .int .u64 (r.s.log.length : Int), tv] 32 (0, 0)) (heap_lt e)
  generalize (w2.putObj b12 (.cells #[x0, .int .u64 (r.s.epoch : Int), .int .u64 (r.s.log.length : Int), x3] 32 (0, 0))).putObj w.heap.size (.cells #[.int .i64 r.err, .int .u64 (r.s.epoch : Int), .int .u64 (r.s.log.length : Int), tv] 32 (0, 0)) = wz at *
  obtain ⟨x, n, cp, rfl⟩ := htv
  refine bodyPost_ret (v := .agg #[.int .i64 r.err, .int .u64 (r.s.epoch : Int), .int .u64 (r.s.log.length : Int), .slice x n cp]) ?_ hd ⟨_, rfl, h3, fun k e => (hnew k e).1, h2⟩
  simp only [Array.getD_eq_getD_getElem?] at ha
  have q0 : wz.drew.cell? ⟨w.heap.size, 0, none⟩ = some (.int .i64 r.err) := by show wz.cell? _ = _; simp [World.cell?, h4]
  have q1 : wz.drew.cell? ⟨w.heap.size, 1, none⟩ = some (.int .u64 (r.s.epoch : Int)) := by show wz.cell? _ = _; simp [World.cell?, h4]
  have q2 : wz.drew.cell? ⟨w.heap.size, 2, none⟩ = some (.int .u64 (r.s.log.length : Int)) := by show wz.cell? _ = _; simp [World.cell?, h4]
  have q3 : wz.drew.cell? ⟨w.heap.size, 3, none⟩ = some (.slice x n cp) := by show wz.cell? _ = _; simp [World.cell?, h4]
  simp [results, Tryz.results17, go_sem, ha, q0, q1, q2, q3]

set_option maxRecDepth 100000 in
set_option maxHeartbeats 4000000 in
theorem run_no (w : World) (c : Nat) (L : NodeL) (s : NodeS) (h : NodeAt w c L s) (m : Int) (hm : w.cell? ⟨0, 0, none⟩ = some (.int .i64 m)) (n : Int) (epoch : Nat) (reads : Bool) (t : Sg.B) (ht : t.length ≤ maxLen) (he : s.may epoch reads (clsL t) ≠ 0) :
    Calls Tryz.prog 17 #[.pointer (some ⟨c, 0, none⟩), .int .i64 n, .int .u64 (epoch : Int), .bool reads, .string (ba t)] w (RunPost w c L ⟨s, s.may epoch reads (clsL t), []⟩) := by
  have h0 : (0 : Nat) < w.heap.size := World.block_lt_of_cell? w ⟨0, 0, none⟩ hm
  have hb : Below w.heap.size w (w.alloc (.cells #[.int .i64 0, .int .u64 0, .int .u64 0, .slice none 0 0] 32)) := (Below.refl _ _).alloc (Nat.le_refl _) _
  have h1 := h.below hb
  have c4 := h1.cell4
  have HC := Lib.hid (class_calls L.cl L.mo (ba t) m _ h1.hcls (by rw [ba_size]; exact ht) ((hb.cell (p := ⟨0, 0, none⟩) h0).trans hm))
  rw [ba_data] at HC
  have H1 := Lib.hid h1
  have HB := Lib.hid hb
  have hmb : (s.may epoch reads (clsL t) == 0) = false := by simpa using he
  have mixed : Tryz.prog.follows Departure.mixedOrders = true := by kernel_rfl
  clear h h1 hb he
  go_enter Tryz.func17, Tryz.ntmps17
  go_wp2_with (first | (go_at_call 18; refine HC.out.mono ?_; intro e w1 hp; obtain ⟨rfl, hto⟩ := H1.out.reclass hp; have q10 := hto.far H1.out (heap_alloc_new w _) (by decide); obtain ⟨L1, hN1, hM1⟩ := hto; have hM := Lib.hid (show Moves w c L L1 w1 from ⟨(Keeps.of_new HB.out _).trans hM1.1, fun k hk => (hM1.2 k hk).imp id fun e => Nat.le_trans HB.out.size e⟩); have HM := Lib.hid (may_calls _ c L1 s (hN1.alloc (.cells #[.int .i64 0, .int .u64 0, .int .u64 0, .slice none 0 0] 32)) epoch reads (clsL t)); have HN1 := Lib.hid hN1; have Q10 := Lib.hid q10; clear hp hN1 hM1 q10) | (go_at_call 56; refine HM.out.mono ?_; rintro e w2 ⟨rfl, rfl⟩))
  have hto : NodeTo w c L s (w1.alloc (.cells #[.int .i64 (s.may epoch reads (clsL t)), .int .u64 0, .int .u64 0, .slice none 0 0] 32)) := ⟨L1, HN1.out.alloc _, hM.out.below ((Below.refl _ _).alloc (Nat.le_refl _) _)⟩
  have r12 := heap_alloc_new w1 (.cells #[.int .i64 (s.may epoch reads (clsL t)), .int .u64 0, .int .u64 0, .slice none 0 0] 32)
  have r10 := heap_old (o := .cells #[.int .i64 (s.may epoch reads (clsL t)), .int .u64 0, .int .u64 0, .slice none 0 0] 32) Q10.out
  have hw1 : w.heap.size ≤ w1.heap.size := hM.out.1.size
  have hlt := heap_lt Q10.out
  have HS : Hid (StrRow (w1.alloc (.cells #[.int .i64 (s.may epoch reads (clsL t)), .int .u64 0, .int .u64 0, .slice none 0 0] 32)) (.slice none 0 0) []) := ⟨none, 0, rfl, by simp, by decide, fun h => absurd h (by simp)⟩
  generalize w1.alloc (.cells #[.int .i64 (s.may epoch reads (clsL t)), .int .u64 0, .int .u64 0, .slice none 0 0] 32) = w2 at *
  generalize w1.heap.size = b12 at *
  generalize s.may epoch reads (clsL t) = err at *
  clear Q10 HN1 hM HC H1 HB HM hmb
  have HT := Lib.hid hto
  obtain ⟨L2, hN2, -⟩ := hto
  have n0 := hN2.cell0
  have n2 := hN2.cell2
  obtain ⟨al, cl, hlv, hcl1, hcl2⟩ := own_len2 hN2.hlog
  rw [hlv] at n2
  have hc12 : c ≠ b12 := obj_ne hN2.hc r12 (cells_ne (by decide))
  have hc10 : c ≠ w.heap.size := obj_ne hN2.hc r10 (cells_ne (by decide))
  have hfl := hN2.fine.log
  have hb1 : w.heap.size ≠ b12 := by omega
  have hb2 : b12 ≠ w.heap.size := by omega
  have a0 : w2.cell? ⟨b12, 0, none⟩ = some (.int .i64 err) := by simp [World.cell?, r12]
  have a1 : w2.cell? ⟨b12, 1, none⟩ = some (.int .u64 0) := by simp [World.cell?, r12]
  have a2 : w2.cell? ⟨b12, 2, none⟩ = some (.int .u64 0) := by simp [World.cell?, r12]
  have a3 : w2.cell? ⟨b12, 3, none⟩ = some (.slice none 0 0) := by simp [World.cell?, r12]
  have f1 : w2.frozen? ⟨b12, 1, none⟩ = false := by simp [World.frozen?, r12]
  have f2 : w2.frozen? ⟨b12, 2, none⟩ = false := by simp [World.frozen?, r12]
  have d0 : w2.cell? ⟨w.heap.size, 0, none⟩ = some (.int .i64 0) := by simp [World.cell?, r10]
  have d1 : w2.cell? ⟨w.heap.size, 1, none⟩ = some (.int .u64 0) := by simp [World.cell?, r10]
  have d2 : w2.cell? ⟨w.heap.size, 2, none⟩ = some (.int .u64 0) := by simp [World.cell?, r10]
  have d3 : w2.cell? ⟨w.heap.size, 3, none⟩ = some (.slice none 0 0) := by simp [World.cell?, r10]
  have g0 : w2.frozen? ⟨w.heap.size, 0, none⟩ = false := by simp [World.frozen?, r10]
  have g1 : w2.frozen? ⟨w.heap.size, 1, none⟩ = false := by simp [World.frozen?, r10]
  have g2 : w2.frozen? ⟨w.heap.size, 2, none⟩ = false := by simp [World.frozen?, r10]
  have g3 : w2.frozen? ⟨w.heap.size, 3, none⟩ = false := by simp [World.frozen?, r10]
  have HR12 := Lib.hid r12
  have HR10 := Lib.hid r10
  clear hN2 r12 r10 hlv
  go_region
  go_wp2
  exact run_ret (r := ⟨s, err, []⟩) (.slice none 0 0) HT.out.tvNil HR12.out HR10.out (by omega) HS.out (fun k e => by cases e) rfl rfl ⟨_, _, _, rfl⟩
end Go.Proofs.YtpaioaljopjpkaaGreatDoor
