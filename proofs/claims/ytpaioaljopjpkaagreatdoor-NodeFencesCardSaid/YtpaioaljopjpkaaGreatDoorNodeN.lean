/- A node's Copy, what is copied. Conditions: nodes as they are laid; the one that is copied from apart, where it is of a later epoch. -/
import Derived.Test.YtpaioaljopjpkaaGreatDoorNodeM
import Derived.IntWalk
set_option linter.unusedVariables false
set_option linter.unusedSimpArgs false
namespace Go.Proofs.YtpaioaljopjpkaaGreatDoor
open Go.RowKit

theorem NodeAt.taken {w w2 : World} {c : Nat} {L : NodeL} {s : NodeS} (h : NodeAt w c L s) (hb : Below w.heap.size w w2) (v : Value) (log : List En) (hown : w2.ownsRow w.heap.size 73 2 v log.length (enCells log)) (hf : NodeS.Fine ⟨s.epoch, s.leads, log, s.opn⟩) :
    NodeTo w c L ⟨s.epoch, s.leads, log, s.opn⟩ (w2.setCell ⟨c, 2, none⟩ v) := by
  have h2 := h.below hb
  have e := setCell_put (o := 2) (v := v) h2.hc
  have h3 := h2.recell s.epoch s.leads v log (own_mono hown (Nat.zero_le _)) hf
  refine ⟨{ L with lv := v }, by rw [e]; exact h3, by rw [e]; exact keeps_put (Keeps.of_new hb _) (.inl rfl) _, fun k hk => ?_⟩
  rcases hk with hk | hk | hk | hk | hk | hk
  · exact .inl (.inl hk)
  · exact .inl (.inr (.inl hk))
  · exact .inl (.inr (.inr (.inl hk)))
  · exact .inl (.inr (.inr (.inr (.inl hk))))
  · exact .inr (hown.lt k hk).1
  · exact .inl (.inr (.inr (.inr (.inr (.inr hk)))))
theorem fine_taken {s t : NodeS} (hs : s.Fine) (ht : t.Fine) (most : Int) : (s.taken t most).1.Fine := by
  have hc := commonL_le s.log t.log
  have hu : s.upto t most ≤ t.log.length := by unfold NodeS.upto; omega
  have hu2 : commonL s.log t.log ≤ s.upto t most := by unfold NodeS.upto; omega
  refine ⟨hs.epoch, ?_, fun e he => ?_, hs.opn, hs.nd⟩
  · have := ht.log
    simp only [NodeS.taken, List.length_append, List.length_take, List.length_drop]
    omega
  · rcases List.mem_append.1 he with he | he
    · exact hs.texts e (List.mem_of_mem_take he)
    · exact ht.texts e (List.mem_of_mem_drop (List.mem_of_mem_take he))

theorem cell_new2 (w : World) (x y : Value) (T : TypeId) : (w.alloc (.cells #[x, y] T)).cell? ⟨w.heap.size, 0, none⟩ = some x ∧ (w.alloc (.cells #[x, y] T)).cell? ⟨w.heap.size, 1, none⟩ = some y := by
  constructor <;> (simp only [World.cell?, heap_alloc_new]; rfl)
set_option maxRecDepth 100000 in
set_option maxHeartbeats 8000000 in
theorem copy_same (w : World) (c : Nat) (L : NodeL) (s : NodeS) (h : NodeAt w c L s) (d : Nat) (M : NodeL) (t : NodeS) (hd : NodeAt w d M t) (most : Int) (hlt0 : s.epoch = t.epoch) (hld : s.leads = false) :
    Calls Tryz.prog 36 #[.pointer (some ⟨c, 0, none⟩), .pointer (some ⟨d, 0, none⟩), .int .i64 most] w fun e w' => e = .returned (.int .i64 ((s.taken t most).2 : Int)) ∧ NodeTo w c L (s.taken t most).1 w' := by
  have mixed : Tryz.prog.follows Departure.mixedOrders = true := by kernel_rfl
  have b0 : decide (t.epoch < s.epoch) = false := by simp; omega
  have b3 : ((t.epoch : Int) == (s.epoch : Int)) = true := by simp; omega
  have b4 : decide (s.epoch < t.epoch) = false := by simp; omega
  have c0 := h.cell0
  have c1 := h.cell1
  rw [hld] at c1
  have d0 := hd.cell0
  have hN := h
  have hD := hd
  have HN0 := Lib.hid h
  clear h hd hlt0 hld
  have HNx := Lib.hid hN
  have HDx := Lib.hid hD
  clear hN hD
  go_enter Tryz.func36, Tryz.ntmps36
  go_wp2
  go_quiet (fail)
  go_wp2
  go_quiet (fail)
  go_wp2
  have hN := HNx.out
  have hD := HDx.out
  clear c0 c1 d0 b0 b3 b4
  have hsl : s.log.length ≤ 200 := hN.fine.log
  have htl : t.log.length ≤ 200 := hD.fine.log
  obtain ⟨al, cl, hlv, hcl1, hcl2⟩ := own_len2 hN.hlog
  obtain ⟨am, cm, hmv, hcm1, hcm2⟩ := own_len2 hD.hlog
  have HN := Lib.hid hN
  have HD := Lib.hid hD
  obtain ⟨X, hX⟩ : ∃ X : Nat, X = (max (min most 200) 0).toNat := ⟨_, rfl⟩
  have hX1 : max (min most 200) 0 = (X : Int) := by omega
  have hX3 : X ≤ 200 := by omega
  have HX2 := Lib.hid hX.symm
  have hmn : min (s.log.length : Int) (t.log.length : Int) = ((min s.log.length t.log.length : Nat) : Int) := by omega
  clear hN hD hX
  go_loopg [7] (min s.log.length t.log.length) (fun r v7 wr => ∃ k : Nat, r + k = min s.log.length t.log.length ∧ v7 = .int .i64 k ∧ Hid (s.log.take k = t.log.take k) ∧ Below w.heap.size w wr)
  case atStart => exact ⟨0, by omega, rfl, rfl, below_drewN (below_drewN (Below.refl _ _) _) _⟩
  case round =>
    obtain ⟨k, hk, rfl, HTK, hbw⟩ := hrel
    have HBW := Lib.hid hbw
    have HNr := Lib.hid (HN.out.below hbw)
    have HDr := Lib.hid (HD.out.below hbw)
    have n2 := HNr.out.cell2
    have d2 := HDr.out.cell2
    rw [hlv] at n2
    rw [hmv] at d2
    have hks : k ≤ s.log.length := by omega
    have hkt : k ≤ t.log.length := by omega
    clear hbw
    by_cases hlt : k < min s.log.length t.log.length
    · have b1 : decide (k < min s.log.length t.log.length) = true := by simpa using hlt
      obtain ⟨e1, he1⟩ : ∃ e1, s.log[k]? = some e1 := ⟨s.log[k]'(by omega), List.getElem?_eq_getElem (by omega)⟩
      obtain ⟨e2, he2⟩ : ∃ e2, t.log[k]? = some e2 := ⟨t.log[k]'(by omega), List.getElem?_eq_getElem (by omega)⟩
      obtain ⟨g1, o1, cp1, hv1, hc11, hc12, hg1, hcell1⟩ := RowAt.cells (own_rowAt HNr.out.hlog) (by omega)
      obtain ⟨g2, o2, cp2, hv2, hc21, hc22, hg2, hcell2⟩ := RowAt.cells (own_rowAt HDr.out.hlog) (by omega)
      have q10 := hcell1 _ _ (enCells_at s.log k e1 he1).1
      have q11 := hcell1 _ _ (enCells_at s.log k e1 he1).2
      have q20 := hcell2 _ _ (enCells_at t.log k e2 he2).1
      have q21 := hcell2 _ _ (enCells_at t.log k e2 he2).2
      rw [← Nat.add_assoc] at q11 q21
      have ev1 := hlv.symm.trans hv1
      cases ev1
      have ev2 := hmv.symm.trans hv2
      cases ev2
      have HE1 := Lib.hid he1
      have HE2 := Lib.hid he2
      obtain ⟨x1, y1⟩ := e1
      obtain ⟨x2, y2⟩ := e2
      simp only at q10 q11 q20 q21
      clear hcell1 hcell2 he1 he2
      have hks1 : k < s.log.length := by omega
      have hkt1 : k < t.log.length := by omega
      unfold maxLen at hc12 hc22
      by_cases heq : (x1, y1) = (x2, y2)
      · cases heq
        go_wp2
        go_quiet (fail)
        go_wp2
        go_roundg (min s.log.length t.log.length - (k + 1))
        case measure => omega
        case rel => exact ⟨k + 1, by omega, by go_num, by show _ = _; rw [List.take_add_one, List.take_add_one, HTK.out, HE1.out, HE2.out], HBW.out.trans ((below_drewN (Below.refl _ _) _).mono HBW.out.size)⟩
      · have HKE : Hid (commonL s.log t.log = k) := commonL_of _ _ _ hks hkt HTK.out fun x y hx hy => by rw [HE1.out] at hx; rw [HE2.out] at hy; cases hx; cases hy; exact heq
        by_cases hx : x1 = x2
        · subst hx
          have hy : ¬ ((ba y1).toList = (ba y2).toList) := fun e => heq (by rw [ba_toList, ba_toList] at e; rw [e])
          clear heq
          go_wp2
          go_quiet (fail)
          have hke : commonL s.log t.log = k := HKE.out
          have hup : k ≤ s.upto t most ∧ s.upto t most ≤ t.log.length := by unfold NodeS.upto; rw [hke, HX2.out]; omega
          obtain ⟨hi, hhi⟩ : ∃ hi, hi = s.upto t most := ⟨_, rfl⟩
          have hmin : min (t.log.length : Int) ((k : Int) + (X : Int)) = (hi : Int) := by rw [hhi]; unfold NodeS.upto; rw [hke, HX2.out]; omega
          rw [← hhi] at hup
          obtain ⟨pa, pc, hp1, hp2, hp3⟩ := cut_to HNr.out.hlog k hks
          obtain ⟨qa, qc, hq1, hq2, hq3⟩ := cut_row HDr.out.hlog k hi hup.1 hup.2
          rw [hlv] at hp1
          rw [hmv] at hq1
          have hwr : IntKind.i64.wrap ((k : Int) + (X : Int)) = (k : Int) + (X : Int) := IntWalk.i64_in _ (by omega)
          have HCC := Lib.hid (fun (w5 : World) (hb : Below wr.heap.size wr w5) => concat_calls (w5.alloc (.cells #[.slice pa k pc, .slice qa (hi - k) qc] 43)) w5.heap.size pa qa k pc (hi - k) qc _ _ (cell_new2 w5 _ _ 43).1 (cell_new2 w5 _ _ 43).2
            (RowAt.below (RowAt.below hp2 hb (Nat.le_refl _)) ((Below.refl _ _).alloc (Nat.le_refl _) _) (Nat.le_refl _)) hp3 (by rw [enCells_len, List.length_take]; omega) (enCells_one _) (RowAt.below (RowAt.below hq2 hb (Nat.le_refl _)) ((Below.refl _ _).alloc (Nat.le_refl _) _) (Nat.le_refl _)) hq3 (by rw [enCells_len, List.length_take, List.length_drop]; omega) (enCells_one _) (by omega) (by omega))
          have HI := Lib.hid hhi
          clear hp2 hp3 hq2 hq3 hhi hke
          go_wp2
          go_quiet (fail)
          clear hwr
          go_wp2_with (first | (go_at_call 73; refine (HCC.out _ (below_drewN (Below.refl _ _) _)).mono ?_; rintro e w6 ⟨v6, rfl, ho6, hb6⟩; rw [show k + (hi - k) = hi from by omega] at ho6; have HB6 := Lib.hid (((below_drewN (Below.refl wr.heap.size wr) _).alloc (Nat.le_refl _) _).trans (hb6.mono (by show wr.heap.size ≤ _; simp))); have HO6 := Lib.hid (own_mono ho6 (B' := wr.heap.size) (by show wr.heap.size ≤ _; simp)); obtain ⟨a6, c6, hv6⟩ := own_len ho6; subst hv6; have n6 := (HNr.out.below HB6.out).cell2; have f6 := (HNr.out.below HB6.out).froz 2; clear hb6 ho6))
          go_ret
          have hlen : (s.log.take (commonL s.log t.log) ++ (t.log.drop (commonL s.log t.log)).take (s.upto t most - commonL s.log t.log)).length = hi := by rw [HKE.out, ← HI.out, List.length_append, List.length_take, List.length_take, List.length_drop]; omega
          have hcel : enCells (s.log.take (commonL s.log t.log) ++ (t.log.drop (commonL s.log t.log)).take (s.upto t most - commonL s.log t.log)) = enCells (s.log.take k) ++ enCells ((t.log.drop k).take (hi - k)) := by rw [HKE.out, ← HI.out, enCells_append]
          refine ⟨?_, ?_⟩
          · show _ = Ending.returned (.int .i64 ((s.upto t most - commonL s.log t.log : Nat) : Int)); rw [HKE.out, ← HI.out]; rfl
          · exact NodeTo.from_below (NodeAt.taken HNr.out HB6.out (.slice a6 hi c6) (s.log.take (commonL s.log t.log) ++ (t.log.drop (commonL s.log t.log)).take (s.upto t most - commonL s.log t.log)) (by rw [hlen, hcel]; exact HO6.out) (fine_taken HNr.out.fine HDr.out.fine most)) HBW.out
        · have hx' : ¬ ((x1 : Int) = (x2 : Int)) := by omega
          clear heq
          go_wp2
          go_quiet (fail)
          have hke : commonL s.log t.log = k := HKE.out
          have hup : k ≤ s.upto t most ∧ s.upto t most ≤ t.log.length := by unfold NodeS.upto; rw [hke, HX2.out]; omega
          obtain ⟨hi, hhi⟩ : ∃ hi, hi = s.upto t most := ⟨_, rfl⟩
          have hmin : min (t.log.length : Int) ((k : Int) + (X : Int)) = (hi : Int) := by rw [hhi]; unfold NodeS.upto; rw [hke, HX2.out]; omega
          rw [← hhi] at hup
          obtain ⟨pa, pc, hp1, hp2, hp3⟩ := cut_to HNr.out.hlog k hks
          obtain ⟨qa, qc, hq1, hq2, hq3⟩ := cut_row HDr.out.hlog k hi hup.1 hup.2
          rw [hlv] at hp1
          rw [hmv] at hq1
          have hwr : IntKind.i64.wrap ((k : Int) + (X : Int)) = (k : Int) + (X : Int) := IntWalk.i64_in _ (by omega)
          have HCC := Lib.hid (fun (w5 : World) (hb : Below wr.heap.size wr w5) => concat_calls (w5.alloc (.cells #[.slice pa k pc, .slice qa (hi - k) qc] 43)) w5.heap.size pa qa k pc (hi - k) qc _ _ (cell_new2 w5 _ _ 43).1 (cell_new2 w5 _ _ 43).2
            (RowAt.below (RowAt.below hp2 hb (Nat.le_refl _)) ((Below.refl _ _).alloc (Nat.le_refl _) _) (Nat.le_refl _)) hp3 (by rw [enCells_len, List.length_take]; omega) (enCells_one _) (RowAt.below (RowAt.below hq2 hb (Nat.le_refl _)) ((Below.refl _ _).alloc (Nat.le_refl _) _) (Nat.le_refl _)) hq3 (by rw [enCells_len, List.length_take, List.length_drop]; omega) (enCells_one _) (by omega) (by omega))
          have HI := Lib.hid hhi
          clear hp2 hp3 hq2 hq3 hhi hke
          go_wp2
          go_quiet (fail)
          clear hwr
          go_wp2_with (first | (go_at_call 73; refine (HCC.out _ (below_drewN (Below.refl _ _) _)).mono ?_; rintro e w6 ⟨v6, rfl, ho6, hb6⟩; rw [show k + (hi - k) = hi from by omega] at ho6; have HB6 := Lib.hid (((below_drewN (Below.refl wr.heap.size wr) _).alloc (Nat.le_refl _) _).trans (hb6.mono (by show wr.heap.size ≤ _; simp))); have HO6 := Lib.hid (own_mono ho6 (B' := wr.heap.size) (by show wr.heap.size ≤ _; simp)); obtain ⟨a6, c6, hv6⟩ := own_len ho6; subst hv6; have n6 := (HNr.out.below HB6.out).cell2; have f6 := (HNr.out.below HB6.out).froz 2; clear hb6 ho6))
          go_ret
          have hlen : (s.log.take (commonL s.log t.log) ++ (t.log.drop (commonL s.log t.log)).take (s.upto t most - commonL s.log t.log)).length = hi := by rw [HKE.out, ← HI.out, List.length_append, List.length_take, List.length_take, List.length_drop]; omega
          have hcel : enCells (s.log.take (commonL s.log t.log) ++ (t.log.drop (commonL s.log t.log)).take (s.upto t most - commonL s.log t.log)) = enCells (s.log.take k) ++ enCells ((t.log.drop k).take (hi - k)) := by rw [HKE.out, ← HI.out, enCells_append]
          refine ⟨?_, ?_⟩
          · show _ = Ending.returned (.int .i64 ((s.upto t most - commonL s.log t.log : Nat) : Int)); rw [HKE.out, ← HI.out]; rfl
          · exact NodeTo.from_below (NodeAt.taken HNr.out HB6.out (.slice a6 hi c6) (s.log.take (commonL s.log t.log) ++ (t.log.drop (commonL s.log t.log)).take (s.upto t most - commonL s.log t.log)) (by rw [hlen, hcel]; exact HO6.out) (fine_taken HNr.out.fine HDr.out.fine most)) HBW.out
    · have b1 : decide (k < min s.log.length t.log.length) = false := by simpa using hlt
      have HKE : Hid (commonL s.log t.log = k) := commonL_of _ _ _ hks hkt HTK.out fun x y hx hy => by
        have h1 := (List.getElem?_eq_some_iff.1 hx).1
        have h2 := (List.getElem?_eq_some_iff.1 hy).1
        omega
      go_wp2
      go_quiet (fail)
      have hke : commonL s.log t.log = k := HKE.out
      have hup : k ≤ s.upto t most ∧ s.upto t most ≤ t.log.length := by unfold NodeS.upto; rw [hke, HX2.out]; omega
      obtain ⟨hi, hhi⟩ : ∃ hi, hi = s.upto t most := ⟨_, rfl⟩
      have hmin : min (t.log.length : Int) ((k : Int) + (X : Int)) = (hi : Int) := by rw [hhi]; unfold NodeS.upto; rw [hke, HX2.out]; omega
      rw [← hhi] at hup
      obtain ⟨pa, pc, hp1, hp2, hp3⟩ := cut_to HNr.out.hlog k hks
      obtain ⟨qa, qc, hq1, hq2, hq3⟩ := cut_row HDr.out.hlog k hi hup.1 hup.2
      rw [hlv] at hp1
      rw [hmv] at hq1
      have hwr : IntKind.i64.wrap ((k : Int) + (X : Int)) = (k : Int) + (X : Int) := IntWalk.i64_in _ (by omega)
      have HCC := Lib.hid (fun (w5 : World) (hb : Below wr.heap.size wr w5) => concat_calls (w5.alloc (.cells #[.slice pa k pc, .slice qa (hi - k) qc] 43)) w5.heap.size pa qa k pc (hi - k) qc _ _ (cell_new2 w5 _ _ 43).1 (cell_new2 w5 _ _ 43).2
        (RowAt.below (RowAt.below hp2 hb (Nat.le_refl _)) ((Below.refl _ _).alloc (Nat.le_refl _) _) (Nat.le_refl _)) hp3 (by rw [enCells_len, List.length_take]; omega) (enCells_one _) (RowAt.below (RowAt.below hq2 hb (Nat.le_refl _)) ((Below.refl _ _).alloc (Nat.le_refl _) _) (Nat.le_refl _)) hq3 (by rw [enCells_len, List.length_take, List.length_drop]; omega) (enCells_one _) (by omega) (by omega))
      have HI := Lib.hid hhi
      clear hp2 hp3 hq2 hq3 hhi hke
      go_wp2
      go_quiet (fail)
      clear hwr
      go_wp2_with (first | (go_at_call 73; refine (HCC.out _ (below_drewN (Below.refl _ _) _)).mono ?_; rintro e w6 ⟨v6, rfl, ho6, hb6⟩; rw [show k + (hi - k) = hi from by omega] at ho6; have HB6 := Lib.hid (((below_drewN (Below.refl wr.heap.size wr) _).alloc (Nat.le_refl _) _).trans (hb6.mono (by show wr.heap.size ≤ _; simp))); have HO6 := Lib.hid (own_mono ho6 (B' := wr.heap.size) (by show wr.heap.size ≤ _; simp)); obtain ⟨a6, c6, hv6⟩ := own_len ho6; subst hv6; have n6 := (HNr.out.below HB6.out).cell2; have f6 := (HNr.out.below HB6.out).froz 2; clear hb6 ho6))
      go_ret
      have hlen : (s.log.take (commonL s.log t.log) ++ (t.log.drop (commonL s.log t.log)).take (s.upto t most - commonL s.log t.log)).length = hi := by rw [HKE.out, ← HI.out, List.length_append, List.length_take, List.length_take, List.length_drop]; omega
      have hcel : enCells (s.log.take (commonL s.log t.log) ++ (t.log.drop (commonL s.log t.log)).take (s.upto t most - commonL s.log t.log)) = enCells (s.log.take k) ++ enCells ((t.log.drop k).take (hi - k)) := by rw [HKE.out, ← HI.out, enCells_append]
      refine ⟨?_, ?_⟩
      · show _ = Ending.returned (.int .i64 ((s.upto t most - commonL s.log t.log : Nat) : Int)); rw [HKE.out, ← HI.out]; rfl
      · exact NodeTo.from_below (NodeAt.taken HNr.out HB6.out (.slice a6 hi c6) (s.log.take (commonL s.log t.log) ++ (t.log.drop (commonL s.log t.log)).take (s.upto t most - commonL s.log t.log)) (by rw [hlen, hcel]; exact HO6.out) (fine_taken HNr.out.fine HDr.out.fine most)) HBW.out

set_option maxRecDepth 100000 in
set_option maxHeartbeats 8000000 in
theorem copy_later (w : World) (c : Nat) (L : NodeL) (s : NodeS) (h : NodeAt w c L s) (d : Nat) (M : NodeL) (t : NodeS) (hd : NodeAt w d M t) (most : Int) (hlt0 : s.epoch < t.epoch) (hsep : ∀ k, M.fp d k → ¬ L.fp c k) :
    Calls Tryz.prog 36 #[.pointer (some ⟨c, 0, none⟩), .pointer (some ⟨d, 0, none⟩), .int .i64 most] w fun e w' => e = .returned (.int .i64 (((s.atS t.epoch false).taken t most).2 : Int)) ∧ NodeTo w c L ((s.atS t.epoch false).taken t most).1 w' := by
  have mixed : Tryz.prog.follows Departure.mixedOrders = true := by kernel_rfl
  have b0 : decide (t.epoch < s.epoch) = false := by simp; omega
  have b3 : ((t.epoch : Int) == (s.epoch : Int)) = false := by simp; omega
  have b4 : decide (s.epoch < t.epoch) = true := by simpa using hlt0
  have HA := Lib.hid (fun (w' : World) (hb : Below w.heap.size w w') => at_calls w' c L s (h.below hb) t.epoch hd.fine.epoch false)
  have c0 := h.cell0
  have d0 := hd.cell0
  have HN0 := Lib.hid h
  have HD0 := Lib.hid hd
  have HSEP := Lib.hid hsep
  clear h hd hlt0 hsep
  go_enter Tryz.func36, Tryz.ntmps36
  go_wp2
  go_quiet (fail)
  go_wp2
  go_quiet (fail)
  go_wp2_with (go_at_call 55; refine (HA.out _ (below_drewN (Below.refl _ _) _)).mono ?_; rintro e w1 ⟨rfl, hto⟩; have HTO := Lib.hid (hto.from_below (below_drewN (Below.refl _ _) _)); clear hto)
  obtain ⟨L1, hN, hM⟩ := HTO.out
  have hD : NodeAt w1 d M t := HD0.out.keeps hM.1 (fun k hk => HSEP.out k hk) fun k hk => (HN0.out.fp_obj hk).2
  obtain ⟨s1, hs1⟩ : ∃ x, x = s.atS t.epoch false := ⟨_, rfl⟩
  rw [← hs1] at hN
  have HS1 := Lib.hid hs1
  have HM1 := Lib.hid hM
  clear hs1 hM HTO HA c0 d0 b0 b3 b4
  have hsl : s1.log.length ≤ 200 := hN.fine.log
  have htl : t.log.length ≤ 200 := hD.fine.log
  obtain ⟨al, cl, hlv, hcl1, hcl2⟩ := own_len2 hN.hlog
  obtain ⟨am, cm, hmv, hcm1, hcm2⟩ := own_len2 hD.hlog
  have HN := Lib.hid hN
  have HD := Lib.hid hD
  obtain ⟨X, hX⟩ : ∃ X : Nat, X = (max (min most 200) 0).toNat := ⟨_, rfl⟩
  have hX1 : max (min most 200) 0 = (X : Int) := by omega
  have hX3 : X ≤ 200 := by omega
  have HX2 := Lib.hid hX.symm
  have hmn : min (s1.log.length : Int) (t.log.length : Int) = ((min s1.log.length t.log.length : Nat) : Int) := by omega
  clear hN hD hX
  go_loopg [7] (min s1.log.length t.log.length) (fun r v7 wr => ∃ k : Nat, r + k = min s1.log.length t.log.length ∧ v7 = .int .i64 k ∧ Hid (s1.log.take k = t.log.take k) ∧ Below w1.heap.size w1 wr)
  case atStart => exact ⟨0, by omega, rfl, rfl, Below.refl _ _⟩
  case round =>
    obtain ⟨k, hk, rfl, HTK, hbw⟩ := hrel
    have HBW := Lib.hid hbw
    have HNr := Lib.hid (HN.out.below hbw)
    have HDr := Lib.hid (HD.out.below hbw)
    have n2 := HNr.out.cell2
    have d2 := HDr.out.cell2
    rw [hlv] at n2
    rw [hmv] at d2
    have hks : k ≤ s1.log.length := by omega
    have hkt : k ≤ t.log.length := by omega
    clear hbw
    by_cases hlt : k < min s1.log.length t.log.length
    · have b1 : decide (k < min s1.log.length t.log.length) = true := by simpa using hlt
      obtain ⟨e1, he1⟩ : ∃ e1, s1.log[k]? = some e1 := ⟨s1.log[k]'(by omega), List.getElem?_eq_getElem (by omega)⟩
      obtain ⟨e2, he2⟩ : ∃ e2, t.log[k]? = some e2 := ⟨t.log[k]'(by omega), List.getElem?_eq_getElem (by omega)⟩
      obtain ⟨g1, o1, cp1, hv1, hc11, hc12, hg1, hcell1⟩ := RowAt.cells (own_rowAt HNr.out.hlog) (by omega)
      obtain ⟨g2, o2, cp2, hv2, hc21, hc22, hg2, hcell2⟩ := RowAt.cells (own_rowAt HDr.out.hlog) (by omega)
      have q10 := hcell1 _ _ (enCells_at s1.log k e1 he1).1
      have q11 := hcell1 _ _ (enCells_at s1.log k e1 he1).2
      have q20 := hcell2 _ _ (enCells_at t.log k e2 he2).1
      have q21 := hcell2 _ _ (enCells_at t.log k e2 he2).2
      rw [← Nat.add_assoc] at q11 q21
      have ev1 := hlv.symm.trans hv1
      cases ev1
      have ev2 := hmv.symm.trans hv2
      cases ev2
      have HE1 := Lib.hid he1
      have HE2 := Lib.hid he2
      obtain ⟨x1, y1⟩ := e1
      obtain ⟨x2, y2⟩ := e2
      simp only at q10 q11 q20 q21
      clear hcell1 hcell2 he1 he2
      have hks1 : k < s1.log.length := by omega
      have hkt1 : k < t.log.length := by omega
      unfold maxLen at hc12 hc22
      by_cases heq : (x1, y1) = (x2, y2)
      · cases heq
        go_wp2
        go_quiet (fail)
        go_wp2
        go_roundg (min s1.log.length t.log.length - (k + 1))
        case measure => omega
        case rel => exact ⟨k + 1, by omega, by go_num, by show _ = _; rw [List.take_add_one, List.take_add_one, HTK.out, HE1.out, HE2.out], HBW.out.trans ((below_drewN (Below.refl _ _) _).mono HBW.out.size)⟩
      · have HKE : Hid (commonL s1.log t.log = k) := commonL_of _ _ _ hks hkt HTK.out fun x y hx hy => by rw [HE1.out] at hx; rw [HE2.out] at hy; cases hx; cases hy; exact heq
        by_cases hx : x1 = x2
        · subst hx
          have hy : ¬ ((ba y1).toList = (ba y2).toList) := fun e => heq (by rw [ba_toList, ba_toList] at e; rw [e])
          clear heq
          go_wp2
          go_quiet (fail)
          have hke : commonL s1.log t.log = k := HKE.out
          have hup : k ≤ s1.upto t most ∧ s1.upto t most ≤ t.log.length := by unfold NodeS.upto; rw [hke, HX2.out]; omega
          obtain ⟨hi, hhi⟩ : ∃ hi, hi = s1.upto t most := ⟨_, rfl⟩
          have hmin : min (t.log.length : Int) ((k : Int) + (X : Int)) = (hi : Int) := by rw [hhi]; unfold NodeS.upto; rw [hke, HX2.out]; omega
          rw [← hhi] at hup
          obtain ⟨pa, pc, hp1, hp2, hp3⟩ := cut_to HNr.out.hlog k hks
          obtain ⟨qa, qc, hq1, hq2, hq3⟩ := cut_row HDr.out.hlog k hi hup.1 hup.2
          rw [hlv] at hp1
          rw [hmv] at hq1
          have hwr : IntKind.i64.wrap ((k : Int) + (X : Int)) = (k : Int) + (X : Int) := IntWalk.i64_in _ (by omega)
          have HCC := Lib.hid (fun (w5 : World) (hb : Below wr.heap.size wr w5) => concat_calls (w5.alloc (.cells #[.slice pa k pc, .slice qa (hi - k) qc] 43)) w5.heap.size pa qa k pc (hi - k) qc _ _ (cell_new2 w5 _ _ 43).1 (cell_new2 w5 _ _ 43).2
            (RowAt.below (RowAt.below hp2 hb (Nat.le_refl _)) ((Below.refl _ _).alloc (Nat.le_refl _) _) (Nat.le_refl _)) hp3 (by rw [enCells_len, List.length_take]; omega) (enCells_one _) (RowAt.below (RowAt.below hq2 hb (Nat.le_refl _)) ((Below.refl _ _).alloc (Nat.le_refl _) _) (Nat.le_refl _)) hq3 (by rw [enCells_len, List.length_take, List.length_drop]; omega) (enCells_one _) (by omega) (by omega))
          have HI := Lib.hid hhi
          clear hp2 hp3 hq2 hq3 hhi hke
          go_wp2
          go_quiet (fail)
          clear hwr
          go_wp2_with (first | (go_at_call 73; refine (HCC.out _ (below_drewN (Below.refl _ _) _)).mono ?_; rintro e w6 ⟨v6, rfl, ho6, hb6⟩; rw [show k + (hi - k) = hi from by omega] at ho6; have HB6 := Lib.hid (((below_drewN (Below.refl wr.heap.size wr) _).alloc (Nat.le_refl _) _).trans (hb6.mono (by show wr.heap.size ≤ _; simp))); have HO6 := Lib.hid (own_mono ho6 (B' := wr.heap.size) (by show wr.heap.size ≤ _; simp)); obtain ⟨a6, c6, hv6⟩ := own_len ho6; subst hv6; have n6 := (HNr.out.below HB6.out).cell2; have f6 := (HNr.out.below HB6.out).froz 2; clear hb6 ho6))
          go_ret
          have hlen : (s1.log.take (commonL s1.log t.log) ++ (t.log.drop (commonL s1.log t.log)).take (s1.upto t most - commonL s1.log t.log)).length = hi := by rw [HKE.out, ← HI.out, List.length_append, List.length_take, List.length_take, List.length_drop]; omega
          have hcel : enCells (s1.log.take (commonL s1.log t.log) ++ (t.log.drop (commonL s1.log t.log)).take (s1.upto t most - commonL s1.log t.log)) = enCells (s1.log.take k) ++ enCells ((t.log.drop k).take (hi - k)) := by rw [HKE.out, ← HI.out, enCells_append]
          rw [← HS1.out]
          refine ⟨?_, ?_⟩
          · show _ = Ending.returned (.int .i64 ((s1.upto t most - commonL s1.log t.log : Nat) : Int)); rw [HKE.out, ← HI.out]; rfl
          · obtain ⟨L5, h5, m5⟩ := NodeTo.from_below (NodeAt.taken HNr.out HB6.out (.slice a6 hi c6) (s1.log.take (commonL s1.log t.log) ++ (t.log.drop (commonL s1.log t.log)).take (s1.upto t most - commonL s1.log t.log)) (by rw [hlen, hcel]; exact HO6.out) (fine_taken HNr.out.fine HDr.out.fine most)) HBW.out; exact ⟨L5, h5, HM1.out.trans m5 fun i hi => (HN0.out.fp_obj hi).1⟩
        · have hx' : ¬ ((x1 : Int) = (x2 : Int)) := by omega
          clear heq
          go_wp2
          go_quiet (fail)
          have hke : commonL s1.log t.log = k := HKE.out
          have hup : k ≤ s1.upto t most ∧ s1.upto t most ≤ t.log.length := by unfold NodeS.upto; rw [hke, HX2.out]; omega
          obtain ⟨hi, hhi⟩ : ∃ hi, hi = s1.upto t most := ⟨_, rfl⟩
          have hmin : min (t.log.length : Int) ((k : Int) + (X : Int)) = (hi : Int) := by rw [hhi]; unfold NodeS.upto; rw [hke, HX2.out]; omega
          rw [← hhi] at hup
          obtain ⟨pa, pc, hp1, hp2, hp3⟩ := cut_to HNr.out.hlog k hks
          obtain ⟨qa, qc, hq1, hq2, hq3⟩ := cut_row HDr.out.hlog k hi hup.1 hup.2
          rw [hlv] at hp1
          rw [hmv] at hq1
          have hwr : IntKind.i64.wrap ((k : Int) + (X : Int)) = (k : Int) + (X : Int) := IntWalk.i64_in _ (by omega)
          have HCC := Lib.hid (fun (w5 : World) (hb : Below wr.heap.size wr w5) => concat_calls (w5.alloc (.cells #[.slice pa k pc, .slice qa (hi - k) qc] 43)) w5.heap.size pa qa k pc (hi - k) qc _ _ (cell_new2 w5 _ _ 43).1 (cell_new2 w5 _ _ 43).2
            (RowAt.below (RowAt.below hp2 hb (Nat.le_refl _)) ((Below.refl _ _).alloc (Nat.le_refl _) _) (Nat.le_refl _)) hp3 (by rw [enCells_len, List.length_take]; omega) (enCells_one _) (RowAt.below (RowAt.below hq2 hb (Nat.le_refl _)) ((Below.refl _ _).alloc (Nat.le_refl _) _) (Nat.le_refl _)) hq3 (by rw [enCells_len, List.length_take, List.length_drop]; omega) (enCells_one _) (by omega) (by omega))
          have HI := Lib.hid hhi
          clear hp2 hp3 hq2 hq3 hhi hke
          go_wp2
          go_quiet (fail)
          clear hwr
          go_wp2_with (first | (go_at_call 73; refine (HCC.out _ (below_drewN (Below.refl _ _) _)).mono ?_; rintro e w6 ⟨v6, rfl, ho6, hb6⟩; rw [show k + (hi - k) = hi from by omega] at ho6; have HB6 := Lib.hid (((below_drewN (Below.refl wr.heap.size wr) _).alloc (Nat.le_refl _) _).trans (hb6.mono (by show wr.heap.size ≤ _; simp))); have HO6 := Lib.hid (own_mono ho6 (B' := wr.heap.size) (by show wr.heap.size ≤ _; simp)); obtain ⟨a6, c6, hv6⟩ := own_len ho6; subst hv6; have n6 := (HNr.out.below HB6.out).cell2; have f6 := (HNr.out.below HB6.out).froz 2; clear hb6 ho6))
          go_ret
          have hlen : (s1.log.take (commonL s1.log t.log) ++ (t.log.drop (commonL s1.log t.log)).take (s1.upto t most - commonL s1.log t.log)).length = hi := by rw [HKE.out, ← HI.out, List.length_append, List.length_take, List.length_take, List.length_drop]; omega
          have hcel : enCells (s1.log.take (commonL s1.log t.log) ++ (t.log.drop (commonL s1.log t.log)).take (s1.upto t most - commonL s1.log t.log)) = enCells (s1.log.take k) ++ enCells ((t.log.drop k).take (hi - k)) := by rw [HKE.out, ← HI.out, enCells_append]
          rw [← HS1.out]
          refine ⟨?_, ?_⟩
          · show _ = Ending.returned (.int .i64 ((s1.upto t most - commonL s1.log t.log : Nat) : Int)); rw [HKE.out, ← HI.out]; rfl
          · obtain ⟨L5, h5, m5⟩ := NodeTo.from_below (NodeAt.taken HNr.out HB6.out (.slice a6 hi c6) (s1.log.take (commonL s1.log t.log) ++ (t.log.drop (commonL s1.log t.log)).take (s1.upto t most - commonL s1.log t.log)) (by rw [hlen, hcel]; exact HO6.out) (fine_taken HNr.out.fine HDr.out.fine most)) HBW.out; exact ⟨L5, h5, HM1.out.trans m5 fun i hi => (HN0.out.fp_obj hi).1⟩
    · have b1 : decide (k < min s1.log.length t.log.length) = false := by simpa using hlt
      have HKE : Hid (commonL s1.log t.log = k) := commonL_of _ _ _ hks hkt HTK.out fun x y hx hy => by
        have h1 := (List.getElem?_eq_some_iff.1 hx).1
        have h2 := (List.getElem?_eq_some_iff.1 hy).1
        omega
      go_wp2
      go_quiet (fail)
      have hke : commonL s1.log t.log = k := HKE.out
      have hup : k ≤ s1.upto t most ∧ s1.upto t most ≤ t.log.length := by unfold NodeS.upto; rw [hke, HX2.out]; omega
      obtain ⟨hi, hhi⟩ : ∃ hi, hi = s1.upto t most := ⟨_, rfl⟩
      have hmin : min (t.log.length : Int) ((k : Int) + (X : Int)) = (hi : Int) := by rw [hhi]; unfold NodeS.upto; rw [hke, HX2.out]; omega
      rw [← hhi] at hup
      obtain ⟨pa, pc, hp1, hp2, hp3⟩ := cut_to HNr.out.hlog k hks
      obtain ⟨qa, qc, hq1, hq2, hq3⟩ := cut_row HDr.out.hlog k hi hup.1 hup.2
      rw [hlv] at hp1
      rw [hmv] at hq1
      have hwr : IntKind.i64.wrap ((k : Int) + (X : Int)) = (k : Int) + (X : Int) := IntWalk.i64_in _ (by omega)
      have HCC := Lib.hid (fun (w5 : World) (hb : Below wr.heap.size wr w5) => concat_calls (w5.alloc (.cells #[.slice pa k pc, .slice qa (hi - k) qc] 43)) w5.heap.size pa qa k pc (hi - k) qc _ _ (cell_new2 w5 _ _ 43).1 (cell_new2 w5 _ _ 43).2
        (RowAt.below (RowAt.below hp2 hb (Nat.le_refl _)) ((Below.refl _ _).alloc (Nat.le_refl _) _) (Nat.le_refl _)) hp3 (by rw [enCells_len, List.length_take]; omega) (enCells_one _) (RowAt.below (RowAt.below hq2 hb (Nat.le_refl _)) ((Below.refl _ _).alloc (Nat.le_refl _) _) (Nat.le_refl _)) hq3 (by rw [enCells_len, List.length_take, List.length_drop]; omega) (enCells_one _) (by omega) (by omega))
      have HI := Lib.hid hhi
      clear hp2 hp3 hq2 hq3 hhi hke
      go_wp2
      go_quiet (fail)
      clear hwr
      go_wp2_with (first | (go_at_call 73; refine (HCC.out _ (below_drewN (Below.refl _ _) _)).mono ?_; rintro e w6 ⟨v6, rfl, ho6, hb6⟩; rw [show k + (hi - k) = hi from by omega] at ho6; have HB6 := Lib.hid (((below_drewN (Below.refl wr.heap.size wr) _).alloc (Nat.le_refl _) _).trans (hb6.mono (by show wr.heap.size ≤ _; simp))); have HO6 := Lib.hid (own_mono ho6 (B' := wr.heap.size) (by show wr.heap.size ≤ _; simp)); obtain ⟨a6, c6, hv6⟩ := own_len ho6; subst hv6; have n6 := (HNr.out.below HB6.out).cell2; have f6 := (HNr.out.below HB6.out).froz 2; clear hb6 ho6))
      go_ret
      have hlen : (s1.log.take (commonL s1.log t.log) ++ (t.log.drop (commonL s1.log t.log)).take (s1.upto t most - commonL s1.log t.log)).length = hi := by rw [HKE.out, ← HI.out, List.length_append, List.length_take, List.length_take, List.length_drop]; omega
      have hcel : enCells (s1.log.take (commonL s1.log t.log) ++ (t.log.drop (commonL s1.log t.log)).take (s1.upto t most - commonL s1.log t.log)) = enCells (s1.log.take k) ++ enCells ((t.log.drop k).take (hi - k)) := by rw [HKE.out, ← HI.out, enCells_append]
      rw [← HS1.out]
      refine ⟨?_, ?_⟩
      · show _ = Ending.returned (.int .i64 ((s1.upto t most - commonL s1.log t.log : Nat) : Int)); rw [HKE.out, ← HI.out]; rfl
      · obtain ⟨L5, h5, m5⟩ := NodeTo.from_below (NodeAt.taken HNr.out HB6.out (.slice a6 hi c6) (s1.log.take (commonL s1.log t.log) ++ (t.log.drop (commonL s1.log t.log)).take (s1.upto t most - commonL s1.log t.log)) (by rw [hlen, hcel]; exact HO6.out) (fine_taken HNr.out.fine HDr.out.fine most)) HBW.out; exact ⟨L5, h5, HM1.out.trans m5 fun i hi => (HN0.out.fp_obj hi).1⟩

end Go.Proofs.YtpaioaljopjpkaaGreatDoor
