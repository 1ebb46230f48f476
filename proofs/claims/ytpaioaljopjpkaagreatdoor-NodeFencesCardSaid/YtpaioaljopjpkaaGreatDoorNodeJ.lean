/- A node's Run: what is read, and Run whole. Conditions: a node as it is laid; the world's first cell a number, and none of the node's. -/
import Derived.Test.YtpaioaljopjpkaaGreatDoorNodeI
import Derived.Deep.RegionHeld3
set_option linter.unusedVariables false
set_option linter.unusedSimpArgs false
namespace Go.Proofs.YtpaioaljopjpkaaGreatDoor
open Go.RowKit

theorem NodeS.Fine.texts_short {s : NodeS} (h : s.Fine) (n : Int) : (s.texts n).length ≤ 200 ∧ ∀ t ∈ s.texts n, t.length ≤ 200 := by
  unfold NodeS.texts
  cases s.find n with
  | none => exact ⟨by simp, fun t h => by cases h⟩
  | some i =>
    dsimp only
    cases hp : s.opn[i]? with
    | none => exact ⟨by simp, fun t h => (by cases h)⟩
    | some p => exact h.opn p (List.mem_of_getElem? hp)
theorem texts_look {w : World} {c : Nat} {L : NodeL} {s : NodeS} (h : NodeAt w c L s) (n : Int) :
    ∃ v, (∀ w', EntsAt w' L.mb L.ops → (Instr.lookup 114 (.map (some L.mb)) (.int .i64 n) false).run Tryz.prog w' = .ok v w') ∧ StrRow w v (s.texts n) ∧ ∃ a cp, v = .slice a (s.texts n).length cp := by
  unfold NodeS.texts
  cases hf : s.find n with
  | none =>
    refine ⟨.slice none 0 0, fun w' he => ?_, ⟨none, 0, rfl, by simp, by decide, fun h => absurd h (by simp)⟩, none, 0, rfl⟩
    have := ents_look_no he (h.find_no hf) false
    simpa using this
  | some i =>
    obtain ⟨v, l, hx, hp, hv⟩ := h.find_at hf
    simp only [hp]
    refine ⟨v, fun w' he => ?_, own_rowAt hv, ?_⟩
    · have := ents_look he h.knd hx false
      simpa using this
    · obtain ⟨a, cp, e, _⟩ := own_len2 hv
      exact ⟨a, cp, e⟩
theorem NodeAt.write {w1 : World} {c : Nat} {L1 : NodeL} {s : NodeS} (h1 : NodeAt w1 c L1 s) {b : Nat} (i : Nat) (v : Value) {cur : Array Value} {T : TypeId} {fz : Nat × Nat} (hb : w1.heap[b]? = some (.cells cur T fz)) (hT : T ≠ 116 ∧ T ≠ 132 ∧ T ≠ 73 ∧ T ≠ 9) (hT3 : T ≠ 3) :
    NodeAt (w1.setCell ⟨b, i, none⟩ v) c L1 s := by
  refine h1.stay (fun k hk' => Below.heap_setCell _ _ _ _ fun e => h1.far hb hT ?_) fun k ⟨n, hk'⟩ => Below.heap_setCell _ _ _ _ fun e => ?_
  · have e : k = b := e
    rw [← e]; exact hk'
  · have e : k = b := e
    subst e
    exact obj_ne hb hk' (cells_ne hT3) rfl
theorem NodeTo.cell0 {w w' : World} {c : Nat} {L : NodeL} {s s' : NodeS} (ht : NodeTo w c L s' w') (h : NodeAt w c L s) (h0 : ¬ L.fp c 0) (hl : 0 < w.heap.size) : w'.cell? ⟨0, 0, none⟩ = w.cell? ⟨0, 0, none⟩ := by
  obtain ⟨L', _, hk, _⟩ := ht
  exact hk.cell (p := ⟨0, 0, none⟩) hl h0

set_option maxRecDepth 100000 in
set_option maxHeartbeats 4000000 in
theorem run_read (w : World) (c : Nat) (L : NodeL) (s : NodeS) (h : NodeAt w c L s) (m : Int) (hm : w.cell? ⟨0, 0, none⟩ = some (.int .i64 m)) (h00 : ¬ L.fp c 0) (n : Int) (epoch : Nat) (reads : Bool) (t : Sg.B) (ht : t.length ≤ maxLen) (he : s.may epoch reads (clsL t) = 0) (hk1 : clsL t = 1) :
    Calls Tryz.prog 17 #[.pointer (some ⟨c, 0, none⟩), .int .i64 n, .int .u64 (epoch : Int), .bool reads, .string (ba t)] w (RunPost w c L ⟨s, 0, readsL (planL t) (behindL s.table (s.texts n))⟩) := by
  have h0 : (0 : Nat) < w.heap.size := World.block_lt_of_cell? w ⟨0, 0, none⟩ hm
  have hb : Below w.heap.size w (w.alloc (.cells #[.int .i64 0, .int .u64 0, .int .u64 0, .slice none 0 0] 32)) := (Below.refl _ _).alloc (Nat.le_refl _) _
  have h1 := h.below hb
  have c4 := h1.cell4
  have HC := Lib.hid (class_calls L.cl L.mo (ba t) m _ h1.hcls (by rw [ba_size]; exact ht) ((hb.cell (p := ⟨0, 0, none⟩) h0).trans hm))
  rw [ba_data] at HC
  have hl200 := clsL_long (may_cls he)
  have HE := Lib.hid he
  have H1 := Lib.hid h1
  have HB := Lib.hid hb
  have k1 : (clsL t == 1) = true := by simpa using hk1
  have HK1 := Lib.hid hk1
  have HN0 := Lib.hid h
  have mixed : Tryz.prog.follows Departure.mixedOrders = true := by kernel_rfl
  clear h h1 hb he hk1
  go_enter Tryz.func17, Tryz.ntmps17
  go_wp2_with (first | (go_at_call 18; refine HC.out.mono ?_; intro e w1 hp; obtain ⟨rfl, hto⟩ := H1.out.reclass hp; have q10 := hto.far H1.out (heap_alloc_new w _) (by decide); obtain ⟨L1, hN1, hM1⟩ := hto; have hM := Lib.hid (show Moves w c L L1 w1 from ⟨(Keeps.of_new HB.out _).trans hM1.1, fun k hk => (hM1.2 k hk).imp id fun e => Nat.le_trans HB.out.size e⟩); have HM := Lib.hid (may_calls _ c L1 s (hN1.alloc (.cells #[.int .i64 0, .int .u64 0, .int .u64 0, .slice none 0 0] 32)) epoch reads (clsL t)); rw [HE.out] at HM; have HN1 := Lib.hid hN1; have Q10 := Lib.hid q10; clear hp hN1 hM1 q10) | (go_at_call 56; refine HM.out.mono ?_; rintro e w2 ⟨rfl, rfl⟩) | (go_at_call 57; refine (ways_calls _).mono ?_; rintro e w3 ⟨mb, rfl, hen, hbw⟩; have hlk := ways_no (n := clsL t) hen (by rw [HK1.out]; decide); have HBW := Lib.hid hbw; have HN3 := Lib.hid ((HN1.out.alloc _).below hbw); have u12 := (hbw.block _ (heap_lt (heap_alloc_new w1 (.cells #[.int .i64 0, .int .u64 0, .int .u64 0, .slice none 0 0] 32)))).trans (heap_alloc_new w1 (.cells #[.int .i64 0, .int .u64 0, .int .u64 0, .slice none 0 0] 32)); have u10 := (hbw.block _ (heap_lt (heap_old (o := .cells #[.int .i64 0, .int .u64 0, .int .u64 0, .slice none 0 0] 32) Q10.out))).trans (heap_old (o := .cells #[.int .i64 0, .int .u64 0, .int .u64 0, .slice none 0 0] 32) Q10.out); have U12 := Lib.hid u12; have U10 := Lib.hid u10; clear hen hbw u12 u10))
  have hw1 : w.heap.size ≤ w1.heap.size := hM.out.1.size
  have hlt := heap_lt Q10.out
  have HTO3 : Hid (NodeTo w c L s w3) := ⟨L1, HN3.out, (hM.out.below ((Below.refl _ _).alloc (Nat.le_refl _) _)).below HBW.out⟩
  obtain ⟨tv, htl, htr, ⟨ta, tcp, htf⟩⟩ := texts_look HN3.out n
  have HTL := Lib.hid htl
  have HTR := Lib.hid htr
  have HTF := Lib.hid htf
  have hm3 : w3.cell? ⟨0, 0, none⟩ = some (.int .i64 m) := (HTO3.out.cell0 HN0.out h00 (World.block_lt_of_cell? w ⟨0, 0, none⟩ hm)).trans hm
  have HM3 := Lib.hid hm3
  have h03 : 0 < w3.heap.size := World.block_lt_of_cell? w3 ⟨0, 0, none⟩ hm3
  have c3 := HN3.out.cell3
  have hlk0 := htl w3.drew HN3.out.drew.hmap
  have HP := Lib.hid (plan_calls (ba t) m w3.drew (by rw [ba_size]; exact ht) hm3)
  rw [ba_data] at HP
  have hc32 : w1.heap.size < w3.heap.size := heap_lt U12.out
  have hc31 : w.heap.size < w3.heap.size := heap_lt U10.out
  have hsl := HN3.out.fine
  have hts : (s.texts n).length ≤ 200 ∧ ∀ t ∈ s.texts n, t.length ≤ 200 := hsl.texts_short n
  have htb := s.table_len
  have hsl1 := hsl.log
  subst htf
  obtain ⟨p, hp⟩ : ∃ p, p = planL t := ⟨_, rfl⟩
  rw [← hp] at HP
  have HPE := Lib.hid hp
  clear hlk hm3 htl htr hsl hp
  generalize hb12 : w1.heap.size = b12 at *
  clear hb12
  go_region_held3 (fun w'' => w''.cell? ⟨c, 3, none⟩ = some (.map (some L1.mb)) ∧ (Instr.lookup 114 (.map (some L1.mb)) (.int .i64 n) false).run Tryz.prog w'' = .ok (.slice ta (s.texts n).length tcp) w'')
    (first | exact ⟨cA, lA⟩ | exact ⟨cB, lB⟩ | exact ⟨cC, lC⟩ | exact ⟨cD, lD⟩ | exact ⟨cE, lE⟩ | exact ⟨c3, hlk0⟩ | go_keep)
    ((first
      | (go_at_call 59; refine HP.out.mono ?_; rintro e wA ⟨rfl, hbA⟩; have nA := HN3.out.drew.below hbA; have cA := nA.cell3; have lA := HTL.out wA nA.hmap; have HA := Lib.hid hbA; have NA := Lib.hid nA; have mA := (hbA.cell (p := ⟨0, 0, none⟩) h03).trans HM3.out; have HTAB := Lib.hid (table_calls wA c L1 s nA m mA); have MA := Lib.hid mA; clear nA hbA mA)
      | (go_at_call 31; refine HTAB.out.mono ?_; rintro e wB ⟨vB, rfl, oB, hbB⟩; have nB := NA.out.below hbB; have cB := nB.cell3; have lB := HTL.out wB nB.hmap; have HB2 := Lib.hid hbB; have NB := Lib.hid nB; have mB := (hbB.cell (p := ⟨0, 0, none⟩) (by have := HA.out.size; show 0 < wA.heap.size; exact Nat.lt_of_lt_of_le h03 this)).trans MA.out; have HBEH := Lib.hid (behind_calls wA.heap.size vB _ s.table (s.texts n) m wB oB s.table_sort hbB.size ((HTR.out.below (Below.refl _ _).drew (Nat.le_refl _) |>.below HA.out (Nat.le_refl _)).below hbB (Nat.le_refl _)) mB (by omega) hts.2); clear nB hbB mB oB)
      | (go_at_call 60; refine HBEH.out.mono ?_; rintro e wC ⟨vC, rfl, oC, hbC⟩; have nC := NB.out.below hbC; have cC := nC.cell3; have lC := HTL.out wC nC.hmap; have HC2 := Lib.hid hbC; have NC := Lib.hid nC; have HRD := Lib.hid (reads_calls p vC _ wC (own_rowAt oC) (behindL_sort (s.texts n) _ s.table_sort) (by have := behindL_len (s.texts n) s.table; omega)); clear nC hbC oC)
      | (go_at_call 58; refine HRD.out.mono ?_; rintro e wD ⟨vD, rfl, rD, -, newD, hbD⟩; have nD := NC.out.below hbD; have cD := nD.cell3; have lD := HTL.out wD nD.hmap; have HD2 := Lib.hid hbD; have ND := Lib.hid nD; have RD := Lib.hid rD; have NEWD := Lib.hid newD; obtain ⟨xD, kD, hvD, _⟩ := id rD; subst hvD; have HBD := Lib.hid ((((Below.refl w3.heap.size w3).drew.trans HA.out).trans (HB2.out.mono HA.out.size)).trans (HC2.out.mono (Nat.le_trans HA.out.size HB2.out.size)) |>.trans (hbD.mono (Nat.le_trans HA.out.size (Nat.le_trans HB2.out.size HC2.out.size)))); have d12 := (HBD.out.block _ hc32).trans U12.out; have z3 : wD.cell? ⟨b12, 3, none⟩ = some (.slice none 0 0) := (by simp [World.cell?, d12]); have zf3 : wD.frozen? ⟨b12, 3, none⟩ = false := (by simp [World.frozen?, d12]); have D12 := Lib.hid d12; have nE := nD.write 3 (.slice xD (readsL p (behindL s.table (s.texts n))).length kD) d12 (by decide) (by decide); have cE := nE.cell3; have lE := HTL.out _ nE.hmap; have NE := Lib.hid nE; clear nE nD hbD rD newD d12)))
  all_goals
    have hsz := Nat.le_trans HA.out.size (Nat.le_trans HB2.out.size HC2.out.size)
    have hsz : w3.heap.size ≤ wC.heap.size := hsz
    have r12 : (wD.setCell ⟨b12, 3, none⟩ (.slice xD (readsL p (behindL s.table (s.texts n))).length kD)).heap[b12]? = some (.cells #[.int .i64 0, .int .u64 0, .int .u64 0, .slice xD (readsL p (behindL s.table (s.texts n))).length kD] 32 (0, 0)) := setCell_row wD b12 3 _ _ _ _ D12.out
    have r10 := (Below.heap_setCell wD ⟨b12, 3, none⟩ (.slice xD (readsL p (behindL s.table (s.texts n))).length kD) w.heap.size (fun e => by simp only at e; omega)).trans ((HBD.out.block _ hc31).trans U10.out)
    have hto := (HTO3.out.then_below HBD.out).write 3 (.slice xD (readsL p (behindL s.table (s.texts n))).length kD) D12.out (by decide) (by decide) hw1
    have HNW : Hid (∀ k, (Value.ownBlock (.slice xD (readsL p (behindL s.table (s.texts n))).length kD)) = some k → w.heap.size ≤ k ∧ k ≠ b12 ∧ k ≠ w.heap.size) := fun k e => by have := NEWD.out k e; omega
    have HTVW : Hid (NodeTv w c L s (wD.setCell ⟨b12, 3, none⟩ (.slice xD (readsL p (behindL s.table (s.texts n))).length kD)) (.slice xD (readsL p (behindL s.table (s.texts n))).length kD)) := ⟨L1, NE.out, ⟨((hM.out.below ((Below.refl _ _).alloc (Nat.le_refl _) _)).below HBW.out).below HBD.out |>.1.setCell (.inl hw1) _, hM.out.2⟩, fun k e => ⟨fun hf => by have := (HN3.out.fp_obj hf).1; have := NEWD.out k e; omega, by have := (NEWD.out k e).2; simpa [World.setCell] using this⟩⟩
    have HS : Hid (StrRow (wD.setCell ⟨b12, 3, none⟩ (.slice xD (readsL p (behindL s.table (s.texts n))).length kD)) (.slice xD (readsL p (behindL s.table (s.texts n))).length kD) (readsL p (behindL s.table (s.texts n)))) := StrRow.move RD.out fun g off n2 cp e hl => Below.heap_setCell _ _ _ _ (fun e2 => by have e2 : g = b12 := e2; exact (HNW.out g (by rw [e]; rfl)).2.1 e2)
    generalize wD.setCell ⟨b12, 3, none⟩ (.slice xD (readsL p (behindL s.table (s.texts n))).length kD) = w2 at *
    clear Q10 HN1 hM HC H1 HB HM HBW HN3 U12 U10 c3 hlk0 cA lA cB lB cC lC cD lD cE lE HA NA HTAB MA HB2 NB HBEH HC2 NC HRD HD2 ND RD NEWD HBD D12 NE HTL HTR HP HM3 z3 zf3 k1 c4 hts
    have HT := Lib.hid hto
    obtain ⟨L2, hN2, -⟩ := hto
    have n0 := hN2.cell0
    have n2 := hN2.cell2
    obtain ⟨al, cl, hlv, hcl1, hcl2⟩ := own_len2 hN2.hlog
    rw [hlv] at n2
    have hc12 : c ≠ b12 := obj_ne hN2.hc r12 (cells_ne (by decide))
    have hc10 : c ≠ w.heap.size := obj_ne hN2.hc r10 (cells_ne (by decide))
    have hfl := hN2.fine.log
    have hb1 : w.heap.size ≠ b12 := by omega
    have hb2 : b12 ≠ w.heap.size := by omega
    have a0 : w2.cell? ⟨b12, 0, none⟩ = some (.int .i64 0) := by simp [World.cell?, r12]
    have a1 : w2.cell? ⟨b12, 1, none⟩ = some (.int .u64 0) := by simp [World.cell?, r12]
    have a2 : w2.cell? ⟨b12, 2, none⟩ = some (.int .u64 0) := by simp [World.cell?, r12]
    have a3 : w2.cell? ⟨b12, 3, none⟩ = some (.slice xD (readsL p (behindL s.table (s.texts n))).length kD) := by simp [World.cell?, r12]
    have f1 : w2.frozen? ⟨b12, 1, none⟩ = false := by simp [World.frozen?, r12]
    have f2 : w2.frozen? ⟨b12, 2, none⟩ = false := by simp [World.frozen?, r12]
    have d0 : w2.cell? ⟨w.heap.size, 0, none⟩ = some (.int .i64 0) := by simp [World.cell?, r10]
    have d1 : w2.cell? ⟨w.heap.size, 1, none⟩ = some (.int .u64 0) := by simp [World.cell?, r10]
    have d2 : w2.cell? ⟨w.heap.size, 2, none⟩ = some (.int .u64 0) := by simp [World.cell?, r10]
    have d3 : w2.cell? ⟨w.heap.size, 3, none⟩ = some (.slice none 0 0) := by simp [World.cell?, r10]
    have g0 : w2.frozen? ⟨w.heap.size, 0, none⟩ = false := by simp [World.frozen?, r10]
    have g1 : w2.frozen? ⟨w.heap.size, 1, none⟩ = false := by simp [World.frozen?, r10]
    have g2 : w2.frozen? ⟨w.heap.size, 2, none⟩ = false := by simp [World.frozen?, r10]
    have g3 : w2.frozen? ⟨w.heap.size, 3, none⟩ = false := by simp [World.frozen?, r10]
    have HR12 := Lib.hid r12
    have HR10 := Lib.hid r10
    clear hN2 r12 r10 hlv
    go_wp2
    go_region
    go_wp2
    rw [← HPE.out]
    exact run_ret (r := ⟨s, 0, readsL p (behindL s.table (s.texts n))⟩) (.slice xD (readsL p (behindL s.table (s.texts n))).length kD) HTVW.out HR12.out HR10.out (by omega) HS.out (fun k e => HNW.out k e) rfl rfl ⟨_, _, _, rfl⟩

/-- Run, whole. -/
theorem nrun_calls (w : World) (c : Nat) (L : NodeL) (s : NodeS) (h : NodeAt w c L s) (m : Int) (hm : w.cell? ⟨0, 0, none⟩ = some (.int .i64 m)) (h00 : ¬ L.fp c 0) (n : Int) (epoch : Nat) (reads : Bool) (t : Sg.B) (ht : t.length ≤ maxLen) :
    Calls Tryz.prog 17 #[.pointer (some ⟨c, 0, none⟩), .int .i64 n, .int .u64 (epoch : Int), .bool reads, .string (ba t)] w (RunPost w c L (s.run n epoch reads t)) := by
  unfold NodeS.run
  by_cases he : s.may epoch reads (clsL t) = 0
  · rw [if_pos he]
    by_cases h1 : clsL t = 1
    · rw [if_pos h1]
      exact run_read w c L s h m hm h00 n epoch reads t ht he h1
    · rw [if_neg h1]
      by_cases hw : ∃ i : Nat, ∃ k : Nat, waysOps[i]? = some (clsL t, fnV k)
      · obtain ⟨i, k, hi⟩ := hw
        exact run_do w c L s h m hm n epoch reads t ht he h1 i k hi
      · have hno : ∀ p ∈ waysOps, p.1 ≠ clsL t := fun p hp e => by
          obtain ⟨i, hi⟩ := List.mem_iff_getElem?.1 hp
          have hk : ∃ k, p.2 = fnV k := by
            simp only [waysOps, List.mem_cons, List.not_mem_nil, or_false] at hp
            rcases hp with rfl | rfl | rfl | rfl | rfl <;> exact ⟨_, rfl⟩
          obtain ⟨k, hk⟩ := hk
          exact hw ⟨i, k, by rw [hi, ← e, ← hk]⟩
        have hd : s.doCls (clsL t) n t = (s, 0) := by
          have h3 := hno (3, fnV 82) (by simp [waysOps])
          have h4 := hno (4, fnV 83) (by simp [waysOps])
          have h5 := hno (5, fnV 84) (by simp [waysOps])
          have h2 := hno (2, fnV 85) (by simp [waysOps])
          have h7 := hno (7, fnV 85) (by simp [waysOps])
          unfold NodeS.doCls
          rw [if_neg (fun e => h3 e.symm), if_neg (fun e => h4 e.symm), if_neg (fun e => h5 e.symm), if_neg (fun e => e.elim (fun e => h2 e.symm) (fun e => h7 e.symm))]
        rw [hd]
        exact run_none w c L s h m hm n epoch reads t ht he h1 hno
  · rw [if_neg he]
    exact run_no w c L s h m hm n epoch reads t ht he
end Go.Proofs.YtpaioaljopjpkaaGreatDoor
