/- A node's lay: texts are appended to its log. Conditions: the texts lie apart from the node's own cells and log. -/
import Derived.Test.YtpaioaljopjpkaaGreatDoorNodeC
import Derived.Deep.RegionHeldLaw
import Derived.StillTailTactics
set_option linter.unusedVariables false
set_option linter.unusedSimpArgs false
namespace Go.Proofs.YtpaioaljopjpkaaGreatDoor
open Go.RowKit

theorem Tryz.info73 : (Tryz.prog.info? 73).map (fun i => (i.zero, i.size, i.bytes)) = some (some (.agg #[.int .u64 0, .string ⟨#[]⟩]), 2, 24) := by kernel_rfl
theorem info73_parts : ∃ i0, Tryz.prog.info? 73 = some i0 ∧ i0.zero = some (.agg #[.int .u64 0, .string ⟨#[]⟩]) ∧ i0.size = 2 ∧ i0.bytes = 24 := by
  obtain ⟨i0, h, h2⟩ := Option.map_eq_some_iff.1 Tryz.info73
  simp only [Prod.mk.injEq] at h2
  exact ⟨i0, h, h2⟩

theorem NodeAt.relog {w w1 w2 : World} {c : Nat} {L : NodeL} {s : NodeS} (h : NodeAt w c L s) (hb : Below w.heap.size w w1) (g n cap : Nat) (log : List En)
    (hown : w2.ownsRow 0 73 2 (.slice (some ⟨g, 0, none⟩) n cap) log.length (enCells log)) (hgrow : w1.grownBy w2 L.lv.ownBlock) (hat : L.lv.ownBlock = some g ∨ g = w1.heap.size) (hf : NodeS.Fine ⟨s.epoch, s.leads, log, s.opn⟩) :
    NodeAt (w2.setCell ⟨c, 2, none⟩ (.slice (some ⟨g, 0, none⟩) n cap)) c { L with lv := .slice (some ⟨g, 0, none⟩) n cap } ⟨s.epoch, s.leads, log, s.opn⟩ ∧ Moves w c L { L with lv := .slice (some ⟨g, 0, none⟩) n cap } (w2.setCell ⟨c, 2, none⟩ (.slice (some ⟨g, 0, none⟩) n cap)) := by
  have h1 := h.below hb
  have hl1 := h1.hlog
  have old : ∀ k, k < w1.heap.size → L.lv.ownBlock ≠ some k → w2.heap[k]? = w1.heap[k]? := fun k hk hn => hgrow.block k hk (fun e => hn e.symm)
  have nc : L.lv.ownBlock ≠ some c := h1.not_c hl1 (by decide)
  have hc2 := (old c h1.lt nc).trans h1.hc
  obtain ⟨f1, f2, f3, f4⟩ := h1.c_far
  have boxes : ∀ k, isBox w1 k → w2.heap[k]? = w1.heap[k]? := fun k ⟨n, hk⟩ => old k (heap_lt hk) fun e => by
    obtain ⟨cur, ho⟩ := own_obj hl1 e
    exact obj_ne ho hk (cells_ne (by decide)) rfl
  have cls2 : ClsAt w2 L.cl L.mo := by
    refine h1.hcls.keep ?_ ?_ fun b n hbn => boxes b ⟨n, hbn⟩
    · obtain ⟨cur, ho⟩ := h1.cl_obj
      refine old _ (heap_lt ho) fun e => ?_
      obtain ⟨cur', ho'⟩ := own_obj hl1 e
      exact obj_ne ho' ho (cells_ne (by decide)) rfl
    · intro mb hm
      obtain ⟨es, ck, ho⟩ := h1.mo_obj hm
      refine old _ (heap_lt ho) fun e => ?_
      obtain ⟨cur', ho'⟩ := own_obj hl1 e
      exact obj_ne ho' ho cells_map rfl
  have nbox : ¬ isBox w2 c := fun ⟨n, hk⟩ => obj_ne hc2 hk (cells_ne (by decide)) rfl
  have own2 : ∀ {v : Value} {n : Nat} {xs : List Value}, w1.ownsRow 0 9 1 v n xs → w2.ownsRow 0 9 1 v n xs := fun {v n xs} ho => by
    refine own_by ho fun k hk => ?_
    obtain ⟨cur, ho1⟩ := own_obj ho hk
    refine old k (heap_lt ho1) fun e => ?_
    obtain ⟨cur', ho2⟩ := own_obj hl1 e
    exact obj_ne ho1 ho2 (cells_ne (by decide)) rfl
  have notc : ∀ {e : TypeId} {size : Nat} {v : Value} {n : Nat} {xs : List Value}, w2.ownsRow 0 e size v n xs → e ≠ 116 → v.ownBlock ≠ some c := fun ho he e1 => by
    obtain ⟨cur, ho1⟩ := own_obj ho e1
    exact obj_ne ho1 hc2 (cells_ne he) rfl
  rw [setCell_put hc2]
  refine ⟨⟨putObj_same _ _ _ (heap_lt hc2), own_put hown _ (notc hown (by decide)), ?_, h1.hops, fun i x p hx hp => ⟨(h1.hop i x p hx hp).1, own_put (own2 (h1.hop i x p hx hp).2) _ (notc (own2 (h1.hop i x p hx hp).2) (by decide))⟩, h1.hdis, cls_put cls2 _ f2 f3 nbox, h1.hmm, hf⟩, ?_, ?_⟩
  · obtain ⟨es, ck, h3, h4⟩ := h1.hmap
    refine ⟨es, ck, (putObj_other _ _ _ _ f1).trans ((old _ (heap_lt h3) fun e => ?_).trans h3), h4⟩
    obtain ⟨cur', ho'⟩ := own_obj hl1 e
    exact obj_ne ho' h3 cells_map rfl
  · refine keeps_put ?_ (.inl rfl) _
    exact (Keeps.of_new hb (L.fp c)).grown hgrow fun k e => .inr (.inr (.inr (.inr (.inr (.inl e)))))
  · intro k hk
    rcases hk with hk | hk | hk | hk | hk | hk
    · exact .inl (.inl hk)
    · exact .inl (.inr (.inl hk))
    · exact .inl (.inr (.inr (.inl hk)))
    · exact .inl (.inr (.inr (.inr (.inl hk))))
    · have hk : some g = some k := hk
      cases hk
      rcases hat with e | e
      · exact .inl (.inr (.inr (.inr (.inr (.inl e)))))
      · exact .inr (by rw [e]; exact hb.size)
    · exact .inl (.inr (.inr (.inr (.inr (.inr hk)))))

def NodeS.lay (s : NodeS) (ts : List Sg.B) : NodeS × Int :=
  if s.log.length + ts.length > 200 then (s, 5) else (⟨s.epoch, s.leads, s.log ++ ts.map (s.epoch, ·), s.opn⟩, 0)
/-- the value's block is not the node's own, nor its log's. -/
def FarV (c : Nat) (L : NodeL) (v : Value) : Prop := ∀ g off n cp, v = .slice (some ⟨g, off, none⟩) n cp → g ≠ c ∧ L.lv.ownBlock ≠ some g
theorem FarV.of_own {w : World} {c : Nat} {L : NodeL} {s : NodeS} (h : NodeAt w c L s) {v : Value} {n : Nat} {xs : List Value} (ho : w.ownsRow 0 9 1 v n xs) : FarV c L v := fun g off n cp e => by
  subst e
  obtain ⟨cur, h1⟩ := own_obj ho (k := g) rfl
  refine ⟨obj_ne h1 h.hc (cells_ne (by decide)), fun e => ?_⟩
  obtain ⟨cur', h2⟩ := own_obj h.hlog e
  exact obj_ne h1 h2 (cells_ne (by decide)) rfl
theorem StrRow.move {w w' : World} {v : Value} {l : List Sg.B} (h : StrRow w v l) (hk : ∀ g off n cp, v = .slice (some ⟨g, off, none⟩) n cp → g < w.heap.size → w'.heap[g]? = w.heap[g]?) : StrRow w' v l := by
  obtain ⟨a, c, rfl, h1, h2, h3⟩ := h
  refine ⟨a, c, rfl, h1, h2, fun h0 => ?_⟩
  obtain ⟨g, off, cur, T, fz, rfl, hg, hc⟩ := h3 h0
  exact ⟨g, off, cur, T, fz, rfl, (hk g off _ c rfl (heap_lt hg)).trans hg, hc⟩
theorem en_one {e : Nat} {x : ByteArray} : ∀ u ∈ [Value.int .u64 (e : Int), .string x], u.oneCell' = true := fun u hu => by
  rcases List.mem_cons.1 hu with rfl | hu
  · rfl
  · rw [List.mem_singleton.1 hu]; rfl
theorem NodeS.Fine.more {s : NodeS} (h : s.Fine) (ts : List Sg.B) (hl : s.log.length + ts.length ≤ 200) (ht : ∀ t ∈ ts, t.length ≤ 200) : NodeS.Fine ⟨s.epoch, s.leads, s.log ++ ts.map (s.epoch, ·), s.opn⟩ := by
  refine ⟨h.epoch, by simp; omega, fun e he => ?_, h.opn, h.nd⟩
  rcases List.mem_append.1 he with he | he
  · exact h.texts e he
  · obtain ⟨t, h1, rfl⟩ := List.mem_map.1 he
    exact ⟨ht t h1, h.epoch⟩

theorem lay_step {wr w5 : World} {c : Nat} {L' : NodeL} {s : NodeS} {ts : List Sg.B} {k g5 cap5 : Nat} {t : Sg.B}
    (HN : NodeAt wr c L' ⟨s.epoch, s.leads, s.log ++ (ts.take k).map (s.epoch, ·), s.opn⟩) (htk : ts[k]? = some t) (hlk : (s.log ++ (ts.take k).map (s.epoch, ·)).length = s.log.length + k) (ht : t.length ≤ 200) (hl : s.log.length + k + 1 ≤ 200)
    (hown : w5.ownsRow 0 73 2 (.slice (some ⟨g5, 0, none⟩) (s.log.length + k + 1) cap5) (s.log.length + k + 1) (enCells (s.log ++ (ts.take k).map (s.epoch, ·)) ++ [.int .u64 (s.epoch : Int), .string (ba t)]))
    (hgrow : (wr.alloc (.cells #[.int .u64 (s.epoch : Int), .string (ba t)] 73)).drew.grownBy w5 L'.lv.ownBlock)
    (hat : L'.lv.ownBlock = some g5 ∨ g5 = (wr.alloc (.cells #[.int .u64 (s.epoch : Int), .string (ba t)] 73)).drew.heap.size) :
    NodeAt (w5.setCell ⟨c, 2, none⟩ (.slice (some ⟨g5, 0, none⟩) (s.log.length + k + 1) cap5)) c { L' with lv := .slice (some ⟨g5, 0, none⟩) (s.log.length + k + 1) cap5 } ⟨s.epoch, s.leads, s.log ++ (ts.take (k + 1)).map (s.epoch, ·), s.opn⟩ ∧
      Moves wr c L' { L' with lv := .slice (some ⟨g5, 0, none⟩) (s.log.length + k + 1) cap5 } (w5.setCell ⟨c, 2, none⟩ (.slice (some ⟨g5, 0, none⟩) (s.log.length + k + 1) cap5)) := by
  have e1 : s.log ++ (ts.take (k + 1)).map (s.epoch, ·) = s.log ++ (ts.take k).map (s.epoch, ·) ++ [(s.epoch, t)] := by
    rw [List.take_add_one, htk]; simp
  have e2 : (s.log ++ (ts.take (k + 1)).map (s.epoch, ·)).length = s.log.length + k + 1 := by rw [e1, List.length_append, hlk]; rfl
  refine HN.relog (((Below.refl _ _).alloc (Nat.le_refl _) _).drew) g5 _ cap5 (s.log ++ (ts.take (k + 1)).map (s.epoch, ·)) ?_ hgrow hat ?_
  · rw [e2, e1, enCells_append]; exact hown
  · have h := HN.fine.more [t] (by rw [hlk]; simp; omega) (fun t' h' => by rw [List.mem_singleton.1 h']; exact ht)
    rw [e1]; exact h

set_option maxRecDepth 100000 in
set_option maxHeartbeats 4000000 in
theorem lay_calls (w : World) (c : Nat) (L : NodeL) (s : NodeS) (h : NodeAt w c L s) (v : Value) (ts : List Sg.B) (hv : StrRow w v ts) (hfar : FarV c L v) (ht : ∀ t ∈ ts, t.length ≤ 200) (hlen : ts.length ≤ 200) :
    Calls Tryz.prog 107 #[.pointer (some ⟨c, 0, none⟩), v] w fun r w' => r = .returned (.int .i64 (s.lay ts).2) ∧ NodeTo w c L (s.lay ts).1 w' := by
  have c2 := h.cell2
  obtain ⟨al, cl, hlv, hcl1, hcl2⟩ := own_len2 h.hlog
  rw [hlv] at c2
  obtain ⟨av, cv, hve, hvn, hvm, _⟩ := id hv
  have hfl := h.fine.log
  unfold NodeS.lay
  by_cases hgt : s.log.length + ts.length > 200
  · rw [if_pos hgt]
    have hgt' : (200 : Int) < (s.log.length : Int) + (ts.length : Int) := by omega
    have HS := Lib.hid (NodeTo.same h)
    subst hve
    clear h hv hfar hlv hgt
    go_enter Tryz.func107, Tryz.ntmps107
    go_wp2
    go_ret
    exact ⟨rfl, HS.out⟩
  · rw [if_neg hgt]
    have hgt' : ¬ ((200 : Int) < (s.log.length : Int) + (ts.length : Int)) := by omega
    have H0 := Lib.hid h
    have HV := Lib.hid hv
    have HF := Lib.hid hfar
    have HT := Lib.hid ht
    have mixed : Tryz.prog.follows Departure.mixedOrders = true := by kernel_rfl
    obtain ⟨i0, hinfo, hz0, hz1, hz2⟩ := info73_parts
    have HE := Lib.hid hve
    rw [hve]
    clear h hv hfar hlv ht hve
    go_enter Tryz.func107, Tryz.ntmps107
    go_wp2
    go_loopg [18] ts.length (fun n vi wr => ∃ (k : Nat) (L' : NodeL), n + k = ts.length ∧ vi = .int .i64 k ∧ NodeAt wr c L' ⟨s.epoch, s.leads, s.log ++ (ts.take k).map (s.epoch, ·), s.opn⟩ ∧ Moves w c L L' wr ∧ StrRow wr v ts ∧ FarV c L' v)
    case atStart => exact ⟨0, L, by omega, rfl, by simpa using H0.out, Moves.refl _ _ _, HV.out, HF.out⟩
    case round =>
      obtain ⟨k, L', hk, rfl, hN, hM, hR, hF⟩ := hrel
      by_cases hlt : k < ts.length
      · obtain ⟨t, htk⟩ : ∃ t, ts[k]? = some t := ⟨ts[k], List.getElem?_eq_getElem hlt⟩
        obtain ⟨g, off, cp, hve2, hc1, hc2, hg1, hcell⟩ := hR.cell (by omega)
        have q0 := hcell k t htk
        have hvv := HE.out.symm.trans hve2
        cases hvv
        have c0 := hN.cell0
        have c2' := hN.cell2
        have f2 := hN.froz 2
        have HN := Lib.hid hN
        have HM := Lib.hid hM
        have HR := Lib.hid hR
        have HF' := Lib.hid hF
        have HTK := Lib.hid htk
        unfold maxLen at hvm
        have hlk : (s.log ++ (ts.take k).map (s.epoch, ·)).length = s.log.length + k := by simp; omega
        have HLK := Lib.hid hlk
        clear hN hM hR hF hcell htk hlk hc1 hc2 hve2
        have HO : Hid (wr.ownsRow 0 73 2 L'.lv (s.log.length + k) (enCells (s.log ++ (ts.take k).map (s.epoch, ·)))) := by have := HN.out.hlog; rw [← HLK.out]; exact this
        have hne0 : some c ≠ L'.lv.ownBlock := fun e => HN.out.not_c HN.out.hlog (by decide) e.symm
        have hclt := HN.out.lt
        go_wp2
        go_region_law ((refine step_append_lies _ (by rfl) _ _ 43 (by rfl) 0 73 i0 _ 2 24 Tryz.underlying43 hinfo hz0 hz1 hz2 rfl (by decide) L'.lv _ _ (by rfl) (by exact HO.out.alloc _) _ 1 1 [.int .u64 (s.epoch : Int), .string (ba t)] (by rfl) rfl (by exact new_cells wr [.int .u64 (s.epoch : Int), .string (ba t)] 73) en_one (by decide) (by unfold maxLen; omega) (by omega) (Nat.zero_le _) _ rfl ?_; intro g5 cap5 w5 hown5 hgrow5 hat5 hlt5; have hq2 := (hgrow5.cell_far ⟨c, 2, none⟩ (by simp; omega) hne0).trans (show ((wr.alloc (.cells #[.int .u64 (s.epoch : Int), .string (ba t)] 73)).drew.cell? ⟨c, 2, none⟩ = some L'.lv) by simp [*, World.cell?_alloc_some]); have hq0 := (hgrow5.cell_far ⟨c, 0, none⟩ (by simp; omega) hne0).trans (show ((wr.alloc (.cells #[.int .u64 (s.epoch : Int), .string (ba t)] 73)).drew.cell? ⟨c, 0, none⟩ = some (.int .u64 (s.epoch : Int))) by simp [*, World.cell?_alloc_some]); have hf2 := (hgrow5.frozen_far ⟨c, 2, none⟩ (by simp; omega) hne0).trans (show ((wr.alloc (.cells #[.int .u64 (s.epoch : Int), .string (ba t)] 73)).drew.frozen? ⟨c, 2, none⟩ = false) by go_simp)))
        all_goals
          have HX := Lib.hid (lay_step (s := s) HN.out HTK.out HLK.out (HT.out t (List.mem_of_getElem? HTK.out)) (by omega) hown5 hgrow5 hat5)
          have HR2 := Lib.hid (HR.out.move (w' := w5.setCell ⟨c, 2, none⟩ (.slice (some ⟨g5, 0, none⟩) (s.log.length + k + 1) cap5)) fun g off n cp e hl => by
            obtain ⟨h1, h2⟩ := HF'.out g off n cp e
            rw [Below.heap_setCell _ _ _ _ (fun e => h1 e)]
            rw [hgrow5.block g (by show g < (wr.alloc _).heap.size; simp; omega) (fun e => h2 e.symm)]
            exact Below.heap_alloc _ _ _ hl)
          have HF2 : Hid (FarV c { L' with lv := .slice (some ⟨g5, 0, none⟩) (s.log.length + k + 1) cap5 } v) := fun g off n cp e => by
            obtain ⟨h1, h2⟩ := HF'.out g off n cp e
            refine ⟨h1, fun e2 => ?_⟩
            have e2 : some g5 = some g := e2
            cases e2
            rcases hat5 with h3 | h3
            · exact h2 h3
            · obtain ⟨g', off', cp', e', _, _, hl, _⟩ := HR.out.cell (by omega)
              rw [e'] at e
              cases e
              have : (wr.alloc (.cells #[.int .u64 (s.epoch : Int), .string (ba t)] 73)).drew.heap.size = wr.heap.size + 1 := by show (wr.alloc _).heap.size = _; simp
              omega
          clear hown5 hgrow5 hat5 hlt5 hq2 hq0 hf2
          go_wp2
          go_roundg (ts.length - (k + 1))
          case measure => omega
          case rel => exact ⟨k + 1, _, by omega, by go_num, HX.out.1, HM.out.trans HX.out.2 (fun i hi => (H0.out.fp_obj hi).1), HR2.out, HF2.out⟩
      · obtain rfl : k = ts.length := by omega
        rw [List.take_length] at hN
        have HZ := Lib.hid (show NodeTo w c L _ wr from ⟨L', hN, hM⟩)
        clear hN hM hR hF
        go_wp2
        go_ret
        exact ⟨rfl, HZ.out⟩
end Go.Proofs.YtpaioaljopjpkaaGreatDoor
