/- A node's commit and write. Conditions: a node as it is laid, a text of at most 200 bytes. -/
import Derived.Test.YtpaioaljopjpkaaGreatDoorNodeD
set_option linter.unusedVariables false
set_option linter.unusedSimpArgs false
namespace Go.Proofs.YtpaioaljopjpkaaGreatDoor
open Go.RowKit

theorem NodeTo.from_below {w w1 w' : World} {c : Nat} {L : NodeL} {s : NodeS} (h : NodeTo w1 c L s w') (hb : Below w.heap.size w w1) : NodeTo w c L s w' := by
  obtain ⟨L', h1, h2, h3⟩ := h
  exact ⟨L', h1, (Keeps.of_new hb (L.fp c)).trans h2, fun k hk => (h3 k hk).imp id fun e => Nat.le_trans hb.size e⟩
theorem NodeTo.trans {w w1 w2 : World} {c : Nat} {L : NodeL} {s s1 s2 : NodeS} (h0 : NodeAt w c L s) (h : NodeTo w c L s1 w1) (k : ∀ L1, NodeAt w1 c L1 s1 → NodeTo w1 c L1 s2 w2) : NodeTo w c L s2 w2 := by
  obtain ⟨L1, h1, m1⟩ := h
  obtain ⟨L2, h2, m2⟩ := k L1 h1
  exact ⟨L2, h2, m1.trans m2 fun i hi => (h0.fp_obj hi).1⟩

/-- Close, and that its map's block alone has turned. -/
theorem close2_calls (w : World) (c : Nat) (L : NodeL) (s : NodeS) (h : NodeAt w c L s) (n : Int) :
    Calls Tryz.prog 21 #[.pointer (some ⟨c, 0, none⟩), .int .i64 n] w fun r w' => r = .returned (.bool (s.close n).2) ∧ NodeTo w c L (s.close n).1 w' ∧ ∀ k, k ≠ L.mb → w'.heap[k]? = w.heap[k]? := by
  have c3 := h.cell3
  unfold NodeS.close
  cases hf : s.find n with
  | none =>
    have hlk := ents_look_no h.hmap (h.find_no hf) true
    obtain ⟨o, hdel, he⟩ := ents_del_no h.hmap (h.find_no hf)
    have HT := Lib.hid (h.resame o he)
    clear h he hf
    simp only [if_true] at hlk
    go_enter Tryz.func21, Tryz.ntmps21
    go_wp2
    go_ret
    exact ⟨rfl, HT.out, fun k hk => putObj_other _ _ _ _ hk⟩
  | some i =>
    obtain ⟨v, l, hx, hp, hv⟩ := h.find_at hf
    have hlk := ents_look h.hmap h.knd hx true
    obtain ⟨o, hdel, he⟩ := ents_del h.hmap h.knd hx
    have HT := Lib.hid (h.dropped i o he)
    obtain ⟨a, cc, rfl, _⟩ := own_len2 hv
    clear h he hf hx hp hv
    simp only [if_true] at hlk
    go_enter Tryz.func21, Tryz.ntmps21
    go_wp2
    go_ret
    exact ⟨rfl, HT.out, fun k hk => putObj_other _ _ _ _ hk⟩

def NodeS.texts (s : NodeS) (n : Int) : List Sg.B :=
  match s.find n with
  | none => []
  | some i => match s.opn[i]? with | some p => p.2 | none => []
def NodeS.commit (s : NodeS) (n : Int) : NodeS × Int := if (s.close n).2 = true then (s.close n).1.lay (s.texts n) else (s, 7)

set_option maxRecDepth 100000 in
theorem commit_calls (w : World) (c : Nat) (L : NodeL) (s : NodeS) (h : NodeAt w c L s) (n : Int) (t : ByteArray) :
    Calls Tryz.prog 83 #[.pointer (some ⟨c, 0, none⟩), .int .i64 n, .string t] w fun r w' => r = .returned (.int .i64 (s.commit n).2) ∧ NodeTo w c L (s.commit n).1 w' := by
  have c3 := h.cell3
  have HC := Lib.hid (close2_calls w c L s h n)
  unfold NodeS.commit
  cases hf : s.find n with
  | none =>
    have hlk := ents_look_no h.hmap (h.find_no hf) false
    have hc : s.close n = (s, false) := by unfold NodeS.close; rw [hf]
    rw [hc] at HC ⊢
    clear h hf hc
    simp only [if_false, Bool.false_eq_true] at hlk
    go_enter Tryz.func83, Tryz.ntmps83
    go_wp2_with (go_at_call 21; refine HC.out.mono ?_; rintro r w1 ⟨rfl, h1, _⟩)
    go_ret
    exact ⟨rfl, h1⟩
  | some i =>
    obtain ⟨v, l, hx, hp, hv⟩ := h.find_at hf
    have hlk := ents_look h.hmap h.knd hx false
    have ht : s.texts n = l := by unfold NodeS.texts; rw [hf]; simp only [hp]
    have hc2 : (s.close n).2 = true := by unfold NodeS.close; rw [hf]
    have hopn := h.fine.opn _ (List.mem_of_getElem? hp)
    rw [if_pos hc2, ht]
    rw [hc2] at HC
    have HN := Lib.hid h
    have HV := Lib.hid hv
    have hnm := h.not_map hv
    obtain ⟨a, cc, hva, hvn, hvm⟩ := own_len2 hv
    have HA := Lib.hid hva
    rw [hva] at hlk
    have HOP := Lib.hid hopn
    clear h hf hx hp hv ht hopn hva hc2
    simp only [if_false, Bool.false_eq_true] at hlk
    go_enter Tryz.func83, Tryz.ntmps83
    go_wp2_with (first | (go_at_call 21; refine HC.out.mono ?_; rintro r w1 ⟨rfl, ⟨L1, h1, m1⟩, ho⟩; have HV1 := Lib.hid (own_by (w' := w1) HV.out fun k hk => ho k fun e => hnm (by rw [hk, e])); have H1 := Lib.hid h1; have M1 := Lib.hid m1; have HL := Lib.hid (lay_calls w1 c L1 _ h1 v l (own_rowAt HV1.out) (FarV.of_own h1 HV1.out) HOP.out.2 HOP.out.1); rw [HA.out] at HL; clear h1 m1 ho) | (go_at_call 107; refine HL.out.mono ?_; rintro r w2 ⟨rfl, h2⟩))
    go_ret
    refine ⟨rfl, ?_⟩
    obtain ⟨L2, h3, m3⟩ := h2
    exact ⟨L2, h3, M1.out.trans m3 fun i hi => (HN.out.fp_obj hi).1⟩

theorem NodeAt.rewrite {w w1 w2 : World} {c : Nat} {L : NodeL} {s : NodeS} (h : NodeAt w c L s) (hb : Below w.heap.size w w1) {i : Nat} {n : Int} {v : Value} {l : List Sg.B} (hx : L.ops[i]? = some (n, v)) (hp : s.opn[i]? = some (n, l)) (g cap : Nat) (t : Sg.B)
    (hown : w2.ownsRow 0 9 1 (.slice (some ⟨g, 0, none⟩) (l.length + 1) cap) (l.length + 1) (strCells l ++ [.string (ba t)])) (hgrow : w1.grownBy w2 v.ownBlock) (hat : v.ownBlock = some g ∨ g = w1.heap.size) (o : Obj)
    (he : EntsAt (w2.putObj L.mb o) L.mb (L.ops.set i (n, .slice (some ⟨g, 0, none⟩) (l.length + 1) cap))) (hl : l.length + 1 ≤ 200) (ht : t.length ≤ 200) :
    NodeTo w c L ⟨s.epoch, s.leads, s.log, s.opn.set i (n, l ++ [t])⟩ (w2.putObj L.mb o) := by
  have h1 := h.below hb
  have hv : w1.ownsRow 0 9 1 v l.length (strCells l) := (h1.hop i _ _ hx hp).2
  have old : ∀ k, k < w1.heap.size → v.ownBlock ≠ some k → w2.heap[k]? = w1.heap[k]? := fun k hk hn => hgrow.block k hk (fun e => hn e.symm)
  have nv : ∀ {k : Nat} {ob : Obj}, w1.heap[k]? = some ob → (∀ cur, ob ≠ .cells cur 9 (0, 0)) → w2.heap[k]? = some ob := fun {k ob} hk hne => by
    refine (old k (heap_lt hk) fun e => ?_).trans hk
    obtain ⟨cur, ho⟩ := own_obj hv e
    exact hne cur (Option.some.inj (hk.symm.trans ho))
  have hc2 := nv h1.hc (fun cur => cells_ne (by decide))
  obtain ⟨f1, f2, f3, f4⟩ := h1.c_far
  obtain ⟨m1, m2⟩ := h1.mb_far
  have hmb2 : ∃ es ck, w2.heap[L.mb]? = some (.map es ck) := by
    obtain ⟨es, ck, h3, _⟩ := h1.hmap
    exact ⟨es, ck, nv h3 fun cur e => cells_map e.symm⟩
  obtain ⟨es, ck, hmb2⟩ := hmb2
  have boxes : ∀ k, isBox w1 k → w2.heap[k]? = w1.heap[k]? := fun k ⟨n, hk⟩ => (nv hk fun cur => cells_ne (by decide)).trans hk.symm
  have cls2 : ClsAt w2 L.cl L.mo := by
    refine h1.hcls.keep ?_ ?_ fun b n hbn => boxes b ⟨n, hbn⟩
    · obtain ⟨cur, ho⟩ := h1.cl_obj
      exact (nv ho fun cur => cells_ne (by decide)).trans ho.symm
    · intro mb hm
      obtain ⟨es, ck, ho⟩ := h1.mo_obj hm
      exact (nv ho fun cur e => cells_map e.symm).trans ho.symm
  have nomb : ∀ {v : Value} {e size n : Nat} {xs : List Value}, w2.ownsRow 0 e size v n xs → v.ownBlock ≠ some L.mb := fun ho e1 => by
    obtain ⟨cur, ho1⟩ := own_obj ho e1
    exact obj_ne ho1 hmb2 cells_map rfl
  have nbox : ¬ isBox w2 L.mb := fun ⟨n, hk⟩ => obj_ne hmb2 hk (fun e => cells_map e.symm) rfl
  have hil := (List.getElem?_eq_some_iff.1 hx).1
  have hlog2 : w2.ownsRow 0 73 2 L.lv s.log.length (enCells s.log) := own_by h1.hlog fun k hk => by
    obtain ⟨cur, ho⟩ := own_obj h1.hlog hk
    exact (nv ho fun cur => cells_ne (by decide)).trans ho.symm
  have setx : ∀ j x, (L.ops.set i (n, .slice (some ⟨g, 0, none⟩) (l.length + 1) cap))[j]? = some x → (j = i ∧ x = (n, .slice (some ⟨g, 0, none⟩) (l.length + 1) cap)) ∨ (j ≠ i ∧ L.ops[j]? = some x) := fun j x hj => by
    rw [List.getElem?_set] at hj
    split at hj
    · rename_i e; exact .inl ⟨e.symm, (Option.some.inj hj).symm⟩
    · rename_i e; exact .inr ⟨fun e2 => e e2.symm, hj⟩
  have others : ∀ j x, j ≠ i → L.ops[j]? = some x → ∀ p, s.opn[j]? = some p → OwnS w2 0 x.2 p.2 := fun j x hj hxj p hpj => by
    have ho := (h1.hop j x p hxj hpj).2
    refine own_by ho fun k hk => old k (ho.lt k hk).2 fun e => ?_
    rcases h1.hdis i j _ _ (fun e => hj e.symm) hx hxj with h5 | h5
    · rw [h5] at e; cases e
    · exact h5 (e.trans hk.symm)
  have apart : ∀ j x, j ≠ i → L.ops[j]? = some x → x.2.ownBlock ≠ some g := fun j x hj hxj e => by
    rcases hat with h6 | h6
    · rcases h1.hdis i j _ _ (fun e => hj e.symm) hx hxj with h5 | h5
      · rw [h5] at h6; cases h6
      · exact h5 (h6.trans e.symm)
    · obtain ⟨p, hpj⟩ := h1.ops_some hxj
      have := ((h1.hop j x p hxj hpj).2.lt g e).2
      omega
  refine ⟨{ L with ops := L.ops.set i (n, .slice (some ⟨g, 0, none⟩) (l.length + 1) cap) }, ⟨(putObj_other _ _ _ _ f1.symm).trans hc2, own_put hlog2 _ (nomb hlog2), he, by rw [List.length_set, List.length_set]; exact h1.hops, ?_, ?_, cls_put cls2 _ m1 h1.hmm nbox, h1.hmm, ?_⟩, ?_, ?_⟩
  · intro j x p hxj hpj
    rcases setx j x hxj with ⟨rfl, rfl⟩ | ⟨hj, hxj'⟩
    · rw [List.getElem?_set_self (by rw [← h1.hops]; exact hil)] at hpj
      cases hpj
      refine ⟨rfl, ?_⟩
      unfold OwnS
      rw [strCells_append, List.length_append]
      exact own_put hown _ (nomb hown)
    · rw [List.getElem?_set_ne (fun e => hj e.symm)] at hpj
      have ho := others j x hj hxj' p hpj
      exact ⟨(h1.hop j x p hxj' hpj).1, own_put ho _ (nomb ho)⟩
  · intro j k x y hjk hxj hyk
    rcases setx j x hxj with ⟨rfl, rfl⟩ | ⟨hj, hxj'⟩
    · rcases setx k y hyk with ⟨rfl, _⟩ | ⟨hk, hyk'⟩
      · exact absurd rfl hjk
      · exact .inr fun e => apart k y hk hyk' e.symm
    · rcases setx k y hyk with ⟨rfl, rfl⟩ | ⟨hk, hyk'⟩
      · exact .inr (apart j x hj hxj')
      · exact h1.hdis j k x y hjk hxj' hyk'
  · refine ⟨h.fine.epoch, h.fine.log, h.fine.texts, fun p hp' => ?_, ?_⟩
    · rcases List.mem_or_eq_of_mem_set hp' with hp' | rfl
      · exact h.fine.opn p hp'
      · have := h.fine.opn _ (List.mem_of_getElem? hp)
        refine ⟨by simp; omega, fun t' ht' => ?_⟩
        rcases List.mem_append.1 ht' with ht' | ht'
        · exact this.2 t' ht'
        · rw [List.mem_singleton.1 ht']; exact ht
    · rw [List.map_set]
      have : (s.opn.map (·.1)).set i n = s.opn.map (·.1) := by
        apply List.ext_getElem?
        intro j
        rw [List.getElem?_set, List.getElem?_map]
        split
        · rename_i e
          subst e
          rw [hp, if_pos (by have := (List.getElem?_eq_some_iff.1 hp).1; simpa using this)]; rfl
        · rfl
      rw [this]; exact h.fine.nd
  · refine keeps_put ?_ (.inr (.inl rfl)) _
    exact (Keeps.of_new hb (L.fp c)).grown hgrow fun k e => .inr (.inr (.inr (.inr (.inr (.inr ⟨(n, v), List.mem_of_getElem? hx, e⟩)))))
  · intro k hk
    rcases hk with hk | hk | hk | hk | hk | ⟨x, hx', hk⟩
    · exact .inl (.inl hk)
    · exact .inl (.inr (.inl hk))
    · exact .inl (.inr (.inr (.inl hk)))
    · exact .inl (.inr (.inr (.inr (.inl hk))))
    · exact .inl (.inr (.inr (.inr (.inr (.inl hk)))))
    · obtain ⟨j, hj⟩ := List.mem_iff_getElem?.1 hx'
      rcases setx j x hj with ⟨rfl, rfl⟩ | ⟨hj', hxj'⟩
      · have hk : some g = some k := hk
        cases hk
        rcases hat with e | e
        · exact .inl (.inr (.inr (.inr (.inr (.inr ⟨(n, v), List.mem_of_getElem? hx, e⟩)))))
        · exact .inr (by rw [e]; exact hb.size)
      · exact .inl (.inr (.inr (.inr (.inr (.inr ⟨x, List.mem_of_getElem? hxj', hk⟩)))))

theorem ents_grow {w w1 w5 : World} {mb : Nat} {ops : List (Int × Value)} {row : Option Nat} (h : EntsAt w mb ops) (hb : Below w.heap.size w w1) (hg : w1.grownBy w5 row) (hne : row ≠ some mb) : EntsAt w5 mb ops := by
  obtain ⟨es, ck, h1, h2⟩ := h
  have h3 := (hb.block mb (heap_lt h1)).trans h1
  exact ⟨es, ck, (hg.block mb (heap_lt h3) (fun e => hne e.symm)).trans h3, h2⟩

def NodeS.write (s : NodeS) (n : Int) (t : Sg.B) : NodeS × Int :=
  match s.find n with
  | none => s.lay [t]
  | some i => if (s.texts n).length ≥ 200 then (s, 5) else (⟨s.epoch, s.leads, s.log, s.opn.set i (n, s.texts n ++ [t])⟩, 0)

set_option maxRecDepth 100000 in
set_option maxHeartbeats 4000000 in
theorem nwrite_calls (w : World) (c : Nat) (L : NodeL) (s : NodeS) (h : NodeAt w c L s) (n : Int) (t : Sg.B) (ht : t.length ≤ 200) :
    Calls Tryz.prog 85 #[.pointer (some ⟨c, 0, none⟩), .int .i64 n, .string (ba t)] w fun r w' => r = .returned (.int .i64 (s.write n t).2) ∧ NodeTo w c L (s.write n t).1 w' := by
  have c3 := h.cell3
  unfold NodeS.write
  cases hf : s.find n with
  | none =>
    have hlk := ents_look_no h.hmap (h.find_no hf) true
    have hb : Below w.heap.size w (w.alloc (.cells #[.string (ba t)] 9)) := (Below.refl _ _).alloc (Nat.le_refl _) _
    have hrow : StrRow (w.alloc (.cells #[.string (ba t)] 9)) (.slice (some ⟨w.heap.size, 0, none⟩) 1 1) [t] := ⟨_, 1, rfl, by simp, by decide, fun _ => ⟨w.heap.size, 0, _, _, _, rfl, heap_alloc_new _ _, fun j u hj => by simpa [strCells] using hj⟩⟩
    have hfar : FarV c L (.slice (some ⟨w.heap.size, 0, none⟩) 1 1) := fun g off n cp e => by
      cases e
      exact ⟨fun e => by have := h.lt; omega, fun e => by have := (h.hlog.lt _ e).2; omega⟩
    have HL := Lib.hid (lay_calls _ c L s (h.alloc (.cells #[.string (ba t)] 9)) _ [t] hrow hfar (fun t' h' => by rw [List.mem_singleton.1 h']; exact ht) (by simp))
    have HB := Lib.hid hb
    clear h hf hb hrow hfar
    simp only [if_true] at hlk
    go_enter Tryz.func85, Tryz.ntmps85
    go_wp2_with (go_at_call 107; refine HL.out.mono ?_; rintro r w2 ⟨rfl, h2⟩)
    go_ret
    exact ⟨rfl, h2.from_below HB.out⟩
  | some i =>
    obtain ⟨v, l, hx, hp, hv⟩ := h.find_at hf
    have hlk := ents_look h.hmap h.knd hx true
    have htx : s.texts n = l := by unfold NodeS.texts; rw [hf]; simp only [hp]
    dsimp only
    rw [htx]
    obtain ⟨a, cc, hva, hvn, hvm⟩ := own_len2 hv
    simp only [if_true] at hlk
    by_cases hge : l.length ≥ 200
    · rw [if_pos hge]
      have HS := Lib.hid (NodeTo.same h)
      have hge' : (200 : Int) ≤ (l.length : Int) := by omega
      subst hva
      clear h hf hx hp hv htx hge
      go_enter Tryz.func85, Tryz.ntmps85
      go_wp2
      go_ret
      exact ⟨rfl, HS.out⟩
    · rw [if_neg hge]
      have hge' : ¬ ((200 : Int) ≤ (l.length : Int)) := by omega
      have mixed : Tryz.prog.follows Departure.mixedOrders = true := by kernel_rfl
      obtain ⟨i0, hinfo, hz0, hz1, hz2⟩ := info9_parts
      have HN := Lib.hid h
      have HV : Hid (w.ownsRow 0 9 1 v l.length (strCells l)) := hv
      have HX := Lib.hid hx
      have HP := Lib.hid hp
      have HA := Lib.hid hva
      rw [hva] at hlk
      have HMB := Lib.hid (h.not_map hv)
      have HCC := Lib.hid (h.not_c hv (by decide))
      have hclt := h.lt
      clear h hf hx hp hv htx hge hva
      go_enter Tryz.func85, Tryz.ntmps85
      go_wp2
      go_region_law ((refine step_append_lies _ (by rfl) _ _ 22 (by rfl) 0 9 i0 _ 1 16 Tryz.underlying22 hinfo hz0 hz1 hz2 rfl (by decide) v _ _ (by exact HA.out.symm) (by exact HV.out.alloc _) _ 1 1 [.string (ba t)] (by rfl) rfl (by exact new_cells w [.string (ba t)] 9) one_str (by decide) (by unfold maxLen; omega) (by omega) (Nat.zero_le _) _ rfl ?_; intro g5 cap5 w5 hown5 hgrow5 hat5 hlt5; have hm5 := ents_grow HN.out.hmap (((Below.refl _ _).alloc (Nat.le_refl _) _).drew) hgrow5 HMB.out; obtain ⟨o5, hup5, he5⟩ := ents_set hm5 HN.out.knd HX.out (.slice (some ⟨g5, 0, none⟩) (l.length + 1) cap5); have hq3 := (hgrow5.cell_far ⟨c, 3, none⟩ (by simp; have := HN.out.lt; omega) (fun e => HCC.out e.symm)).trans (show ((w.alloc (.cells #[.string (ba t)] 9)).drew.cell? ⟨c, 3, none⟩ = some (.map (some L.mb))) by simp [*, World.cell?_alloc_some])))
      all_goals
        have HT := Lib.hid (HN.out.rewrite (((Below.refl _ _).alloc (Nat.le_refl _) _).drew) HX.out HP.out g5 cap5 t hown5 hgrow5 hat5 o5 he5 (by omega) ht)
        clear hown5 hgrow5 hat5 hlt5 hm5 he5
        go_wp2
        go_ret
        exact ⟨rfl, HT.out⟩
end Go.Proofs.YtpaioaljopjpkaaGreatDoor
