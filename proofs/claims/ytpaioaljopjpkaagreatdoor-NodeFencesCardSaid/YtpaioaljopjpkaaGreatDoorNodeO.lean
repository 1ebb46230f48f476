/- Copy whole; several nodes in memory. Conditions: nodes as they are laid. -/
import Derived.Test.YtpaioaljopjpkaaGreatDoorNodeN
set_option linter.unusedVariables false
set_option linter.unusedSimpArgs false
namespace Go.Proofs.YtpaioaljopjpkaaGreatDoor
open Go.RowKit

theorem copy_calls (w : World) (c : Nat) (L : NodeL) (s : NodeS) (h : NodeAt w c L s) (d : Nat) (M : NodeL) (t : NodeS) (hd : NodeAt w d M t) (hsep : s.epoch < t.epoch → ∀ k, M.fp d k → ¬ L.fp c k) (most : Int) :
    Calls Tryz.prog 36 #[.pointer (some ⟨c, 0, none⟩), .pointer (some ⟨d, 0, none⟩), .int .i64 most] w fun e w' => e = .returned (.int .i64 ((s.copy t most).2 : Int)) ∧ NodeTo w c L (s.copy t most).1 w' := by
  unfold NodeS.copy
  by_cases h1 : t.epoch < s.epoch ∨ (t.epoch = s.epoch ∧ s.leads = true)
  · rw [if_pos h1]
    exact (copy_no w c L s h d M t hd most h1).mono fun e w' ⟨he, hb⟩ => ⟨he, NodeTo.of_below h hb⟩
  · rw [if_neg h1]
    by_cases h2 : s.epoch < t.epoch
    · rw [if_pos h2]
      exact copy_later w c L s h d M t hd most h2 (hsep h2)
    · rw [if_neg h2]
      have h3 : s.epoch = t.epoch := by
        rcases Nat.lt_trichotomy s.epoch t.epoch with h | h | h
        · exact absurd h h2
        · exact h
        · exact absurd (.inl h) h1
      have h4 : s.leads = false := by
        cases hl : s.leads with
        | false => rfl
        | true => exact absurd (.inr ⟨h3.symm, hl⟩) h1
      exact copy_same w c L s h d M t hd most h3 h4

/-- what is turned lies outside R, and is no box; and R grows. -/
def Grows (R R' : Nat → Prop) (w w' : World) : Prop := Keeps (fun k => ¬ R k ∧ ¬ isBox w k) w w' ∧ ∀ k, R k → R' k
theorem Grows.refl (R : Nat → Prop) (w : World) : Grows R R w w := ⟨Keeps.refl _ _, fun _ h => h⟩
theorem Grows.box {R R' : Nat → Prop} {w w' : World} (h : Grows R R' w w') {k : Nat} (hk : isBox w k) : w'.heap[k]? = w.heap[k]? := h.1.block k (by obtain ⟨n, e⟩ := hk; exact heap_lt e) fun e => e.2 hk
theorem Grows.isBox {R R' : Nat → Prop} {w w' : World} (h : Grows R R' w w') {k : Nat} (hk : isBox w k) : isBox w' k := by
  have := h.box hk
  obtain ⟨n, e⟩ := hk
  exact ⟨n, this.trans e⟩
theorem Grows.trans {R R1 R2 : Nat → Prop} {w w1 w2 : World} (h : Grows R R1 w w1) (k : Grows R1 R2 w1 w2) : Grows R R2 w w2 := ⟨h.1.then k.1 fun i _ hm => ⟨fun hr => hm.1 (h.2 i hr), fun hb => hm.2 (h.isBox hb)⟩, fun i hi => k.2 i (h.2 i hi)⟩
theorem Grows.block {R R' : Nat → Prop} {w w' : World} (h : Grows R R' w w') {k : Nat} (hk : R k) (hl : k < w.heap.size) : w'.heap[k]? = w.heap[k]? := h.1.block k hl fun e => e.1 hk
theorem Grows.cell {R R' : Nat → Prop} {w w' : World} (h : Grows R R' w w') {a : Addr} (hk : R a.block) (hl : a.block < w.heap.size) : w'.cell? a = w.cell? a := h.1.cell hl fun e => e.1 hk
theorem Grows.below {R R' : Nat → Prop} {w w' : World} (h : Grows R R' w w') (B : Nat) (hB : B ≤ w.heap.size) (hR : ∀ k, k < B → R k) : Below B w w' := h.1.below B hB fun k hk e => e.1 (hR k hk)
theorem Grows.size {R R' : Nat → Prop} {w w' : World} (h : Grows R R' w w') : w.heap.size ≤ w'.heap.size := h.1.size
/-- a new block turned. -/
theorem Grows.setCell {R R' : Nat → Prop} {w w' : World} (h : Grows R R' w w') {p : Addr} (hp : w.heap.size ≤ p.block) (u : Value) : Grows R R' w (w'.setCell p u) := ⟨h.1.setCell (.inl hp) u, h.2⟩
theorem Grows.putObj {R R' : Nat → Prop} {w w' : World} (h : Grows R R' w w') {b : Nat} (hp : w.heap.size ≤ b) (o : Obj) : Grows R R' w (w'.putObj b o) := ⟨h.1.putObj (.inl hp) o, h.2⟩
theorem Grows.sub {R R' R2 : Nat → Prop} {w w' : World} (h : Grows R R' w w') (hs : ∀ k, R' k → R2 k) : Grows R R2 w w' := ⟨h.1, fun k hk => hs k (h.2 k hk)⟩
/-- a classer that stands by itself. -/
def ClsIn (w : World) (R : Nat → Prop) (c : Nat) : Prop := ∃ mo, ClsAt w c mo ∧ R c ∧ ∀ mb, mo = some mb → R mb
theorem ClsIn.grows {R R' : Nat → Prop} {w w' : World} {c : Nat} (h : ClsIn w R c) (hg : Grows R R' w w') (hl : ∀ k, R k → k < w.heap.size) : ClsIn w' R' c := by
  obtain ⟨mo, h1, h2, h3⟩ := h
  exact ⟨mo, h1.keep (hg.block h2 (hl c h2)) (fun mb e => hg.block (h3 mb e) (hl mb (h3 mb e))) (fun b n hb => hg.box ⟨n, hb⟩), hg.2 c h2, fun mb e => hg.2 mb (h3 mb e)⟩
theorem StrRow.grows {R R' : Nat → Prop} {w w' : World} (h : Grows R R' w w') {v : Value} {l : List Sg.B} (hr : StrRow w v l) (hv : ∀ k, v.ownBlock = some k → R k) : StrRow w' v l :=
  hr.move fun g off n cp e hl => h.block (hv g (by rw [e]; rfl)) hl
theorem RowAt.grows {R R' : Nat → Prop} {w w' : World} (h : Grows R R' w w') {v : Value} {n : Nat} {cs : List Value} (hr : RowAt w v n cs) (hv : ∀ k, v.ownBlock = some k → R k) : RowAt w' v n cs := by
  obtain ⟨a, c, rfl, h1, h2, h3⟩ := hr
  refine ⟨a, c, rfl, h1, h2, fun h0 => ?_⟩
  obtain ⟨g, off, cur, T, fz, rfl, hg, hc⟩ := h3 h0
  exact ⟨g, off, cur, T, fz, rfl, (h.block (hv g rfl) (heap_lt hg)).trans hg, hc⟩

/-- nodes in memory, none sharing a block with another, nor with R. -/
def Nodes (w : World) (R : Nat → Prop) (cs : List Nat) (ss : List NodeS) : Prop :=
  ∃ Ls : List NodeL, Ls.length = cs.length ∧ ss.length = cs.length ∧ (∀ (i c : Nat) (L : NodeL) (s : NodeS), cs[i]? = some c → Ls[i]? = some L → ss[i]? = some s → NodeAt w c L s ∧ ∀ k, L.fp c k → ¬ R k) ∧
    (∀ (i j c d : Nat) (L M : NodeL), i ≠ j → cs[i]? = some c → cs[j]? = some d → Ls[i]? = some L → Ls[j]? = some M → ∀ k, L.fp c k → ¬ M.fp d k) ∧ ∀ k, R k → k < w.heap.size
theorem Nodes.nil (w : World) : Nodes w (fun k => k < w.heap.size) [] [] := ⟨[], rfl, rfl, (fun i c L s h => by simp at h), (fun i j c d L M _ h => by simp at h), fun k h => h⟩
theorem Nodes.len {w : World} {R : Nat → Prop} {cs : List Nat} {ss : List NodeS} (h : Nodes w R cs ss) : ss.length = cs.length := h.choose_spec.2.1
theorem Nodes.lt {w : World} {R : Nat → Prop} {cs : List Nat} {ss : List NodeS} (h : Nodes w R cs ss) : ∀ k, R k → k < w.heap.size := h.choose_spec.2.2.2.2
theorem Nodes.stay {w w' : World} {R : Nat → Prop} {cs : List Nat} {ss : List NodeS} (h : Nodes w R cs ss) (hk : ∀ (c : Nat) (L : NodeL) (s : NodeS), NodeAt w c L s → NodeAt w' c L s) (hsz : w.heap.size ≤ w'.heap.size) : Nodes w' R cs ss := by
  obtain ⟨Ls, h1, h2, h3, h4, h5⟩ := h
  exact ⟨Ls, h1, h2, fun i c L s a b d => ⟨hk c L s (h3 i c L s a b d).1, (h3 i c L s a b d).2⟩, h4, fun k hk => Nat.lt_of_lt_of_le (h5 k hk) hsz⟩
theorem Nodes.below {w w' : World} {R : Nat → Prop} {cs : List Nat} {ss : List NodeS} (h : Nodes w R cs ss) (hb : Below w.heap.size w w') : ∃ R', Nodes w' R' cs ss ∧ Grows R R' w w' ∧ ∀ k, w.heap.size ≤ k → k < w'.heap.size → R' k := by
  have hl := h.lt
  obtain ⟨Ls, h1, h2, h3, h4, h5⟩ := h
  refine ⟨fun k => R k ∨ (w.heap.size ≤ k ∧ k < w'.heap.size), ⟨Ls, h1, h2, fun i c L s a b d => ⟨(h3 i c L s a b d).1.below hb, fun k hk hr => ?_⟩, h4, fun k hk => hk.elim (fun e => Nat.lt_of_lt_of_le (hl k e) hb.size) fun e => e.2⟩, ⟨Keeps.of_new hb _, fun k hk => .inl hk⟩, fun k h1 h2 => .inr ⟨h1, h2⟩⟩
  rcases hr with e | e
  · exact (h3 i c L s a b d).2 k hk e
  · have := ((h3 i c L s a b d).1.fp_obj hk).1; omega
theorem Nodes.put {w : World} {R : Nat → Prop} {cs : List Nat} {ss : List NodeS} (h : Nodes w R cs ss) {b : Nat} (o : Obj) {cur : Array Value} {T : TypeId} {fz : Nat × Nat} (hb : w.heap[b]? = some (.cells cur T fz)) (hR : R b) (hT3 : T ≠ 3) : Nodes (w.putObj b o) R cs ss := by
  obtain ⟨Ls, h1, h2, h3, h4, h5⟩ := h
  refine ⟨Ls, h1, h2, fun i c L s a d e => ⟨(h3 i c L s a d e).1.stay (fun k hk => putObj_other _ _ _ _ fun e2 => (h3 i c L s a d e).2 k hk (e2 ▸ hR)) (fun k ⟨n, hk⟩ => putObj_other _ _ _ _ fun e2 => ?_), (h3 i c L s a d e).2⟩, h4, fun k hk => by rw [putObj_size]; exact h5 k hk⟩
  subst e2
  exact obj_ne hb hk (cells_ne hT3) rfl
theorem Nodes.write {w : World} {R : Nat → Prop} {cs : List Nat} {ss : List NodeS} (h : Nodes w R cs ss) {b : Nat} (i : Nat) (v : Value) {cur : Array Value} {T : TypeId} {fz : Nat × Nat} (hb : w.heap[b]? = some (.cells cur T fz)) (hR : R b) (hT3 : T ≠ 3) : Nodes (w.setCell ⟨b, i, none⟩ v) R cs ss := by
  rw [setCell_put hb]; exact h.put _ hb hR hT3
/-- one of them, and the nodes behind its turn. -/
theorem Nodes.get {w : World} {R : Nat → Prop} {cs : List Nat} {ss : List NodeS} (h : Nodes w R cs ss) {i c : Nat} {s : NodeS} (hc : cs[i]? = some c) (hs : ss[i]? = some s) :
    ∃ L, NodeAt w c L s ∧ (∀ k, L.fp c k → ¬ R k) ∧ (∀ w' s' tv, NodeTv w c L s' w' tv → ∃ R', Nodes w' R' cs (ss.set i s') ∧ Grows R R' w w' ∧ ∀ k, tv.ownBlock = some k → w.heap.size ≤ k → R' k) ∧
      (∀ j d t, cs[j]? = some d → ss[j]? = some t → ∃ M, NodeAt w d M t ∧ (j ≠ i → ∀ k, M.fp d k → ¬ L.fp c k)) := by
  obtain ⟨Ls, h1, h2, h3, h4, h5⟩ := h
  have hil := (List.getElem?_eq_some_iff.1 hc).1
  have hL : ∃ L, Ls[i]? = some L := ⟨Ls[i]'(by omega), List.getElem?_eq_getElem (by omega)⟩
  obtain ⟨L, hL⟩ := hL
  obtain ⟨hn, hb⟩ := h3 i c L s hc hL hs
  refine ⟨L, hn, hb, fun w' s' tv ⟨L', hn', ⟨hk, hf⟩, htv⟩ => ⟨fun k => R k ∨ (w.heap.size ≤ k ∧ k < w'.heap.size ∧ ¬ L'.fp c k), ⟨Ls.set i L', by rw [List.length_set]; exact h1, by rw [List.length_set]; exact h2, ?_, ?_, fun k hk' => hk'.elim (fun e => Nat.lt_of_lt_of_le (h5 k e) hk.size) fun e => e.2.1⟩, ⟨hk.mono fun k _ hf' => ⟨hb k hf', (hn.fp_obj hf').2⟩, fun k hk' => .inl hk'⟩, fun k e hge => .inr ⟨hge, (htv k e).2, (htv k e).1⟩⟩, ?_⟩
  · intro j d M t hcj hMj htj
    by_cases hj : i = j
    · subst hj
      rw [List.getElem?_set_self (by omega)] at hMj htj
      have e1 := hc.symm.trans hcj
      cases e1; cases hMj; cases htj
      refine ⟨hn', fun k hk' hr => ?_⟩
      rcases hr with e | e
      · rcases hf k hk' with e2 | e2
        · exact hb k e2 e
        · have := h5 k e; omega
      · exact e.2.2 hk'
    · rw [List.getElem?_set_ne hj] at hMj htj
      obtain ⟨hm, hmb⟩ := h3 j d M t hcj hMj htj
      refine ⟨hm.keeps hk (fun k hk' => h4 j i d c M L (fun e => hj e.symm) hcj hc hMj hL k hk') (fun k hk' => (hn.fp_obj hk').2), fun k hk' hr => ?_⟩
      rcases hr with e | e
      · exact hmb k hk' e
      · have := (hm.fp_obj hk').1; omega
  · have hnd : ∀ (j d : Nat) (M : NodeL), i ≠ j → cs[j]? = some d → Ls[j]? = some M → (∀ k, M.fp d k → ¬ L'.fp c k) := fun j d M hij hd hM k hk' hk'' => by
      rcases hf k hk'' with e | e
      · exact h4 j i d c M L (fun e => hij e.symm) hd hc hM hL k hk' e
      · have hjl := (List.getElem?_eq_some_iff.1 hd).1
        have ht : ∃ t, ss[j]? = some t := ⟨ss[j]'(by omega), List.getElem?_eq_getElem (by omega)⟩
        obtain ⟨t, ht⟩ := ht
        have := ((h3 j d M t hd hM ht).1.fp_obj hk').1
        omega
    intro j j' d d' M M' hjj hd hd' hM hM' k hk' hk''
    by_cases e1 : i = j
    · subst e1
      rw [List.getElem?_set_self (by omega)] at hM
      rw [List.getElem?_set_ne hjj] at hM'
      have e2 := hc.symm.trans hd
      cases e2; cases hM
      exact hnd j' d' M' hjj hd' hM' k hk'' hk'
    · rw [List.getElem?_set_ne e1] at hM
      by_cases e2 : i = j'
      · subst e2
        rw [List.getElem?_set_self (by omega)] at hM'
        have e3 := hc.symm.trans hd'
        cases e3; cases hM'
        exact hnd j d M e1 hd hM k hk' hk''
      · rw [List.getElem?_set_ne e2] at hM'
        exact h4 j j' d d' M M' hjj hd hd' hM hM' k hk' hk''
  · intro j d t hd ht
    have hjl := (List.getElem?_eq_some_iff.1 hd).1
    have hM : ∃ M, Ls[j]? = some M := ⟨Ls[j]'(by omega), List.getElem?_eq_getElem (by omega)⟩
    obtain ⟨M, hM⟩ := hM
    exact ⟨M, (h3 j d M t hd hM ht).1, fun hj => h4 j i d c M L hj hd hc hM hL⟩
/-- one more. -/
theorem Nodes.snoc {w w' : World} {R : Nat → Prop} {cs : List Nat} {ss : List NodeS} (h : Nodes w R cs ss) (hb : Below w.heap.size w w') {c : Nat} {L : NodeL} {s : NodeS} (hn : NodeAt w' c L s) (hf : ∀ k, L.fp c k → w.heap.size ≤ k) : Nodes w' R (cs ++ [c]) (ss ++ [s]) ∧ Grows R R w w' := by
  obtain ⟨Ls, h1, h2, h3, h4, h5⟩ := h
  refine ⟨⟨Ls ++ [L], by simp [h1], by simp [h2], ?_, ?_, fun k hk => Nat.lt_of_lt_of_le (h5 k hk) hb.size⟩, Keeps.of_new hb _, fun k hk => hk⟩
  · intro i d M t hd hM ht
    rcases getElem?_snoc hd with hd | ⟨e1, rfl⟩
    · have hil := (List.getElem?_eq_some_iff.1 hd).1
      rw [List.getElem?_append_left (by omega)] at hM ht
      obtain ⟨a, b⟩ := h3 i d M t hd hM ht
      exact ⟨a.below hb, b⟩
    · rcases getElem?_snoc hM with hM | ⟨_, rfl⟩
      · have := (List.getElem?_eq_some_iff.1 hM).1; omega
      · rcases getElem?_snoc ht with ht | ⟨_, rfl⟩
        · have := (List.getElem?_eq_some_iff.1 ht).1; omega
        · exact ⟨hn, fun k hk hr => by have := hf k hk; have := h5 k hr; omega⟩
  · intro i j d d' M M' hij hd hd' hM hM' k hk hk'
    have old : ∀ (i d : Nat) (M : NodeL), cs[i]? = some d → (Ls ++ [L])[i]? = some M → Ls[i]? = some M ∧ ∀ k, M.fp d k → k < w.heap.size := fun i d M hd hM => by
      have hil := (List.getElem?_eq_some_iff.1 hd).1
      rw [List.getElem?_append_left (by omega)] at hM
      have ht : ∃ t, ss[i]? = some t := ⟨ss[i]'(by omega), List.getElem?_eq_getElem (by omega)⟩
      obtain ⟨t, ht⟩ := ht
      exact ⟨hM, fun k hk => ((h3 i d M t hd hM ht).1.fp_obj hk).1⟩
    have new : ∀ (i : Nat) (M : NodeL), i = cs.length → (Ls ++ [L])[i]? = some M → M = L := fun i M e hM => by
      rcases getElem?_snoc hM with hM | ⟨_, rfl⟩
      · have := (List.getElem?_eq_some_iff.1 hM).1; omega
      · rfl
    rcases getElem?_snoc hd with hd | ⟨e1, rfl⟩
    · obtain ⟨hM, hlt⟩ := old i d M hd hM
      rcases getElem?_snoc hd' with hd' | ⟨e2, rfl⟩
      · obtain ⟨hM', _⟩ := old j d' M' hd' hM'
        exact h4 i j d d' M M' hij hd hd' hM hM' k hk hk'
      · obtain rfl := new j M' e2 hM'
        have := hlt k hk; have := hf k hk'; omega
    · obtain rfl := new i M e1 hM
      rcases getElem?_snoc hd' with hd' | ⟨e2, rfl⟩
      · obtain ⟨_, hlt⟩ := old j d' M' hd' hM'
        have := hlt k hk'; have := hf k hk; omega
      · omega

/-- behind a turn of blocks of R that are no boxes. -/
theorem Nodes.keeps {w w' : World} {R : Nat → Prop} {cs : List Nat} {ss : List NodeS} (h : Nodes w R cs ss) {m : Nat → Prop} (hk : Keeps m w w') (hm : ∀ k, m k → R k ∧ ¬ isBox w k) :
    ∃ R', Nodes w' R' cs ss ∧ (∀ k, R k → R' k) ∧ ∀ k, w.heap.size ≤ k → k < w'.heap.size → R' k := by
  have hl := h.lt
  obtain ⟨Ls, h1, h2, h3, h4, h5⟩ := h
  refine ⟨fun k => R k ∨ (w.heap.size ≤ k ∧ k < w'.heap.size), ⟨Ls, h1, h2, fun i c L s a b d => ⟨(h3 i c L s a b d).1.keeps hk (fun k hk hm' => (h3 i c L s a b d).2 k hk (hm k hm').1) (fun k hm' => (hm k hm').2), fun k hk hr => ?_⟩, h4, fun k hk' => hk'.elim (fun e => Nat.lt_of_lt_of_le (hl k e) hk.size) fun e => e.2⟩, fun k hk => .inl hk, fun k h1 h2 => .inr ⟨h1, h2⟩⟩
  rcases hr with e | e
  · exact (h3 i c L s a b d).2 k hk e
  · have := ((h3 i c L s a b d).1.fp_obj hk).1; omega
end Go.Proofs.YtpaioaljopjpkaaGreatDoor
