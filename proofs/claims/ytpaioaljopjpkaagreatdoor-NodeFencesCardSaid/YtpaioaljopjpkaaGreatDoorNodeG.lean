/- A node's ways, and what Run leaves of the node and of other blocks. Conditions: a node as it is laid. -/
import Derived.Test.YtpaioaljopjpkaaGreatDoorNodeF
set_option linter.unusedVariables false
set_option linter.unusedSimpArgs false
namespace Go.Proofs.YtpaioaljopjpkaaGreatDoor
open Go.RowKit

def fnV (k : Nat) : Value := .func (.func k) #[] #[]
def waysOps : List (Int × Value) := [(3, fnV 82), (4, fnV 83), (5, fnV 84), (2, fnV 85), (7, fnV 85)]
theorem ways_push {w : World} {mb : Nat} {ops : List (Int × Value)} (h : EntsAt w mb ops) (n : Int) (v : Value) (hn : ∀ p ∈ ops, p.1 ≠ n) (B : Nat) (hB : B ≤ mb) :
    ∃ w', (Instr.mapUpdate 136 (.map (some mb)) (.int .i64 n) v).run Tryz.prog w = .ok () w' ∧ EntsAt w' mb (ops ++ [(n, v)]) ∧ Below B w w' := by
  obtain ⟨es, ck, h1, h2⟩ := h
  refine ⟨_, run_mapUpdate_new (P := Tryz.prog) (t := 136) Tryz.underlying136 Tryz.underlying3 (checkKey_int Tryz.underlying3 _ _) h1 (find_no h2 n hn), ⟨_, _, putObj_same _ _ _ (Array.getElem?_eq_some_iff.1 h1).1, ?_⟩, ?_⟩
  · rw [Array.toList_push, List.map_append, h2, List.map_append]; rfl
  · exact ⟨rfl, rfl, rfl, by rw [putObj_size]; exact Nat.le_refl _, fun k hk => putObj_other _ _ _ _ (by omega)⟩
theorem ways_look {w : World} {mb : Nat} {ops : List (Int × Value)} (h : EntsAt w mb ops) (hnd : (ops.map (·.1)).Nodup) {i : Nat} {n : Int} {v : Value} (hi : ops[i]? = some (n, v)) :
    (Instr.lookup 136 (.map (some mb)) (.int .i64 n) true).run Tryz.prog w = .ok (.tuple #[v, .bool true]) w := by
  obtain ⟨es, ck, h1, h2⟩ := h
  simpa using run_lookup_hit (P := Tryz.prog) (t := 136) Tryz.underlying136 Tryz.underlying3 (fun e => checkKey_int Tryz.underlying3 e n) h1 (find_at h2 hnd hi) true
theorem ways_no {w : World} {mb : Nat} {ops : List (Int × Value)} (h : EntsAt w mb ops) {n : Int} (hn : ∀ p ∈ ops, p.1 ≠ n) :
    (Instr.lookup 136 (.map (some mb)) (.int .i64 n) true).run Tryz.prog w = .ok (.tuple #[.nilFunc, .bool false]) w := by
  obtain ⟨es, ck, h1, h2⟩ := h
  have hz : (zeroValue 134).run Tryz.prog w = .ok .nilFunc w := by kernel_rfl
  simpa using run_lookup_miss (P := Tryz.prog) (t := 136) Tryz.underlying136 Tryz.underlying3 (fun e => checkKey_int Tryz.underlying3 e n) h1 (find_no h2 n hn) hz true

set_option maxRecDepth 100000 in
theorem ways_calls (w : World) : Calls Tryz.prog 57 #[] w fun e w' => ∃ mb, e = .returned (.map (some mb)) ∧ EntsAt w' mb waysOps ∧ Below w.heap.size w w' := by
  have hmm := @run_makeMap Tryz.prog
  have h0 : EntsAt (w.alloc (.map #[] 0)) w.heap.size [] := ⟨#[], 0, heap_alloc_new _ _, rfl⟩
  obtain ⟨w1, e1, h1, b1⟩ := ways_push h0 3 (fnV 82) (by simp) w.heap.size (Nat.le_refl _)
  obtain ⟨w2, e2, h2, b2⟩ := ways_push h1 4 (fnV 83) (by decide) w.heap.size (Nat.le_refl _)
  obtain ⟨w3, e3, h3, b3⟩ := ways_push h2 5 (fnV 84) (by decide) w.heap.size (Nat.le_refl _)
  obtain ⟨w4, e4, h4, b4⟩ := ways_push h3 2 (fnV 85) (by decide) w.heap.size (Nat.le_refl _)
  obtain ⟨w5, e5, h5, b5⟩ := ways_push h4 7 (fnV 85) (by decide) w.heap.size (Nat.le_refl _)
  have HZ : Hid (EntsAt w5 w.heap.size waysOps ∧ Below w.heap.size w w5) := ⟨h5, (((((Below.refl _ _).alloc (Nat.le_refl _) _).trans b1).trans b2).trans b3).trans b4 |>.trans b5⟩
  unfold fnV at e1 e2 e3 e4 e5
  clear h0 h1 h2 h3 h4 h5 b1 b2 b3 b4 b5
  go_enter Tryz.func57, Tryz.ntmps57
  go_wp2
  go_ret
  exact ⟨_, rfl, HZ.out⟩

/-- behind the classer's turn. -/
theorem NodeAt.reclass {w w' : World} {c : Nat} {L : NodeL} {s : NodeS} (h : NodeAt w c L s) {n : Int} {e : Ending} (hp : TokPost L.cl L.mo w n e w') : e = .returned (.int .i64 n) ∧ NodeTo w c L s w' := by
  obtain ⟨he, mo', hc, hk, hl⟩ := hp
  refine ⟨he, { L with mo := mo' }, ?_, hk.mono fun k _ e => .inr (.inr (.inl e)), ?_⟩
  · have hne : ∀ {k : Nat} {o : Obj}, w.heap[k]? = some o → (∀ cur, o ≠ .cells cur 132 (0, 0)) → w'.heap[k]? = w.heap[k]? := fun {k o} hk' hn => hk.block k (heap_lt hk') fun e => by
      obtain ⟨cur, ho⟩ := h.cl_obj
      rw [← e] at ho
      exact hn cur (Option.some.inj (hk'.symm.trans ho))
    refine ⟨(hne h.hc fun cur => cells_ne (by decide)).trans h.hc, own_by h.hlog fun k hk' => ?_, ?_, h.hops, fun i x p hx hp => ⟨(h.hop i x p hx hp).1, own_by (h.hop i x p hx hp).2 fun k hk' => ?_⟩, h.hdis, hc, ?_, h.fine⟩
    · obtain ⟨cur, ho⟩ := own_obj h.hlog hk'
      exact hne ho fun cur => cells_ne (by decide)
    · obtain ⟨es, ck, h1, h2⟩ := h.hmap
      exact ⟨es, ck, (hne h1 fun cur e => cells_map e.symm).trans h1, h2⟩
    · obtain ⟨cur, ho⟩ := own_obj (h.hop i x p hx hp).2 hk'
      exact hne ho fun cur => cells_ne (by decide)
    · intro mb hm
      rcases hl with e | ⟨mb', _, e, hsz⟩
      · exact h.hmm mb (e.symm.trans hm)
      · have hm : mo' = some mb := hm
        rw [e] at hm
        cases hm
        have := (h.fp_obj (k := L.mb) (.inr (.inl rfl))).1
        show mb ≠ L.mb
        omega
  · intro k hk'
    rcases hk' with e | e | e | e | e | e
    · exact .inl (.inl e)
    · exact .inl (.inr (.inl e))
    · exact .inl (.inr (.inr (.inl e)))
    · rcases hl with e2 | ⟨mb', _, e2, hsz⟩
      · exact .inl (.inr (.inr (.inr (.inl (e2.symm.trans e)))))
      · have e : mo' = some k := e
        rw [e2] at e
        cases e
        exact .inr hsz
    · exact .inl (.inr (.inr (.inr (.inr (.inl e)))))
    · exact .inl (.inr (.inr (.inr (.inr (.inr e)))))

/-- a block of another type is none of a node's. -/
theorem NodeAt.far {w : World} {c : Nat} {L : NodeL} {s : NodeS} (h : NodeAt w c L s) {b : Nat} {cur : Array Value} {T : TypeId} {fz : Nat × Nat} (hb : w.heap[b]? = some (.cells cur T fz)) (hT : T ≠ 116 ∧ T ≠ 132 ∧ T ≠ 73 ∧ T ≠ 9) : ¬ L.fp c b := by
  intro hk
  rcases hk with e | e | e | e | e | ⟨x, hx, e⟩
  · exact obj_ne hb h.hc (cells_ne hT.1) e
  · obtain ⟨es, ck, h1, _⟩ := h.hmap
    exact obj_ne hb h1 cells_map e
  · obtain ⟨cur, h1⟩ := h.cl_obj
    exact obj_ne hb h1 (cells_ne hT.2.1) e
  · obtain ⟨es, ck, h1⟩ := h.mo_obj e
    exact obj_ne hb h1 cells_map rfl
  · obtain ⟨cur, h1⟩ := own_obj h.hlog e
    exact obj_ne hb h1 (cells_ne hT.2.2.1) rfl
  · obtain ⟨cur, h1⟩ := h.op_obj hx e
    exact obj_ne hb h1 (cells_ne hT.2.2.2) rfl
theorem NodeTo.far {w w' : World} {c : Nat} {L : NodeL} {s s' : NodeS} (h : NodeAt w c L s) (ht : NodeTo w c L s' w') {b : Nat} {cur : Array Value} {T : TypeId} {fz : Nat × Nat} (hb : w.heap[b]? = some (.cells cur T fz)) (hT : T ≠ 116 ∧ T ≠ 132 ∧ T ≠ 73 ∧ T ≠ 9) : w'.heap[b]? = some (.cells cur T fz) := by
  obtain ⟨L', _, hk, _⟩ := ht
  exact (hk.block b (heap_lt hb) (h.far hb hT)).trans hb
/-- a new block of another type, written: the node stays. -/
theorem NodeTo.write {w w1 : World} {c : Nat} {L : NodeL} {s' : NodeS} (h : NodeTo w c L s' w1) {b : Nat} (i : Nat) (v : Value) {cur : Array Value} {T : TypeId} {fz : Nat × Nat} (hb : w1.heap[b]? = some (.cells cur T fz)) (hT : T ≠ 116 ∧ T ≠ 132 ∧ T ≠ 73 ∧ T ≠ 9) (hT3 : T ≠ 3) (hn : w.heap.size ≤ b) :
    NodeTo w c L s' (w1.setCell ⟨b, i, none⟩ v) := by
  obtain ⟨L1, h1, hk, hf⟩ := h
  refine ⟨L1, ?_, hk.setCell (.inl hn) v, hf⟩
  refine h1.stay (fun k hk' => Below.heap_setCell _ _ _ _ fun e => h1.far hb hT ?_) fun k ⟨n, hk'⟩ => Below.heap_setCell _ _ _ _ fun e => ?_
  · have e : k = b := e
    rw [← e]; exact hk'
  · have e : k = b := e
    subst e
    exact obj_ne hb hk' (cells_ne hT3) rfl
theorem NodeTo.drew {w w1 : World} {c : Nat} {L : NodeL} {s' : NodeS} (h : NodeTo w c L s' w1) : NodeTo w c L s' w1.drew := h.then_below (Below.refl _ _).drew
theorem NodeTo.alloc {w w1 : World} {c : Nat} {L : NodeL} {s' : NodeS} (h : NodeTo w c L s' w1) (o : Obj) : NodeTo w c L s' (w1.alloc o) := h.then_below ((Below.refl _ _).alloc (Nat.le_refl _) _)

/-! ### Run, as it is thought of -/
def NodeS.doCls (s : NodeS) (is : Int) (n : Int) (t : Sg.B) : NodeS × Int :=
  if is = 3 then s.begin n else if is = 4 then s.commit n else if is = 5 then ((s.close n).1, if (s.close n).2 = true then 0 else 7) else if is = 2 ∨ is = 7 then s.write n t else (s, 0)
structure RunR where
  s : NodeS
  err : Int
  texts : List Sg.B
def NodeS.run (s : NodeS) (n : Int) (epoch : Nat) (reads : Bool) (t : Sg.B) : RunR :=
  if s.may epoch reads (clsL t) = 0 then
    if clsL t = 1 then ⟨s, 0, readsL (planL t) (behindL s.table (s.texts n))⟩ else ⟨(s.doCls (clsL t) n t).1, (s.doCls (clsL t) n t).2, []⟩
  else ⟨s, s.may epoch reads (clsL t), []⟩
theorem clsL_long {t : Sg.B} (h : clsL t ≠ 0) : t.length ≤ 200 := by
  unfold clsL at h
  cases hl : Sg.lexL t with
  | none => rw [hl] at h; exact absurd rfl h
  | some l => unfold Sg.lexL at hl; split at hl; cases hl; omega
theorem may_cls {s : NodeS} {e : Nat} {b : Bool} {is : Int} (h : s.may e b is = 0) : is ≠ 0 := by
  unfold NodeS.may at h
  intro h0
  split at h
  · cases h
  · rw [if_pos (.inl h0)] at h; cases h

/-- a node behind its turn, and a row of texts that is none of its blocks. -/
def NodeTv (w : World) (c : Nat) (L : NodeL) (s' : NodeS) (w' : World) (tv : Value) : Prop := ∃ L1, NodeAt w' c L1 s' ∧ Moves w c L L1 w' ∧ ∀ k, tv.ownBlock = some k → ¬ L1.fp c k ∧ k < w'.heap.size
theorem NodeTo.tvNil {w w' : World} {c : Nat} {L : NodeL} {s' : NodeS} (h : NodeTo w c L s' w') : NodeTv w c L s' w' (.slice none 0 0) := let ⟨L1, h1, h2⟩ := h; ⟨L1, h1, h2, fun k e => by cases e⟩
theorem NodeTv.to {w w' : World} {c : Nat} {L : NodeL} {s' : NodeS} {tv : Value} (h : NodeTv w c L s' w' tv) : NodeTo w c L s' w' := let ⟨L1, h1, h2, _⟩ := h; ⟨L1, h1, h2⟩
def RunPost (w : World) (c : Nat) (L : NodeL) (r : RunR) (e : Ending) (w' : World) : Prop :=
  ∃ tv, e = .returned (.agg #[.int .i64 r.err, .int .u64 (r.s.epoch : Int), .int .u64 (r.s.log.length : Int), tv]) ∧ StrRow w' tv r.texts ∧ (∀ k, tv.ownBlock = some k → w.heap.size ≤ k) ∧ NodeTv w c L r.s w' tv

theorem do_cls (w : World) (c : Nat) (L : NodeL) (s : NodeS) (h : NodeAt w c L s) (is : Int) (n : Int) (t : Sg.B) (ht : t.length ≤ 200) {i k : Nat} (hi : waysOps[i]? = some (is, fnV k)) :
    (∀ (args : Array Value) (w : World), (callFunc k args).run Tryz.prog w = .ok (.enter k args) w) ∧ Calls Tryz.prog k #[.pointer (some ⟨c, 0, none⟩), .int .i64 n, .string (ba t)] w fun r w' => r = .returned (.int .i64 (s.doCls is n t).2) ∧ NodeTo w c L (s.doCls is n t).1 w' := by
  have hlt := (List.getElem?_eq_some_iff.1 hi).1
  have h5 : waysOps.length = 5 := rfl
  have hic : i = 0 ∨ i = 1 ∨ i = 2 ∨ i = 3 ∨ i = 4 := by omega
  rcases hic with rfl | rfl | rfl | rfl | rfl
  · simp [waysOps, fnV] at hi
    obtain ⟨rfl, rfl⟩ := hi
    exact ⟨fun args w => by go_simp, by simpa [NodeS.doCls] using nbegin_calls w c L s h n (ba t)⟩
  · simp [waysOps, fnV] at hi
    obtain ⟨rfl, rfl⟩ := hi
    exact ⟨fun args w => by go_simp, by simpa [NodeS.doCls] using commit_calls w c L s h n (ba t)⟩
  · simp [waysOps, fnV] at hi
    obtain ⟨rfl, rfl⟩ := hi
    exact ⟨fun args w => by go_simp, by simpa [NodeS.doCls] using rollback_calls w c L s h n (ba t)⟩
  · simp [waysOps, fnV] at hi
    obtain ⟨rfl, rfl⟩ := hi
    exact ⟨fun args w => by go_simp, by simpa [NodeS.doCls] using nwrite_calls w c L s h n t ht⟩
  · simp [waysOps, fnV] at hi
    obtain ⟨rfl, rfl⟩ := hi
    exact ⟨fun args w => by go_simp, by simpa [NodeS.doCls] using nwrite_calls w c L s h n t ht⟩
end Go.Proofs.YtpaioaljopjpkaaGreatDoor
