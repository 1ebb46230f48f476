/- 'signalmanlaw15.NodeFences' returns true whatever the acts, and the acts read as they did. Conditions: the two listed tables, tied to the program's text. -/
import Derived.Test.YtpaioaljopjpkaaGreatDoorRows
import Derived.Test.YtpaioaljopjpkaaGreatDoorLawA
import Derived.ProofKit
import Derived.LaidMore
import Derived.OpenShut
import Derived.Stop.Joined
import Derived.Deep.SlicePairs
import Derived.SizedLaws
import Derived.Shelf.Vars
import Derived.Carry
import Derived.Lay
import Derived.MakeChecks
import Derived.Test.YtpaioaljopjpkaaGreatDoorLawD
import Derived.Test.YtpaioaljopjpkaaGreatDoorTie
import Derived.Test.YtpaioaljopjpkaaGreatDoorCards
import Derived.SevenTiedAt
set_option linter.unusedVariables false
set_option linter.unusedSimpArgs false
namespace Go.Proofs.YtpaioaljopjpkaaGreatDoor
open Go.ChangeShapes Go.WideShapes Go.ChangeAt Go.RowKit Go.Deep

section
variable {H : Type} {enc : TypeId × Value → H}
theorem returns_and_shaped {a : Assume} {C : Checked} {os : Os} {f : FuncId} {fn : Func} {s : ChangeSpec} {conds : List PathCond} {apart fresh handsOn again : Bool} {X : World → Array Value → Prop}
    (hX : ∀ (w w' : World) (args : Array Value), w.heap = w'.heap → X w args → X w' args)
    (own : ownKnob C.prog.godebug = none) (started : os.Started) (noInit : C.prog.inits.idxOf? f = none) (hfn : C.prog.funcs[f]? = some fn)
    (witness : ∃ (w : World) (tape : Tape) (i : Input), w.os = os ∧ (w.forCall tape i).Shaped C.prog ∧ i.vars = [] ∧ Input.okWide C.prog (w.forCall tape i) .any w.heap.size f i ∧
      ((s.pre enc C.prog fn conds apart (w.forCall tape i).memory i.args ∧ X (w.forCall tape i).memory i.args) ∧ sizedMet enc C.prog fn (OpenSpec.ofChange s) apart (w.forCall tape i).memory i.args) ∧ a.holds C.prog (lone (Frame.enter C.prog f i.args .normal) [] (w.forCall tape i)))
    (contract : ∀ (W : World) (base : Nat) (args : Array Value) (ds gs : List (DataW H)) (before : List MemPlace),
      (∀ (j : Nat) t v, fn.params[j]? = some t → args[j]? = some v → Value.okWide C.prog W .any base t v) →
      DataW.Whole enc C.prog fn.params.toList s.vars apart W args.toList ds gs before → W.ShapedOpen C.prog → X W args →
      Calls C.prog f args W fun e W' => ∃ v, e = .returned v ∧ s.post enc C.prog fn apart fresh handsOn again W args v W') :
    ReturnsInHanded a C os f .any (fun w args => (s.pre enc C.prog fn conds apart w args ∧ X w args) ∧ sizedMet enc C.prog fn (OpenSpec.ofChange s) apart w args) (s.post enc C.prog fn apart fresh handsOn again) := by
  refine returnsInHanded_of_calls own started noInit witness ?_
  intro w tape i _ hsh _ hok hpre hholds
  obtain ⟨_, _, _, fn', hfn', _, _, _, _, hval⟩ := hok
  have e : fn' = fn := Option.some.inj (hfn'.symm.trans hfn)
  subst e
  obtain ⟨⟨⟨ds, gs, before, hw, hc⟩, hx⟩, hz⟩ := hpre
  have hw' := DataW.Whole.of_heap (w' := w.forCall tape i) (by rfl) hw
  refine (contract (w.forCall tape i) w.heap.size i.args ds gs before hval hw' hsh (hX _ _ _ (by rfl) hx)).mono fun e W' ⟨v, he, hp⟩ => ?_
  subst he
  exact ChangeSpec.post_blind hp
end

theorem Tryz.own : ownKnob Tryz.prog.godebug = none := by kernel_rfl
theorem Tryz.laidOut : laidOutB Tryz.prog = true := by kernel_rfl
theorem door_zero : ((begin Tryz.prog (fun _ _ => 0) default).world.heap[0]?).bind Obj.row? = some (#[.int .i64 0], 3) := by kernel_rfl
theorem some_len {W : World} (h : W.ShapedOpen Tryz.prog) : ∃ m, W.cell? ⟨0, 0, none⟩ = some (.int .i64 m) :=
  cell_of_shapedOpen_int h (of_decide_eq_true (by kernel_rfl)) door_zero rfl (by kernel_rfl) (by kernel_rfl) Tryz.underlying3

section
variable {H : Type} {enc : TypeId × Value → H} {W : World} {base : Nat} {spare : Nat → Bool} {held : Bool}
theorem int_in {t : TypeId} {k : IntKind} {n : Nat} {cs : List Value} {x : DataW H × List MemPlace} (ht : Tryz.prog.underlying t = some (.int k)) (h : DataW.trod enc Tryz.prog W base spare held n t cs = some x) : ∃ z, cs = [.int k z] ∧ (Lit.int k z).wf = true := by
  obtain ⟨z, h1, _, h2⟩ := DataW.trod_int ht h
  exact ⟨z, h1, h2⟩
theorem eight {l : List Value} (h : l.length = 8) : ∃ a b c d e f g k, l = [a, b, c, d, e, f, g, k] := by
  match l, h with
  | [a, b, c, d, e, f, g, k], _ => exact ⟨a, b, c, d, e, f, g, k, rfl⟩
theorem act_open {n : Nat} {cs : List Value} {x : DataW H × List MemPlace} (h : DataW.trod enc Tryz.prog W base spare held n 54 cs = some x) :
    ∃ y : ActS, cs = actL y ∧ y.epoch < 18446744073709551616 ∧ y.text.size ≤ maxLen := by
  obtain ⟨xs, k, _, _, hl, hxl, hf⟩ := DataW.trod_struct Tryz.underlying54 h
  have c54 : Tryz.prog.cellsOf 54 = 8 := by kernel_rfl
  rw [c54] at hl
  obtain ⟨v0, v1, v2, v3, v4, v5, v6, v7, rfl⟩ := eight hl
  have c3 : Tryz.prog.cellsOf 3 = 1 := by kernel_rfl
  have c27 : Tryz.prog.cellsOf 27 = 1 := by kernel_rfl
  have c4 : Tryz.prog.cellsOf 4 = 1 := by kernel_rfl
  have c9 : Tryz.prog.cellsOf 9 = 1 := by kernel_rfl
  have sm : ∀ (i : Nat), i < xs.length → ∃ y, xs[i]? = some y := fun i hi => ⟨xs[i], List.getElem?_eq_getElem hi⟩
  have hx8 : xs.length = 8 := hxl
  have g0 : DataW.trod enc Tryz.prog W base spare held k 3 [v0] = xs[0]? := by
    have h0 := hf 0 ⟨ "Do", 3, 0, false, "", "", 0⟩ rfl
    have h1 : DataW.trod enc Tryz.prog W base spare held k 3 (([v0, v1, v2, v3, v4, v5, v6, v7].drop 0).take (Tryz.prog.cellsOf 3)) = xs[0]? := h0
    rw [c3] at h1
    exact h1
  have g1 : DataW.trod enc Tryz.prog W base spare held k 3 [v1] = xs[1]? := by
    have h0 := hf 1 ⟨ "Node", 3, 1, false, "", "", 8⟩ rfl
    have h1 : DataW.trod enc Tryz.prog W base spare held k 3 (([v0, v1, v2, v3, v4, v5, v6, v7].drop 1).take (Tryz.prog.cellsOf 3)) = xs[1]? := h0
    rw [c3] at h1
    exact h1
  have g2 : DataW.trod enc Tryz.prog W base spare held k 3 [v2] = xs[2]? := by
    have h0 := hf 2 ⟨ "From", 3, 2, false, "", "", 16⟩ rfl
    have h1 : DataW.trod enc Tryz.prog W base spare held k 3 (([v0, v1, v2, v3, v4, v5, v6, v7].drop 2).take (Tryz.prog.cellsOf 3)) = xs[2]? := h0
    rw [c3] at h1
    exact h1
  have g3 : DataW.trod enc Tryz.prog W base spare held k 3 [v3] = xs[3]? := by
    have h0 := hf 3 ⟨ "Conn", 3, 3, false, "", "", 24⟩ rfl
    have h1 : DataW.trod enc Tryz.prog W base spare held k 3 (([v0, v1, v2, v3, v4, v5, v6, v7].drop 3).take (Tryz.prog.cellsOf 3)) = xs[3]? := h0
    rw [c3] at h1
    exact h1
  have g4 : DataW.trod enc Tryz.prog W base spare held k 3 [v4] = xs[4]? := by
    have h0 := hf 4 ⟨ "Many", 3, 4, false, "", "", 32⟩ rfl
    have h1 : DataW.trod enc Tryz.prog W base spare held k 3 (([v0, v1, v2, v3, v4, v5, v6, v7].drop 4).take (Tryz.prog.cellsOf 3)) = xs[4]? := h0
    rw [c3] at h1
    exact h1
  have g5 : DataW.trod enc Tryz.prog W base spare held k 27 [v5] = xs[5]? := by
    have h0 := hf 5 ⟨ "Epoch", 27, 5, false, "", "", 40⟩ rfl
    have h1 : DataW.trod enc Tryz.prog W base spare held k 27 (([v0, v1, v2, v3, v4, v5, v6, v7].drop 5).take (Tryz.prog.cellsOf 27)) = xs[5]? := h0
    rw [c27] at h1
    exact h1
  have g6 : DataW.trod enc Tryz.prog W base spare held k 4 [v6] = xs[6]? := by
    have h0 := hf 6 ⟨ "Reads", 4, 6, false, "", "", 48⟩ rfl
    have h1 : DataW.trod enc Tryz.prog W base spare held k 4 (([v0, v1, v2, v3, v4, v5, v6, v7].drop 6).take (Tryz.prog.cellsOf 4)) = xs[6]? := h0
    rw [c4] at h1
    exact h1
  have g7 : DataW.trod enc Tryz.prog W base spare held k 9 [v7] = xs[7]? := by
    have h0 := hf 7 ⟨ "Text", 9, 7, false, "", "", 56⟩ rfl
    have h1 : DataW.trod enc Tryz.prog W base spare held k 9 (([v0, v1, v2, v3, v4, v5, v6, v7].drop 7).take (Tryz.prog.cellsOf 9)) = xs[7]? := h0
    rw [c9] at h1
    exact h1
  obtain ⟨y0, e0⟩ := sm 0 (by omega)
  obtain ⟨y1, e1⟩ := sm 1 (by omega)
  obtain ⟨y2, e2⟩ := sm 2 (by omega)
  obtain ⟨y3, e3⟩ := sm 3 (by omega)
  obtain ⟨y4, e4⟩ := sm 4 (by omega)
  obtain ⟨y5, e5⟩ := sm 5 (by omega)
  obtain ⟨y6, e6⟩ := sm 6 (by omega)
  obtain ⟨y7, e7⟩ := sm 7 (by omega)
  obtain ⟨z0, r0, _⟩ := int_in Tryz.underlying3 (g0.trans e0)
  obtain ⟨z1, r1, _⟩ := int_in Tryz.underlying3 (g1.trans e1)
  obtain ⟨z2, r2, _⟩ := int_in Tryz.underlying3 (g2.trans e2)
  obtain ⟨z3, r3, _⟩ := int_in Tryz.underlying3 (g3.trans e3)
  obtain ⟨z4, r4, _⟩ := int_in Tryz.underlying3 (g4.trans e4)
  obtain ⟨z5, r5, wf5⟩ := int_in Tryz.underlying27 (g5.trans e5)
  obtain ⟨z6, r6, _⟩ := DataW.trod_bool Tryz.underlying4 (g6.trans e6)
  obtain ⟨z7, r7, _, h7⟩ := DataW.trod_string Tryz.underlying9 (g7.trans e7)
  cases r0; cases r1; cases r2; cases r3; cases r4; cases r5; cases r6; cases r7
  have w5 : 0 ≤ z5 ∧ z5 < 18446744073709551616 := by
    have h : IntKind.u64.min ≤ z5 ∧ z5 ≤ IntKind.u64.max := by simpa [Lit.wf] using wf5
    have e1 : IntKind.u64.min = 0 := rfl
    have e2 : IntKind.u64.max = 18446744073709551615 := rfl
    omega
  refine ⟨⟨z0, z1, z2, z3, z4, z5.toNat, z6, z7⟩, ?_, ?_, h7⟩
  · unfold actL; rw [Int.toNat_of_nonneg w5.1]
  · show z5.toNat < _; omega
theorem actL_len (x : ActS) : (actL x).length = 8 := rfl
theorem actCells_len (l : List ActS) : (actCells l).length = l.length * 8 := by
  induction l with
  | nil => rfl
  | cons x l ih => show (actL x ++ actCells l).length = _; rw [List.length_append, ih, actL_len, List.length_cons]; omega
instance : Inhabited ActS := ⟨⟨0, 0, 0, 0, 0, 0, false, ByteArray.empty⟩⟩
theorem acts_open {n : Nat} {v : Value} {x : DataW H × List MemPlace} (h : DataW.trod enc Tryz.prog W base spare held n 46 [v] = some x) :
    ∃ l : List ActS, ActsAt W v l ∧ ∀ y ∈ l, y.epoch < 18446744073709551616 ∧ y.text.size ≤ maxLen := by
  rcases open_slice Tryz.underlying46 h with ⟨e, _⟩ | ⟨a, len, cap, m, n, D, Pl, e, hb, hl, hm, hmm, _, hx⟩
  · cases e
    exact ⟨[], ⟨none, 0, rfl, Nat.le_refl _, by decide, fun h => absurd h (by decide)⟩, fun y h => by cases h⟩
  · cases e
    have c54 : Tryz.prog.cellsOf 54 = 8 := by kernel_rfl
    rw [c54] at hx
    have hlm : len ≤ m := by rw [hmm]; split <;> omega
    have each : ∀ i, i < len → ∃ y : ActS, W.cells? base (a.add (i * 8)) 8 = some (actL y) ∧ y.epoch < 18446744073709551616 ∧ y.text.size ≤ maxLen := fun i hi => by
      obtain ⟨cs', h1, h2⟩ := hx i (by omega)
      obtain ⟨y, rfl, h3⟩ := act_open h2
      exact ⟨y, h1, h3⟩
    obtain ⟨F, hF⟩ := choose_lt each
    refine ⟨(List.range len).map F, ?_, fun y hy => ?_⟩
    · have hlen : ((List.range len).map F).length = len := by simp
      refine ⟨some a, cap, by rw [hlen], by rw [hlen]; exact hl, hm, fun h0 => ?_⟩
      rw [hlen] at h0
      obtain ⟨_, _, hc0⟩ := World.cells?_some (hF 0 h0).1
      have h00 := hc0 0 (by decide)
      rw [add_add] at h00
      have ea0 : a.add (0 * 8 + 0) = a := by simp [Addr.add]
      rw [ea0] at h00
      obtain ⟨b, o, sp⟩ := a
      have hspot : sp = none ∧ ∃ cur T fz, W.heap[b]? = some (.cells cur T fz) := by
        unfold World.cell? at h00
        split at h00
        · rename_i c T fz hh
          split at h00
          · simp [actL] at h00
          · rename_i hs
            exact ⟨by cases sp with | none => rfl | some _ => simp at hs, c, T, fz, hh⟩
        · simp [actL] at h00
      obtain ⟨rfl, cur, T, fz, hh⟩ := hspot
      refine ⟨b, o, cur, T, fz, rfl, hh, fun j u hj => ?_⟩
      have hjl := (List.getElem?_eq_some_iff.1 hj).1
      rw [actCells_len, hlen] at hjl
      have hi : j / 8 < len := by omega
      obtain ⟨_, _, hcc⟩ := World.cells?_some (hF (j / 8) hi).1
      have h1 := hcc (j % 8) (Nat.mod_lt _ (by decide))
      have hat : ((List.range len).map F)[j / 8]? = some (F (j / 8)) := by simp [hi]
      obtain ⟨u', hu'⟩ : ∃ u', (actL (F (j / 8)))[j % 8]? = some u' := ⟨_, List.getElem?_eq_getElem (by rw [actL_len]; exact Nat.mod_lt _ (by decide))⟩
      have h2 := actCells_at _ _ _ hat _ _ hu'
      have e8 : j / 8 * 8 + j % 8 = j := by omega
      rw [e8] at h2
      have h3 := Option.some.inj (hj.symm.trans h2)
      subst h3
      rw [hu', add_add, e8] at h1
      have ea : (⟨b, o, none⟩ : Addr).add j = ⟨b, o + j, none⟩ := by by_cases h : j = 0 <;> simp [Addr.add, h]
      rw [ea] at h1
      simpa [World.cell?, hh] using h1
    · obtain ⟨i, hi, rfl⟩ := List.mem_map.1 hy
      exact (hF i (List.mem_range.1 hi)).2
end
set_option maxRecDepth 100000 in
theorem acts_arg {H : Type} {enc : TypeId × Value → H} {W : World} {base : Nat} {v : Value} {d : DataW H} {p : List MemPlace} (hok : Value.okWide Tryz.prog W .any base 46 v) (h : DataW.Trod enc Tryz.prog W 0 (fun _ => true) true 46 v d p) :
    ∃ l : List ActS, ActsAt W v l ∧ ∀ y ∈ l, y.epoch < 18446744073709551616 ∧ y.text.size ≤ maxLen := by
  obtain ⟨a0, len, cap, rfl⟩ := okWide_slice Tryz.underlying46 hok
  obtain ⟨n, hn⟩ := h
  exact acts_open hn
theorem Tryz.read46 : Tryz.prog.readableRec 46 = true := by kernel_rfl
theorem Tryz.size46 : 46 < Tryz.prog.types.size := of_decide_eq_true (by kernel_rfl)
theorem acts_stay {H : Type} {enc : TypeId × Value → H} {W W' : World} {v : Value} {d : DataW H} {p : List MemPlace} (h : DataW.Trod enc Tryz.prog W 0 (fun _ => true) true 46 v d p) (hb : Below W.heap.size W W') (hlt : ∀ x ∈ p, x.block < W.heap.size) :
    DataW.Trod enc Tryz.prog W' 0 (fun b => decide (b < W.heap.size)) true 46 v d p :=
  Below.trod Tryz.laidOut Tryz.read46 Tryz.size46 h hb hlt

set_option maxRecDepth 100000 in
theorem fences_lifted (os : Os) (started : os.Started) (H : Type) (enc : TypeId × Value → H) :
    ReturnsInHanded {} Tryz.checked os 5 .any (fun w args => (Rows.nodeFencesSpec.pre enc Tryz.prog Tryz.f5 [] false w args ∧ laidMetH Tryz.prog Rows.nodeFencesRow.laid w) ∧ sizedMet enc Tryz.prog Tryz.f5 (OpenSpec.ofChange Rows.nodeFencesSpec) false w args)
      (Rows.nodeFencesSpec.post enc Tryz.prog Tryz.f5 false true false false) := by
  refine returns_and_shaped (C := Tryz.checked) (X := fun w _ => laidMetH Tryz.prog Rows.nodeFencesRow.laid w) (fun _ _ _ hh h => h.of_heap hh) Tryz.own started (by kernel_rfl) Tryz.func5
    (ChangeSpec.witness_shaped (enc := enc) (C := Tryz.checked) (os := os) (X := fun w _ => laidMetH Tryz.prog Rows.nodeFencesRow.laid w) false (World.laidAll Tryz.prog os Rows.nodeFencesRow.laid) #[.slice none 0 0] 8 (World.laidAll_os _ _ _)
      (World.shaped_of_ZipB (by kernel_rfl) (by kernel_rfl)) (by kernel_rfl) (by kernel_rfl) (by kernel_rfl)
      (by rw [MakeChecks.laidMetH_plain _ _ _ (by kernel_rfl)]; exact laidMet_laidAll _ (by kernel_rfl) (by kernel_rfl))) ?_
  intro W base args ds gs before hval0 hW hsh _
  have hval : ∀ (j : Nat) t v, Tryz.f5.params[j]? = some t → args[j]? = some v → Value.okWide Tryz.prog W .any base t v := hval0
  have hW' := hW
  obtain ⟨p, q, hA0, hV, rfl, hfz, hnd⟩ := hW
  have hA : DataW.TrodAll enc Tryz.prog W 0 (fun _ => true) true Tryz.f5.params.toList args.toList ds p := hA0
  rw [Tryz.params5] at hA hval
  obtain ⟨v0, d0, rfl, rfl, h0⟩ := trodAll_one hA
  obtain ⟨rfl, rfl⟩ := trodVars_none hV
  simp only [List.append_nil] at hW'
  obtain ⟨m, hm⟩ := some_len hsh
  obtain ⟨l, hl, hx⟩ := acts_arg (hval 0 46 v0 rfl rfl) h0
  have hlt : ∀ x ∈ p, x.block < W.heap.size := fun x hx => by simpa using hW'.lt x hx
  refine (fences_calls v0 l W hl hx m hm).mono fun e W' ⟨he, hb⟩ => ?_
  subst he
  exact ⟨_, rfl, _, _, _, [], p, [], hW', trodAll_mk1 (shut_bool Tryz.underlying4 _), trodAll_mk1 (acts_stay h0 hb hlt), rfl, hb.frame _, fun h => by cases h⟩

theorem nodeFences_holds : Rows.NodeFencesSaid :=
  OpenClaim.holds_of_wide 5 Tryz.f5 rfl rfl rfl rfl rfl rfl rfl ⟨rfl, rfl, rfl, rfl, rfl⟩ rfl rfl rfl rfl rfl (by kernel_rfl) Tryz.func5 (by kernel_rfl)
    (of_decide_eq_true (by kernel_rfl)) (by unfold Func.isWrapper; first | (rw [if_pos (by decide +kernel)]; kernel_rfl) | (rw [if_neg (by decide +kernel)]; exact ⟨rfl, rfl⟩))
    (fun os started H enc _ => fences_lifted os started H enc)

theorem nodeFences_card : Rows.NodeFencesCardSaid :=
  Claim7.holds_tied_plain_at .later [] [.data, .pinned] true (true, "398f00aa359c708cb336f25b60291d8fc2be45342bc2d2a67fb233d6055c8aca") false
    nodeFences_holds (fun _ h => by cases h) (by kernel_rfl) (fun _ h => by cases h) nodeFences_row_tie rfl ⟨rfl, rfl⟩ (by kernel_rfl) rfl
    (fun f fn hf hfn => by
      obtain rfl : f = 5 := Option.some.inj ((show Tryz.prog.funcNamed "signalman/signalmanlaw15.NodeFences" = some 5 by kernel_rfl).symm.trans hf) |>.symm
      obtain rfl : fn = Tryz.f5 := (Option.some.inj (Tryz.func5.symm.trans hfn)).symm
      exact ⟨by kernel_rfl, fun j t ht => by
        rw [Tryz.params5] at ht
        have hm : t ∈ [46] := by simpa using Array.mem_of_getElem? ht
        have hall : ([46].all fun u => !Tryz.prog.wantsStandIn u) = true := by kernel_rfl
        exact (show Tryz.prog.wantsStandIn t = false by simpa using List.all_eq_true.1 hall t hm)⟩)
    (by kernel_rfl)
#print axioms nodeFences_card
end Go.Proofs.YtpaioaljopjpkaaGreatDoor
