/- NodeFences: an entry is laid by what isn't a read alone, in the epoch that the node leads. Conditions: the acts as they came in. -/
import Derived.Test.YtpaioaljopjpkaaGreatDoorNodeP
set_option linter.unusedVariables false
set_option linter.unusedSimpArgs false
namespace Go.Proofs.YtpaioaljopjpkaaGreatDoor
open Go.RowKit

/-- a classer by itself beside nodes, called. -/
def ClsPost (w : World) (R : Nat → Prop) (cs : List Nat) (ss : List NodeS) (c : Nat) (n : Int) (e : Ending) (w' : World) : Prop :=
  e = .returned (.int .i64 n) ∧ ∃ R', Nodes w' R' cs ss ∧ ClsIn w' R' c ∧ (∀ k, R k → R' k) ∧ Keeps (· = c) w w'
theorem cls_obj {w : World} {c : Nat} {mo : Option Nat} (h : ClsAt w c mo) : ∃ cur, w.heap[c]? = some (.cells cur 132 (0, 0)) := by
  cases mo with
  | none => exact ⟨_, h⟩
  | some mb => exact ⟨_, h.1⟩
theorem cls_calls {w : World} {R : Nat → Prop} {cs : List Nat} {ss : List NodeS} {c : Nat} (hN : Nodes w R cs ss) (hC : ClsIn w R c) (t : Sg.B) (ht : t.length ≤ maxLen) (m : Int) (hm : w.cell? ⟨0, 0, none⟩ = some (.int .i64 m)) :
    Calls Tryz.prog 18 #[.pointer (some ⟨c, 0, none⟩), .string (ba t)] w (ClsPost w R cs ss c (clsL t)) := by
  obtain ⟨mo, h1, h2, h3⟩ := hC
  have h := class_calls c mo (ba t) m w h1 (by rw [ba_size]; exact ht) hm
  rw [ba_data] at h
  refine h.mono ?_
  rintro e w' ⟨rfl, mo', h4, h5, h6⟩
  have hb : ∀ k, k = c → R k ∧ ¬ isBox w k := fun k e => by
    subst e
    obtain ⟨cur, ho⟩ := cls_obj h1
    exact ⟨h2, fun ⟨n, hb⟩ => obj_ne ho hb (cells_ne (by decide)) rfl⟩
  obtain ⟨R', n1, r1, r2⟩ := hN.keeps h5 hb
  refine ⟨rfl, R', n1, ⟨mo', h4, r1 c h2, fun mb e => ?_⟩, r1, h5⟩
  rcases h6 with e2 | ⟨mb', _, e2, hs⟩
  · exact r1 mb (h3 mb (e2.symm.trans e))
  · rw [e2] at e
    cases e
    refine r2 _ hs ?_
    rw [e2] at h4
    obtain ⟨_, es, ck, h7, _⟩ := h4
    exact heap_lt h7
theorem bne_no {z : Int} (h : z = 1) : ¬ ((z != 1) = true) := by subst h; decide
theorem or_no {z y : Int} (h : z ≠ 0) (h1 : y = 1) : ¬ ((z == 0) = true ∨ (y != 1) = true) := fun e => e.elim (fun e => h (eq_of_beq e)) (bne_no h1)
theorem told_none {w : World} {b : Nat} {t : ToldS} {tv : Value} (h : w.heap[b]? = some (.cells #[.int .i64 t.err, .int .u64 (t.epoch : Int), .int .u64 (t.place : Int), tv, .bool t.is, .int .i64 (t.many : Int)] 57 (0, 0))) :
    w.cell? ⟨b, 0, none⟩ = some (.int .i64 t.err) ∧ w.cell? ⟨b, 1, none⟩ = some (.int .u64 (t.epoch : Int)) ∧ w.cell? ⟨b, 2, none⟩ = some (.int .u64 (t.place : Int)) ∧ w.cell? ⟨b, 3, none⟩ = some tv ∧ w.cell? ⟨b, 4, none⟩ = some (.bool t.is) ∧ w.cell? ⟨b, 5, none⟩ = some (.int .i64 (t.many : Int)) := by
  refine ⟨?_, ?_, ?_, ?_, ?_, ?_⟩ <;> simp [World.cell?, h]

structure FRel (w : World) (g cl : Nat) (cs : List Nat) (wr : World) (R : Nat → Prop) (ss : List NodeS) : Prop where
  nodes : Nodes wr R cs ss
  ptr : PtrRow wr g cs
  rg : R g
  cls : ClsIn wr R cl
  clb : w.heap.size ≤ cl
  old : ∀ k, k < w.heap.size → R k
  bel : Below w.heap.size w wr
theorem FRel.grows {w : World} {g cl : Nat} {cs : List Nat} {wr w' : World} {R R' : Nat → Prop} {ss ss' : List NodeS} (h : FRel w g cl cs wr R ss) (hN : Nodes w' R' cs ss') (hg : Grows R R' wr w') : FRel w g cl cs w' R' ss' :=
  ⟨hN, h.ptr.grows hg h.rg, hg.2 g h.rg, h.cls.grows hg h.nodes.lt, h.clb, fun k hk => hg.2 k (h.old k hk), h.bel.trans (hg.below w.heap.size h.bel.size h.old)⟩
theorem FRel.below {w : World} {g cl : Nat} {cs : List Nat} {wr w' : World} {R : Nat → Prop} {ss : List NodeS} (h : FRel w g cl cs wr R ss) (hb : Below wr.heap.size wr w') : ∃ R', FRel w g cl cs w' R' ss ∧ Grows R R' wr w' ∧ ∀ k, wr.heap.size ≤ k → k < w'.heap.size → R' k := by
  obtain ⟨R', n1, g1, r1⟩ := h.nodes.below hb
  exact ⟨R', h.grows n1 g1, g1, r1⟩
theorem FRel.cls_turn {w : World} {g cl : Nat} {cs : List Nat} {wr w' : World} {R R' : Nat → Prop} {ss : List NodeS} (h : FRel w g cl cs wr R ss) (hN : Nodes w' R' cs ss) (hC : ClsIn w' R' cl) (hs : ∀ k, R k → R' k) (hk : Keeps (· = cl) wr w') : FRel w g cl cs w' R' ss := by
  obtain ⟨mo, h1, _⟩ := h.cls
  obtain ⟨cur, ho⟩ := cls_obj h1
  exact ⟨hN, (hk.block g h.ptr.lt (obj_ne h.ptr ho (cells_ne (by decide)))).trans h.ptr, hs g h.rg, hC, h.clb, fun k hk' => hs k (h.old k hk'), h.bel.trans (hk.below w.heap.size h.bel.size fun k hk' e => by have := h.clb; omega)⟩
theorem FRel.cell0 {w : World} {g cl : Nat} {cs : List Nat} {wr : World} {R : Nat → Prop} {ss : List NodeS} (h : FRel w g cl cs wr R ss) (h0 : 0 < w.heap.size) : wr.cell? ⟨0, 0, none⟩ = w.cell? ⟨0, 0, none⟩ := h.bel.cell (p := ⟨0, 0, none⟩) h0

theorem slice43_from (g off n c lo : Nat) (w : World) (h1 : lo ≤ n) (h3 : n ≤ c) (h4 : c ≤ 9223372036854775807) : (Instr.sliceAt 43 (.slice (some ⟨g, off, none⟩) n c) (some (.int .i64 lo)) none none).run Tryz.prog w = .ok (.slice (if c = lo then some ⟨g, off, none⟩ else some ⟨g, off + lo * 2, none⟩) (n - lo) (c - lo)) w := by
  have h5 : ¬ c < lo := by omega
  have h6 : ¬ n < lo := by omega
  have h7 : ¬ c < n := by omega
  go_simp
theorem slice43_from_nil (w : World) : (Instr.sliceAt 43 (.slice none 0 0) (some (.int .i64 0)) none none).run Tryz.prog w = .ok (.slice none 0 0) w := by go_simp
theorem cut_from {w : World} {l : List En} {v : Value} (h : w.ownsRow 0 73 2 v l.length (enCells l)) (lo : Nat) (h1 : lo ≤ l.length) :
    ∃ a c, (∀ w' : World, (Instr.sliceAt 43 v (some (.int .i64 lo)) none none).run Tryz.prog w' = .ok (.slice a (l.length - lo) c) w') ∧ RowAt w (.slice a (l.length - lo) c) (l.length - lo) (enCells (l.drop lo)) ∧ (a = none → l.length - lo = 0) := by
  rcases h.2 with ⟨rfl, h0⟩ | ⟨g, cap, cur, rfl, hb, hg, hn, hm, hs, ht⟩
  · have hl : l = [] := List.eq_nil_of_length_eq_zero h0
    subst hl
    obtain rfl : lo = 0 := by simpa using h1
    exact ⟨none, 0, fun w' => slice43_from_nil w', ⟨none, 0, rfl, by simp, by decide, fun h => absurd h (by simp)⟩, fun _ => rfl⟩
  · unfold maxLen at hm
    refine ⟨_, _, fun w' => slice43_from g 0 l.length cap lo w' h1 hn hm, ?_, fun e => by split at e <;> cases e⟩
    have key : ∀ (a : Option Addr), (0 < l.length - lo → a = some ⟨g, lo * 2, none⟩) → RowAt w (.slice a (l.length - lo) (cap - lo)) (l.length - lo) (enCells (l.drop lo)) := fun a ha =>
      ⟨a, cap - lo, rfl, by omega, by unfold maxLen; omega, fun h0 => ⟨g, lo * 2, cur, 73, (0, 0), ha h0, hg, fun j u hj => by
        rw [enCells_drop, ← ht] at hj
        have hjl : lo * 2 + j < l.length * 2 := by
          rw [List.getElem?_drop] at hj
          have := (List.getElem?_eq_some_iff.1 hj).1
          rw [List.length_take] at this; omega
        rw [List.getElem?_drop, List.getElem?_take_of_lt (by omega)] at hj
        simpa using hj⟩⟩
    split
    · rename_i e
      exact key _ fun h0 => by omega
    · exact key _ fun h0 => by rw [Nat.zero_add]

set_option maxRecDepth 100000 in
set_option maxHeartbeats 8000000 in
theorem fences_calls (v : Value) (l : List ActS) (w : World) (hv : ActsAt w v l) (hx : ∀ x ∈ l, x.epoch < 18446744073709551616 ∧ x.text.size ≤ maxLen) (m : Int) (hm : w.cell? ⟨0, 0, none⟩ = some (.int .i64 m)) :
    Calls Tryz.prog 5 #[v] w fun e w' => e = .returned (.bool true) ∧ Below w.heap.size w w' := by
  have h00 : 0 < w.heap.size := World.block_lt_of_cell? w ⟨0, 0, none⟩ hm
  have HM := Lib.hid hm
  have HV := Lib.hid hv
  have HX := Lib.hid hx
  obtain ⟨av, cv, hve, hvn, hvm⟩ := hv.form
  have HE := Lib.hid hve
  have HA := Lib.hid (awake_calls w m hm)
  have HLG := Lib.hid (fun w1 (hb : Below w.heap.size w w1) => large_calls v l w1 (RowAt.below hv hb (Nat.le_refl _)))
  obtain ⟨lg, hlg⟩ : ∃ b, b = largeL l := ⟨_, rfl⟩
  rw [← hlg] at HLG
  rw [hve] at HLG ⊢
  clear hv hx hm hve hlg
  go_enter Tryz.func5, Tryz.ntmps5
  go_wp2_with fail
  refine HA.out.mono ?_
  rintro e w1 ⟨rfl, hb1⟩
  have B1 := Lib.hid hb1
  have HLG1 := Lib.hid (HLG.out w1 hb1)
  clear hb1
  go_wp2_with fail
  refine HLG1.out.mono ?_
  rintro e w2 ⟨rfl, hb2⟩
  have B2 := Lib.hid (B1.out.trans (hb2.mono B1.out.size))
  clear hb2
  cases lg with
  | true =>
    go_wp2
    go_ret
    exact ⟨rfl, B2.out⟩
  | false =>
    go_wp2_with fail
    refine (nodes_calls _).mono ?_
    rintro e w3 ⟨g, c0, c1, c2, R3, rfl, hP, hN, hG, hRg, hge⟩
    have G3 := Lib.hid hG
    have N3 := Lib.hid hN
    have P3 := Lib.hid hP
    have RG3 := Lib.hid hRg
    clear hP hN hG hRg
    go_wp2_with fail
    refine (class_new _).mono ?_
    rintro e w4 ⟨rfl, rfl⟩
    obtain ⟨R4, hn4, hg4, hr4⟩ := N3.out.below ((Below.refl _ _).alloc (Nat.le_refl _) (.cells #[.int .u32 0, .int .i32 0, .int .u32 0, .map none] 132))
    have B3 : Below w2.heap.size w2 w3 := G3.out.below w2.heap.size (Nat.le_refl _) fun k hk => hk
    have HREL : Hid (FRel w g w3.heap.size [c0, c1, c2] (w3.alloc (.cells #[.int .u32 0, .int .i32 0, .int .u32 0, .map none] 132)) R4 [NodeS.new, NodeS.new, NodeS.new]) :=
      ⟨hn4, P3.out.grows hg4 RG3.out, hg4.2 g RG3.out, ⟨none, heap_alloc_new _ _, hr4 _ (Nat.le_refl _) (by simp), fun mb e => by cases e⟩, (by have := B2.out.size; have := B3.size; omega), fun k hk => hg4.2 k (G3.out.2 k (by have := B2.out.size; omega)), (B2.out.trans (B3.mono B2.out.size)).alloc (Nat.le_trans B2.out.size B3.size) _⟩
    clear hn4 hg4 hr4 B3
    obtain ⟨cl, hcl⟩ : ∃ cl, cl = w3.heap.size := ⟨_, rfl⟩
    rw [← hcl] at HREL ⊢
    obtain ⟨cs, hcs⟩ : ∃ cs, cs = [c0, c1, c2] := ⟨_, rfl⟩
    rw [← hcs] at HREL
    have hcl3 : cs.length = 3 := by rw [hcs]; rfl
    clear hcl hcs G3 N3 P3 RG3
    go_wp2
    go_loopg [24] l.length (fun n vi wr => ∃ (k : Nat) (R : Nat → Prop) (ss : List NodeS), n + k = l.length ∧ vi = .int .i64 k ∧ FRel w g cl cs wr R ss)
    case atStart => exact ⟨0, R4, _, by omega, rfl, HREL.out⟩
    case round =>
      clear HREL
      obtain ⟨k, R, ss, hk, rfl, hrel⟩ := hrel
      have FR := Lib.hid hrel
      have BW := Lib.hid hrel.bel
      clear hrel
      by_cases hlt : k < l.length
      · obtain ⟨x, hxk⟩ : ∃ x, l[k]? = some x := ⟨l[k], List.getElem?_eq_getElem hlt⟩
        obtain ⟨ga, off, cp, hve2, hc1, hc2, hg1, hact⟩ := HV.out.act hxk
        have ev := HE.out.symm.trans hve2
        cases ev
        obtain ⟨q0, q1, q2, q3, q4, q5, q6, q7⟩ := hact.below BW.out hg1
        have hxx := HX.out x (List.mem_of_getElem? hxk)
        have HXX := Lib.hid hxx
        have hss3 : ss.length = 3 := by rw [FR.out.nodes.len]; exact hcl3
        obtain ⟨s, hs, hnode, s', hdo1, hep, hrun⟩ := doL_node hss3 x
        obtain ⟨c, hc⟩ : ∃ c, cs[ofI x.node]? = some c := ⟨cs[ofI x.node]'(by rw [hcl3]; exact ofI_lt _), List.getElem?_eq_getElem _⟩
        have HS := Lib.hid (And.intro hs hc)
        obtain ⟨R1, fr1, g1, r1⟩ := FR.out.below ((Below.refl _ _).alloc (Nat.le_refl _) (.cells (actL x).toArray 54))
        have FR1 := Lib.hid fr1
        have IN6 := Lib.hid (r1 wr.heap.size (Nat.le_refl _) (by simp))
        have H6 := Lib.hid (heap_alloc_new wr (.cells (actL x).toArray 54))
        have kc := fr1.ptr.cell hc
        obtain ⟨L1, nL1⟩ := nodes_at fr1.nodes hc hs
        have hl3 := ofI_lt x.node
        have hl3' : (ofI x.node : Int) < 3 := by omega
        obtain ⟨w4, hw4⟩ : ∃ w4, w4 = wr.alloc (.cells (actL x).toArray 54) := ⟨_, rfl⟩
        rw [← hw4] at FR1 H6 kc nL1
        have HLOG := Lib.hid (log_calls _ c L1 s nL1)
        have HEP := Lib.hid (fun w' (hb : Below w4.heap.size w4 w') => epoch_calls w' c L1 s (nL1.below hb))
        have HLD := Lib.hid (fun w' (hb : Below w4.heap.size w4 w') => leads_calls w' c L1 s (nL1.below hb))
        have hlog1 := nL1.fine.log
        have e60 : w4.cell? ⟨wr.heap.size, 1, none⟩ = some (.int .i64 x.node) := by simp [World.cell?, H6.out, actL]
        have hw4' : w4 = wr.alloc (.cells #[.int .i64 x.act, .int .i64 x.node, .int .i64 x.fro, .int .i64 x.conn, .int .i64 x.many, .int .u64 (x.epoch : Int), .bool x.reads, .string x.text] 54) := hw4
        have HDO1 := Lib.hid hdo1
        have HRUN := Lib.hid hrun
        have HEPL := Lib.hid hep
        have HW4 := Lib.hid hw4'
        clear fr1 g1 r1 nL1 hs hc hact hxk hve2 hxx hdo1 hrun hep hnode hw4 hw4'
        go_wp2_with fail
        rw [← HW4.out]
        clear HW4
        refine (of3_calls _ _).mono ?_
        rintro e w' ⟨rfl, rfl⟩
        go_wp2_with fail
        refine HLOG.out.mono ?_
        rintro e w5 ⟨v5, rfl, ho5, hb5⟩
        obtain ⟨a5, d5, hv5⟩ := own_len ho5
        subst hv5
        obtain ⟨R5, fr5, g5, r5⟩ := FR1.out.below hb5
        have FR5 := Lib.hid fr5
        have RW5 := Lib.hid (And.intro (own_rowAt ho5) (fun k e => And.intro (r5 k (ho5.lt k e).1 (ho5.lt k e).2) (ho5.lt k e).1))
        have HEP1 := Lib.hid (HEP.out w5 hb5)
        have HLD1 := Lib.hid (HLD.out w5 hb5)
        have H65 := Lib.hid (And.intro (g5.2 _ IN6.out) ((hb5.block _ (heap_lt H6.out)).trans H6.out))
        have HDOC := Lib.hid (do_calls w5 R5 g cs ss fr5.nodes fr5.ptr hcl3 fr5.rg (fr5.old 0 h00) m ((fr5.cell0 h00).trans HM.out) x HXX.out.1 HXX.out.2)
        unfold actL at HDOC
        have hnil5 := Lib.hid (own_nil ho5)
        clear ho5 hb5 HEP HLD fr5 g5 r5 kc e60
        go_wp2_with fail
        refine HEP1.out.mono ?_
        rintro e w' ⟨rfl, rfl⟩
        go_wp2_with fail
        refine HLD1.out.mono ?_
        rintro e w' ⟨rfl, rfl⟩
        have z0 : w5.cell? ⟨wr.heap.size, 0, none⟩ = some (.int .i64 x.act) := by simp [World.cell?, H65.out.2, actL]
        have z1 : w5.cell? ⟨wr.heap.size, 1, none⟩ = some (.int .i64 x.node) := by simp [World.cell?, H65.out.2, actL]
        have z2 : w5.cell? ⟨wr.heap.size, 2, none⟩ = some (.int .i64 x.fro) := by simp [World.cell?, H65.out.2, actL]
        have z3 : w5.cell? ⟨wr.heap.size, 3, none⟩ = some (.int .i64 x.conn) := by simp [World.cell?, H65.out.2, actL]
        have z4 : w5.cell? ⟨wr.heap.size, 4, none⟩ = some (.int .i64 x.many) := by simp [World.cell?, H65.out.2, actL]
        have z5 : w5.cell? ⟨wr.heap.size, 5, none⟩ = some (.int .u64 (x.epoch : Int)) := by simp [World.cell?, H65.out.2, actL]
        have z6 : w5.cell? ⟨wr.heap.size, 6, none⟩ = some (.bool x.reads) := by simp [World.cell?, H65.out.2, actL]
        have z7 : w5.cell? ⟨wr.heap.size, 7, none⟩ = some (.string x.text) := by simp [World.cell?, H65.out.2, actL]
        clear HEP1 HLD1 HLOG q0 q1 q2 q3 q4 q5 q6 q7
        go_wp2_with fail
        refine HDOC.out.mono ?_
        rintro e w6 ⟨tv, R6, rfl, row6, tin6, nd6, gr6⟩
        obtain ⟨y6, d6, hf6, _⟩ := id row6
        subst hf6
        obtain ⟨t, ht⟩ : ∃ t, t = (doL ss x).2 := ⟨_, rfl⟩
        rw [← ht] at row6 tin6 HRUN ⊢
        rw [HDO1.out] at nd6
        have hs7 : (ss.set (ofI x.node) s')[ofI x.node]? = some s' := List.getElem?_set_self (by omega)
        obtain ⟨R7, fr7, g7, r7⟩ := (FR5.out.grows nd6 gr6).below ((Below.refl _ _).alloc (Nat.le_refl _) (.cells #[.int .i64 t.err, .int .u64 (t.epoch : Int), .int .u64 (t.place : Int), .slice y6 t.texts.length d6, .bool t.is, .int .i64 (t.many : Int)] 57))
        have h67 := (gr6.block H65.out.1 (heap_lt H65.out.2)).trans H65.out.2
        have hl67 := heap_lt h67
        obtain ⟨w7, hw7⟩ : ∃ w7, w7 = w6.alloc (.cells #[.int .i64 t.err, .int .u64 (t.epoch : Int), .int .u64 (t.place : Int), .slice y6 t.texts.length d6, .bool t.is, .int .i64 (t.many : Int)] 57) := ⟨_, rfl⟩
        have IN7 := Lib.hid (And.intro (g7.2 _ (gr6.2 _ H65.out.1)) (r7 w6.heap.size (Nat.le_refl _) (by simp)))
        have h77 : w7.heap[w6.heap.size]? = some (Obj.cells #[.int .i64 t.err, .int .u64 (t.epoch : Int), .int .u64 (t.place : Int), .slice y6 t.texts.length d6, .bool t.is, .int .i64 (t.many : Int)] 57 (0, 0)) := by rw [hw7]; exact heap_alloc_new _ _
        rw [← hw7] at fr7 g7
        have HG67 := Lib.hid (gr6.trans g7)
        have hsz56 := gr6.size
        have h67' := (g7.block (gr6.2 _ H65.out.1) hl67).trans h67
        have ROW7 := Lib.hid (And.intro (RowAt.grows HG67.out RW5.out.1 fun k e => (RW5.out.2 k e).1) (fun k e => And.intro (HG67.out.2 k (RW5.out.2 k e).1) (RW5.out.2 k e).2))
        have TX7 := Lib.hid (And.intro (StrRow.grows g7 row6 tin6) (fun k e => g7.2 k (tin6 k e)))
        obtain ⟨L7, nL7⟩ := nodes_at fr7.nodes HS.out.2 hs7
        have HLOG7 := Lib.hid (log_calls w7 c L7 s' nL7)
        have NL7 := Lib.hid nL7
        have FR7 := Lib.hid fr7
        have H77 := Lib.hid (And.intro h67' h77)
        have hlog7 := nL7.fine.log
        have HW7 := Lib.hid hw7
        have HT := Lib.hid ht
        clear z0 z1 z2 z3 z4 z5 z6 z7 HDOC row6 tin6 nd6 gr6 g7 r7 h67 h67' hl67 h77 hw7 ht hs7 fr7 nL7 IN6
        unfold toldV
        go_wp2_with fail
        rw [← HW7.out]
        refine HLOG7.out.mono ?_
        rintro e w8 ⟨v8, rfl, ho8, hb8⟩
        obtain ⟨a8, d8, hv8⟩ := own_len ho8
        subst hv8
        have HEP8 := Lib.hid (epoch_calls w8 c L7 s' (NL7.out.below hb8))
        have B8 := Lib.hid hb8
        have OW8 := Lib.hid ho8
        have b14 : decide (s'.epoch < s.epoch) = false := by have := HEPL.out; simp; omega
        have z0 : w8.cell? ⟨wr.heap.size, 0, none⟩ = some (.int .i64 x.act) := (hb8.cell (p := ⟨wr.heap.size, 0, none⟩) (heap_lt H77.out.1)).trans (by simp [World.cell?, H77.out.1, actL])
        clear hb8 ho8 HW7
        by_cases ha : x.act = 0
        · have ha' : (x.act == 0) = true := by simpa using ha
          obtain ⟨hs', ht2⟩ := HRUN.out ha
          obtain ⟨r, hr⟩ : ∃ r, r = s.run x.conn x.epoch x.reads x.bytes := ⟨_, rfl⟩
          have F := Lib.hid (run_fact s x.conn x.epoch x.reads x.bytes)
          rw [← hr] at hs' ht2 F
          have he : s'.epoch = s.epoch := by rw [hs']; exact F.out.epoch_
          have hle : s'.leads = s.leads := by rw [hs']; exact F.out.leads_
          have hadd := F.out.log_
          rw [← hs'] at hadd
          obtain ⟨add, hadd1, hadd2, hadd3⟩ := hadd
          have hladd : s'.log.length = s.log.length + add.length := by rw [hadd1, List.length_append]
          obtain ⟨R8, fr8, g8, r8⟩ := FR7.out.below B8.out
          have HCLS := Lib.hid (cls_calls fr8.nodes fr8.cls x.bytes (by rw [bytes_len]; exact HXX.out.2) m ((fr8.cell0 h00).trans HM.out))
          rw [ba_bytes] at HCLS
          have hclt : cl < wr.heap.size := by
            obtain ⟨mo, h1, _⟩ := FR.out.cls
            obtain ⟨cur, ho⟩ := cls_obj h1
            exact heap_lt ho
          have h48 : wr.heap.size ≤ w4.heap.size := by have := heap_lt H6.out; omega
          have h67s : wr.heap.size ≤ w6.heap.size ∧ w6.heap.size < w7.heap.size ∧ wr.heap.size < w7.heap.size := by have h1 := heap_lt H77.out.2; have h2 := heap_lt H77.out.1; have h3 := FR5.out.bel.size; have h4 := heap_lt H65.out.2; have h5 := HG67.out.size; have h6 := hsz56; omega
          have hsz8 := B8.out.size
          have ROW8 := Lib.hid (RowAt.below ROW7.out.1 B8.out (Nat.le_refl _))
          have H88 := Lib.hid (And.intro ((B8.out.block wr.heap.size h67s.2.2).trans H77.out.1) ((B8.out.block w6.heap.size h67s.2.1).trans H77.out.2))
          have z7 : w8.cell? ⟨wr.heap.size, 7, none⟩ = some (.string x.text) := by simp [World.cell?, H88.out.1, actL]
          have FR8 := Lib.hid fr8
          have HTT := Lib.hid ht2
          have HADD := Lib.hid (And.intro hadd1 (And.intro hadd2 hadd3))
          have HE8 := Lib.hid he
          have HL8 := Lib.hid hle
          clear ha hr hs' ht2 hadd1 hadd2 hadd3 fr8 g8 r8 he hle
          go_wp2_with fail
          refine HEP8.out.mono ?_
          rintro e w' ⟨rfl, rfl⟩
          go_wp2_with fail
          refine HCLS.out.mono ?_
          rintro e w9 ⟨rfl, R9, n9, c9, rs9, k9⟩
          have FR9 := Lib.hid (FR8.out.cls_turn n9 c9 rs9 k9)
          have h99 := And.intro ((k9.block wr.heap.size (by omega) (by omega)).trans H88.out.1) ((k9.block w6.heap.size (by omega) (by omega)).trans H88.out.2)
          have H99 := Lib.hid h99
          have OW9 := Lib.hid (own_by OW8.out fun k e => k9.block k (OW8.out.lt k e).2 (by have := (OW8.out.lt k e).1; omega))
          have ROW9 : Hid (RowAt w9 (.slice a5 s.log.length d5) s.log.length (enCells s.log)) := by
            have h1 := ROW8.out
            have h2 := ROW7.out.2
            obtain ⟨a, c', e, p1, p2, p3⟩ := h1
            refine ⟨a, c', e, p1, p2, fun h0 => ?_⟩
            obtain ⟨g', off', cur, T, fz, e1, e2, e3⟩ := p3 h0
            rw [e, e1] at h2
            exact ⟨g', off', cur, T, fz, e1, (k9.block g' (heap_lt e2) (by have := (h2 g' rfl).2; omega)).trans e2, e3⟩
          obtain ⟨L9, nL9⟩ := nodes_at FR9.out.nodes HS.out.2 (s := s') (List.getElem?_set_self (by omega))
          have HEP9 := Lib.hid (epoch_calls w9 c L9 s' nL9)
          have HLD9 := Lib.hid (leads_calls w9 c L9 s' nL9)
          rw [HE8.out] at HEP9
          rw [HL8.out] at HLD9
          have own9 := own_mono OW9.out (Nat.zero_le _)
          obtain ⟨pa, pc, hp1, hp2, hp3⟩ := cut_to own9 s.log.length (by omega)
          obtain ⟨qa, qc, hq1, hq2, hq3⟩ := cut_from own9 s.log.length (by omega)
          have htk : s'.log.take s.log.length = s.log := by rw [HADD.out.1, List.take_left]
          have hdr : s'.log.drop s.log.length = add := by rw [HADD.out.1, List.drop_left]
          have hsub : s.log.length + add.length - s.log.length = add.length := by omega
          rw [htk] at hp2
          rw [hdr, hladd, hsub] at hq2
          rw [hladd] at hp1 hq1
          rw [hsub] at hq1
          have HENT := Lib.hid (entries_calls _ s.log w9 hp2 (by omega))
          have HQ := Lib.hid hq2
          have HNE : Hid (List.length s'.log ≤ 200) := hlog7
          have hc14 : decide (s.log.length + add.length < s.log.length) = false := by simp
          clear z0 z7 n9 c9 rs9 k9 nL9 h99 b14 ha' own9 htk hdr hp2 hq2 hp3 hq3
          go_wp2_with fail
          refine HEP9.out.mono ?_
          rintro e w' ⟨rfl, rfl⟩
          go_wp2_with fail
          refine HLD9.out.mono ?_
          rintro e w' ⟨rfl, rfl⟩
          go_wp2_with fail
          refine HENT.out.mono ?_
          rintro e w10 ⟨v10, rfl, ho10, hb10⟩
          obtain ⟨a10, d10, hv10⟩ := own_len ho10
          subst hv10
          have B10 := Lib.hid hb10
          have HO10 := Lib.hid (own_rowAt ho10)
          have HENT2 := Lib.hid (entries_calls _ s.log w10 (RowAt.below ROW9.out hb10 (Nat.le_refl _)) (by omega))
          clear ho10 hb10
          go_wp2_with fail
          refine HENT2.out.mono ?_
          rintro e w11 ⟨v11, rfl, ho11, hb11⟩
          obtain ⟨a11, d11, hv11⟩ := own_len ho11
          subst hv11
          have B11 := Lib.hid (B10.out.trans (hb11.mono B10.out.size))
          have HSAME := Lib.hid (same_calls _ _ s.log w11 (RowAt.below HO10.out hb11 (Nat.le_refl _)) (own_rowAt ho11) (by omega))
          clear ho11 hb11
          go_wp2_with fail
          refine HSAME.out.mono ?_
          rintro e w12 ⟨rfl, hb12⟩
          have B12 := Lib.hid (B11.out.trans (hb12.mono B11.out.size))
          have ht2 := HTT.out
          have FACT : ∀ w', Below w9.heap.size w9 w' → w'.heap[wr.heap.size]? = some (Obj.cells (actL x).toArray 54) ∧ w'.heap[w6.heap.size]? = some (Obj.cells #[.int .i64 r.err, .int .u64 (s.epoch : Int), .int .u64 (s.log.length + add.length : Nat), .slice y6 r.texts.length d6, .bool false, .int .i64 0] 57 (0, 0)) := fun w' hb => by
            refine ⟨(hb.block _ (heap_lt H99.out.1)).trans H99.out.1, (hb.block _ (heap_lt H99.out.2)).trans ?_⟩
            rw [H99.out.2, ht2, ← HE8.out, ← hladd]; rfl
          have HFACT := Lib.hid FACT
          have f12 := FACT w12 B12.out
          have zt0 : w12.cell? ⟨w6.heap.size, 0, none⟩ = some (.int .i64 r.err) := by simp [World.cell?, f12.2]
          have zt1 : w12.cell? ⟨w6.heap.size, 1, none⟩ = some (.int .u64 (s.epoch : Int)) := by simp [World.cell?, f12.2]
          have zt2 : w12.cell? ⟨w6.heap.size, 2, none⟩ = some (.int .u64 ((s.log.length : Int) + (add.length : Int))) := by simp [World.cell?, f12.2]
          have z5 : w12.cell? ⟨wr.heap.size, 5, none⟩ = some (.int .u64 (x.epoch : Int)) := by simp [World.cell?, f12.1, actL]
          have z6 : w12.cell? ⟨wr.heap.size, 6, none⟩ = some (.bool x.reads) := by simp [World.cell?, f12.1, actL]
          clear hb12 ht2 FACT f12
          by_cases had : add = []
          · have hal : add.length = 0 := by rw [had]; rfl
            have HAD := Lib.hid had
            clear had
            rw [hal, Nat.add_zero] at hp1 hq1
            go_wp2
            clear hal
            clear zt0 zt1 zt2 z5 z6
            obtain ⟨wq, rfl⟩ : ∃ a, a = wr := ⟨_, rfl⟩
            obtain ⟨zz, hzz⟩ : ∃ z : Nat, z = 0 := ⟨0, rfl⟩
            go_loopg [138] zz (fun n v wz => ∃ j : Nat, n + j = zz ∧ v = .int .i64 j ∧ Below w9.heap.size w9 wz)
            case atStart => exact ⟨0, by omega, rfl, B12.out⟩
            case round =>
              obtain ⟨j, hj, rfl, hbz⟩ := hrel
              obtain rfl : j = 0 := by omega
              have BZ := Lib.hid hbz
              have fz := HFACT.out _ hbz
              have zt0 : wr.cell? ⟨w6.heap.size, 0, none⟩ = some (.int .i64 r.err) := by simp [World.cell?, fz.2]
              have zt3 : wr.cell? ⟨w6.heap.size, 3, none⟩ = some (.slice y6 r.texts.length d6) := by simp [World.cell?, fz.2]
              have z5 : wr.cell? ⟨wq.heap.size, 5, none⟩ = some (.int .u64 (x.epoch : Int)) := by simp [World.cell?, fz.1, actL]
              have z6 : wr.cell? ⟨wq.heap.size, 6, none⟩ = some (.bool x.reads) := by simp [World.cell?, fz.1, actL]
              clear hbz fz
              rcases Bool.eq_false_or_eq_true s.leads with hL | hL
              · go_wp2
                all_goals first
                  | exact absurd (F.out.stale (by omega)) (by assumption)
                  | exact absurd (F.out.texts_ (fun e => by have hz : r.texts.length = 0 := by { rw [e]; rfl }; omega)) (by assumption)
                  | exact absurd (by assumption) (bne_no (F.out.texts_ (fun e => by have hz : r.texts.length = 0 := by { rw [e]; rfl }; omega)))
                  | exact absurd (by assumption) (F.out.state (by assumption) (by assumption))
                  | exact absurd (by assumption) (or_no (F.out.state (by assumption) (by assumption)) (F.out.texts_ (fun e => by have hz : r.texts.length = 0 := by { rw [e]; rfl }; omega)))
                  | exact absurd (eq_of_beq (by assumption)) (F.out.state (by assumption) (by assumption))
                  | (go_roundg (l.length - (k + 1))
                     case measure => omega
                     case rel =>
                       obtain ⟨Rz, frz, gz, rz⟩ := FR9.out.below BZ.out
                       exact ⟨k + 1, Rz, _, by omega, by go_num, frz⟩)
              · rcases Bool.eq_false_or_eq_true x.reads with hR | hR
                · rw [hR] at z6
                  go_wp2
                  all_goals first
                    | exact absurd (F.out.stale (by omega)) (by assumption)
                    | exact absurd (F.out.texts_ (fun e => by have hz : r.texts.length = 0 := by { rw [e]; rfl }; omega)) (by assumption)
                    | exact absurd (by assumption) (bne_no (F.out.texts_ (fun e => by have hz : r.texts.length = 0 := by { rw [e]; rfl }; omega)))
                    | exact absurd (by assumption) (F.out.state (by assumption) (by assumption))
                    | exact absurd (by assumption) (or_no (F.out.state (by assumption) (by assumption)) (F.out.texts_ (fun e => by have hz : r.texts.length = 0 := by { rw [e]; rfl }; omega)))
                    | exact absurd (eq_of_beq (by assumption)) (F.out.state (by assumption) (by assumption))
                    | (go_roundg (l.length - (k + 1))
                       case measure => omega
                       case rel =>
                         obtain ⟨Rz, frz, gz, rz⟩ := FR9.out.below BZ.out
                         exact ⟨k + 1, Rz, _, by omega, by go_num, frz⟩)
                · rw [hR] at z6
                  go_wp2
                  all_goals first
                    | exact absurd (F.out.stale (by omega)) (by assumption)
                    | exact absurd (F.out.texts_ (fun e => by have hz : r.texts.length = 0 := by { rw [e]; rfl }; omega)) (by assumption)
                    | exact absurd (by assumption) (bne_no (F.out.texts_ (fun e => by have hz : r.texts.length = 0 := by { rw [e]; rfl }; omega)))
                    | exact absurd (by assumption) (F.out.state (by assumption) (by assumption))
                    | exact absurd (by assumption) (or_no (F.out.state (by assumption) (by assumption)) (F.out.texts_ (fun e => by have hz : r.texts.length = 0 := by { rw [e]; rfl }; omega)))
                    | exact absurd (eq_of_beq (by assumption)) (F.out.state (by assumption) (by assumption))
                    | (go_roundg (l.length - (k + 1))
                       case measure => omega
                       case rel =>
                         obtain ⟨Rz, frz, gz, rz⟩ := FR9.out.below BZ.out
                         exact ⟨k + 1, Rz, _, by omega, by go_num, frz⟩)
          · have h20 : decide (0 < add.length) = true := by cases add with | nil => exact absurd rfl had | cons => simp
            have h21 : decide (s.log.length < s.log.length + add.length) = true := by simp at h20 ⊢; exact h20
            have h22 : 0 < add.length := by simpa using h20
            have h23 : decide ((0 : Int) < (add.length : Int)) = true := by simpa using h22
            have h24 : decide ((s.log.length : Int) < (s.log.length : Int) + (add.length : Int)) = true := by simp; omega
            obtain ⟨r0, e1, l1, rd, c1, c0, tx⟩ := HADD.out.2.2 had
            have b1 : (clsL x.bytes == 1) = false := by simpa using c1
            have b2 : (clsL x.bytes == 0) = false := by simpa using c0
            have HAD := Lib.hid (And.intro r0 (And.intro e1 (And.intro rd tx)))
            rw [e1] at z5
            rw [r0] at zt0
            rw [rd] at z6
            clear had r0 e1 rd tx
            go_wp2
            clear h20 h21 h22 h23 h24 b1 b2 c1 c0
            clear zt0 zt1 zt2 z5 z6
            obtain ⟨wq, rfl⟩ : ∃ a, a = wr := ⟨_, rfl⟩
            go_loopg [138] add.length (fun n v wz => ∃ j : Nat, n + j = add.length ∧ v = .int .i64 j ∧ Below w9.heap.size w9 wz)
            case atStart => exact ⟨0, by omega, rfl, B12.out⟩
            case round =>
              obtain ⟨j, hj, rfl, hbz⟩ := hrel
              have BZ := Lib.hid hbz
              have fz := HFACT.out _ hbz
              by_cases hlt2 : j < add.length
              · obtain ⟨e1, he1⟩ : ∃ e1, add[j]? = some e1 := ⟨add[j], List.getElem?_eq_getElem hlt2⟩
                have hee := HADD.out.2.1 e1 (List.mem_of_getElem? he1)
                obtain ⟨g1, o1, cp1, hv1, hc11, hc12, hg1, hcell1⟩ := RowAt.cells (RowAt.below HQ.out hbz (Nat.le_refl _)) (by omega)
                have q10 := hcell1 _ _ (enCells_at add j e1 he1).1
                have q11 := hcell1 _ _ (enCells_at add j e1 he1).2
                rw [← Nat.add_assoc] at q11
                cases hv1
                rw [hee] at q10
                unfold maxLen at hc12
                clear hbz fz hcell1 he1 hee
                go_wp2
                go_roundg (add.length - (j + 1))
                case measure => omega
                case rel => exact ⟨j + 1, by omega, by go_num, BZ.out.alloc BZ.out.size _⟩
              · have zt0 : wr.cell? ⟨w6.heap.size, 0, none⟩ = some (.int .i64 r.err) := by simp [World.cell?, fz.2]
                have zt3 : wr.cell? ⟨w6.heap.size, 3, none⟩ = some (.slice y6 r.texts.length d6) := by simp [World.cell?, fz.2]
                have z5 : wr.cell? ⟨wq.heap.size, 5, none⟩ = some (.int .u64 (x.epoch : Int)) := by simp [World.cell?, fz.1, actL]
                have z6 : wr.cell? ⟨wq.heap.size, 6, none⟩ = some (.bool x.reads) := by simp [World.cell?, fz.1, actL]
                clear hbz fz
                obtain ⟨r0, e1, rd, tx⟩ := HAD.out
                have b1 : ((x.epoch : Int) == (s.epoch : Int)) = true := by simp [e1]
                have b2 : (x.epoch == s.epoch) = true := by simp [e1]
                have b3 : decide (x.epoch = s.epoch) = true := by simp [e1]
                rw [e1] at z5
                rw [r0] at zt0
                rw [rd] at z6
                rw [tx] at zt3
                clear e1 r0 rd tx
                go_wp2
                go_roundg (l.length - (k + 1))
                case measure => omega
                case rel =>
                  obtain ⟨Rz, frz, gz, rz⟩ := FR9.out.below BZ.out
                  exact ⟨k + 1, Rz, _, by omega, by go_num, frz⟩
        · have ha' : (x.act == 0) = false := by simpa using ha
          have HACT := Lib.hid ha
          clear ha
          go_wp2_with fail
          refine HEP8.out.mono ?_
          rintro e w' ⟨rfl, rfl⟩
          go_wp2
          go_roundg (l.length - (k + 1))
          case measure => omega
          case rel =>
            obtain ⟨R8, fr8, g8, r8⟩ := FR7.out.below B8.out
            exact ⟨k + 1, R8, _, by omega, by go_num, fr8⟩
      · have FR2 := Lib.hid FR.out.bel
        go_wp2
        go_ret
        exact ⟨rfl, FR2.out⟩
end Go.Proofs.YtpaioaljopjpkaaGreatDoor
