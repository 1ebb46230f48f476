/- slices.Clone, Grow and Concat of entries; a node's Log; New. Conditions: at most 1000 entries. -/
import Derived.Test.YtpaioaljopjpkaaGreatDoorNodeJ
import Derived.Lib.AppendZeros
set_option linter.unusedVariables false
set_option linter.unusedSimpArgs false
namespace Go.Proofs.YtpaioaljopjpkaaGreatDoor
open Go.RowKit

set_option maxRecDepth 100000 in
set_option maxHeartbeats 4000000 in
theorem clone66_calls (v : Value) (n : Nat) (xs : List Value) (w : World) (hv : RowAt w v n xs) (hnil : ∀ n c, v = .slice none n c → n = 0) (hxl : xs.length = n * 2) (h1 : OneC xs) (hn : n ≤ 10000) :
    Calls Tryz.prog 66 #[v] w fun e w' => ∃ v', e = .returned v' ∧ w'.ownsRow w.heap.size 73 2 v' n xs ∧ Below w.heap.size w w' := by
  obtain ⟨i0, hi, hz0, hz1, hz2⟩ := info73_parts
  have q43 : ∀ (w : World) (a : Option Addr) (n c n' c' : Nat), (binOp .eql 43 (.slice a n c) (.slice none n' c')).run Tryz.prog w = .ok (.bool a.isNone) w := fun w a n c n' c' => Lib.run_eql_slice_nil w _ _ a n c n' c' Tryz.underlying43
  obtain ⟨a, c, rfl, hc1, hc2, hc3⟩ := hv
  cases a with
  | none =>
    obtain rfl := hnil n c rfl
    have hx : xs = [] := List.eq_nil_of_length_eq_zero (by simpa using hxl)
    subst hx
    go_enter Tryz.func66, Tryz.ntmps66
    go_wp2
    go_ret
    exact ⟨_, rfl, World.ownsRow_nil _ _ _ _, Below.refl _ _⟩
  | some a =>
    have HL := Lib.hid hxl
    have H1 := Lib.hid h1
    have HC := Lib.hid hc3
    clear hc3 hxl h1 hnil
    go_enter Tryz.func66, Tryz.ntmps66
    go_wp2_with (at_builtin; refine wpList_append_own _ rfl _ _ 43 rfl w.heap.size 73 i0 _ 2 24 Tryz.underlying43 hi hz0 hz1 hz2 rfl (by decide) _ _ _ rfl (World.ownsRow_made w #[] 0 (Nat.le_refl _) (Nat.zero_le _) rfl) a n c xs rfl HL.out ?qc2 H1.out ?qc4 ?qc5 ?qc6 ?_)
    case qc2 =>
      intro j u hj
      have hj2 := (List.getElem?_eq_some_iff.1 hj).1
      rw [HL.out] at hj2
      obtain ⟨g, off, cur, T, fz, ha, hg, hcc⟩ := HC.out (by omega)
      cases ha
      rw [Addr.add_lit]
      refine Lib.cell?_alloc_some _ ?_
      simp only [World.cell?, hg]
      exact hcc j u hj
    case qc4 => unfold maxLen; omega
    case qc5 => omega
    case qc6 => simp
    intro v' w1 hown hgrow hnil
    go_wp2
    go_ret
    refine ⟨v', rfl, by simpa using hown, ?_⟩
    exact ((Below.refl _ w).alloc (Nat.le_refl _) _).grown hgrow (by simp) (by intro k hk; simp [Value.ownBlock] at hk; omega)

theorem wpList_append_run {P : Program} {ops : Array Oper} {rest : List Oper} {o : Oper} {a : Act} {w : World} {Q : Exit → Act → World → Prop} (hgd : o.guard = none) (d x : Operand) (dT sT : TypeId) (hop : o.op = Op.call { callee := Callee.builtin Builtin.append, args := #[d, x], argTypes := #[dT, sT] })
    (v u : Value) (hd : a.eval d = v) (hx : a.eval x = u) {v' : Value} {w' : World} (hr : (Builtin.append_ #[dT, sT] o.type #[v, u]).run P w = .ok v' w') (h : wpList P ops Q rest (a.put o.dst v') w') : wpList P ops Q (o :: rest) a w :=
  wpList_plain hgd fun _ hK => by
    unfold Oper.wp execOp
    simp only [hop, resolve, invoke, builtin, Sem.run_bind, Sem.run_pure, Result.andThen_ok, List.map_toArray, List.map_cons, List.map_nil, hd, hx, hr]
    exact hK _ _ h

/-- a log, handed out. -/
def LogPost (w : World) (l : List En) (e : Ending) (w' : World) : Prop := ∃ v', e = .returned v' ∧ w'.ownsRow w.heap.size 73 2 v' l.length (enCells l) ∧ Below w.heap.size w w'
set_option maxRecDepth 100000 in
theorem log_calls (w : World) (c : Nat) (L : NodeL) (s : NodeS) (h : NodeAt w c L s) : Calls Tryz.prog 24 #[.pointer (some ⟨c, 0, none⟩)] w (LogPost w s.log) := by
  have c2 := h.cell2
  have HC := Lib.hid (clone66_calls L.lv s.log.length (enCells s.log) w (own_rowAt h.hlog) (own_nil h.hlog) (enCells_len _) (enCells_one _) (by have := h.fine.log; omega))
  obtain ⟨al, cl, hlv, hcl1, hcl2⟩ := own_len2 h.hlog
  rw [hlv] at c2 HC
  clear h hlv
  go_enter Tryz.func24, Tryz.ntmps24
  go_wp2_with (go_at_call 66; refine HC.out.mono ?_; rintro e w1 ⟨v1, rfl, h1, h2⟩)
  go_ret
  exact ⟨_, rfl, h1, h2⟩

set_option maxRecDepth 100000 in
theorem grow_calls (n : Nat) (hn : n ≤ 1000) (w : World) :
    Calls Tryz.prog 105 #[.slice none 0 0, .int .i64 n] w fun e w' => ∃ v', e = .returned v' ∧ w'.ownsRow w.heap.size 73 2 v' 0 [] ∧ Below w.heap.size w w' := by
  obtain ⟨i0, hi, hz0, hz1, hz2⟩ := info73_parts
  have h1 : ¬ ((n : Int) < 0) := by omega
  by_cases h0 : n = 0
  · subst h0
    go_enter Tryz.func105, Tryz.ntmps105
    go_wp2
    go_ret
    exact ⟨_, rfl, World.ownsRow_nil _ _ _ _, Below.refl _ _⟩
  · have h4 : (0 : Int) < (n : Int) := by omega
    have hap := Lib.run_append_nil_zeros (P := Tryz.prog) w 43 3 43 73 i0 _ .i64 .i64 Tryz.underlying43 Tryz.underlying3 hi hz0 n (by omega) (by rw [hz1]; decide) (by omega) (by rw [hz2]; omega)
    have hge := grownCap_ge w n 0 73
    have hle := grownCap_le_maxLen w n 0 73 (by unfold maxLen; omega)
    obtain ⟨G, hG⟩ : ∃ G, G = grownCap w n 0 73 := ⟨_, rfl⟩
    rw [← hG] at hap hge hle
    have HO : Hid ((w.drew.alloc (.cells (Builtin.zeroCells (Value.agg #[.int .u64 0, .string ⟨#[]⟩]).cells n ++ Builtin.zeroCells (Value.agg #[.int .u64 0, .string ⟨#[]⟩]).cells (G - n)) 73)).ownsRow w.heap.size 73 2 (.slice (some ⟨w.heap.size, 0, none⟩) 0 G) 0 []) := by
      have := World.ownsRow_made (base := w.heap.size) (e := 73) (size := 2) w.drew (Builtin.zeroCells (Value.agg #[.int .u64 0, .string ⟨#[]⟩]).cells n ++ Builtin.zeroCells (Value.agg #[.int .u64 0, .string ⟨#[]⟩]).cells (G - n)) G (Nat.le_refl _) hle (by
        rw [Array.size_append, size_zeroCells, size_zeroCells]
        have e : (Value.agg #[.int .u64 0, .string ⟨#[]⟩]).cells.size = 2 := rfl
        rw [e, ← Nat.add_mul]; congr 1; omega)
      exact this
    unfold maxLen at hle
    have HAP := Lib.hid hap
    clear hG hap
    go_enter Tryz.func105, Tryz.ntmps105
    go_wp2_with (at_builtin; refine wpList_append_run rfl _ _ 43 3 rfl (.slice none 0 0) (.int .i64 n) rfl rfl HAP.out ?_)
    go_ret
    exact ⟨_, rfl, HO.out, (Below.refl _ _).drew.alloc (Nat.le_refl _) _⟩

theorem append_of_nil {w : World} {base size : Nat} {e : TypeId} {t ty : TypeId} {i : TypeInfo} (ht : Tryz.prog.underlying t = some (.slice e)) (hi : Tryz.prog.info? e = some i)
    {v : Value} {n : Nat} {xs : List Value} (hown : w.ownsRow base e size v n xs) (c : Nat) : (Builtin.append_ #[t, t] ty #[v, .slice none 0 c]).run Tryz.prog w = .ok v w := by
  rcases hown.2 with ⟨rfl, rfl⟩ | ⟨g, cap, cur, rfl, _, _, hnc, _⟩
  · simp [Builtin.append_, run_underlying ht, sizeOf, typeInfo, hi, Builtin.lenOf, Builtin.firstCells]
  · simp [Builtin.append_, run_underlying ht, sizeOf, typeInfo, hi, Builtin.lenOf, Builtin.firstCells, hnc, storeCells]
/-- append of a row of entries, nil or not, to a row of one's own. -/
theorem append_row {w : World} {B : Nat} {v : Value} {n : Nat} {xs : List Value} (hown : w.ownsRow B 73 2 v n xs) {a : Option Addr} {m c : Nat} {news : List Value} (hu : RowAt w (.slice a m c) m news) (hnil : a = none → m = 0) (hl : news.length = m * 2) (h1 : OneC news) (h : n + m ≤ 10000) (hB : B ≤ w.heap.size) :
    ∃ v' w', (Builtin.append_ #[43, 43] 43 #[v, .slice a m c]).run Tryz.prog w = .ok v' w' ∧ w'.ownsRow B 73 2 v' (n + m) (xs ++ news) ∧ w.grownBy w' v.ownBlock := by
  obtain ⟨i0, hi, hz0, hz1, hz2⟩ := info73_parts
  cases a with
  | none =>
    obtain rfl := hnil rfl
    have hx : news = [] := List.eq_nil_of_length_eq_zero (by simpa using hl)
    subst hx
    exact ⟨v, w, append_of_nil Tryz.underlying43 hi hown c, by simpa using hown, ⟨rfl, rfl, rfl, Nat.le_refl _, fun _ _ _ => rfl⟩⟩
  | some ad =>
    have hcells : ∀ j u, news[j]? = some u → w.cell? (ad.add j) = some u := fun j u hj => by
      have hj2 := (List.getElem?_eq_some_iff.1 hj).1
      rw [hl] at hj2
      obtain ⟨a', c', e, _, _, h3⟩ := hu
      cases e
      obtain ⟨g, off, cur, T, fz, ha, hg, hcc⟩ := h3 (by omega)
      cases ha
      rw [Addr.add_lit]
      simp only [World.cell?, hg]
      exact hcc j u hj
    obtain ⟨v', w', h3, h4, h5, _⟩ := run_append_own_at (P := Tryz.prog) w B 43 43 73 i0 _ 2 24 Tryz.underlying43 hi hz0 hz1 hz2 rfl (by decide) v n xs hown ad m c news hl hcells h1 (by unfold maxLen; omega) (by omega) hB
    exact ⟨v', w', h3, h4, h5⟩

set_option maxRecDepth 100000 in
set_option maxHeartbeats 4000000 in
theorem concat_calls (w : World) (g : Nat) (a b : Option Addr) (n c m d : Nat) (xs ys : List Value) (h0 : w.cell? ⟨g, 0, none⟩ = some (.slice a n c)) (h1 : w.cell? ⟨g, 1, none⟩ = some (.slice b m d))
    (hx : RowAt w (.slice a n c) n xs) (hxn : a = none → n = 0) (hxl : xs.length = n * 2) (hx1 : OneC xs) (hy : RowAt w (.slice b m d) m ys) (hyn : b = none → m = 0) (hyl : ys.length = m * 2) (hy1 : OneC ys) (hn : n ≤ 400) (hm : m ≤ 400) :
    Calls Tryz.prog 73 #[.slice (some ⟨g, 0, none⟩) 2 2] w fun e w' => ∃ v', e = .returned v' ∧ w'.ownsRow w.heap.size 73 2 v' (n + m) (xs ++ ys) ∧ Below w.heap.size w w' := by
  have hg := World.block_lt_of_cell? w _ h0
  have HG := Lib.hid (grow_calls (n + m) (by omega) w)
  have HX := Lib.hid hx
  have HY := Lib.hid hy
  have HXN := Lib.hid hxn
  have HYN := Lib.hid hyn
  have HX1 := Lib.hid (And.intro hxl hx1)
  have HY1 := Lib.hid (And.intro hyl hy1)
  have H0 := Lib.hid h0
  have H1 := Lib.hid h1
  clear hx hy hxn hyn hxl hx1 hyl hy1
  go_enter Tryz.func73, Tryz.ntmps73
  go_wp2
  go_loopg [3, 11] 2 (fun r v3 vi wr => ∃ k : Nat, r + k = 2 ∧ wr = w ∧ vi = .int .i64 k ∧ v3 = .int .i64 (if k = 0 then 0 else if k = 1 then (n : Int) else (n : Int) + (m : Int)))
  case atStart => exact ⟨0, rfl, rfl, rfl, rfl⟩
  case round =>
    obtain ⟨k, hk, rfl, rfl, rfl⟩ := hrel
    have hkc : k = 0 ∨ k = 1 ∨ k = 2 := by omega
    rcases hkc with rfl | rfl | rfl
    · simp only [if_true]
      go_wp2
      go_roundg 1
      case measure => omega
      case rel => exact ⟨1, rfl, rfl, rfl, by simp⟩
    · simp only [Nat.one_ne_zero, if_false, if_true]
      have hno : ¬ ((n : Int) + (m : Int) < 0) := by omega
      go_wp2
      go_roundg 0
      case measure => omega
      case rel => exact ⟨2, rfl, rfl, rfl, by simp⟩
    · simp only [show ((2 : Nat) = 0) = False by simp, show ((2 : Nat) = 1) = False by simp, if_false]
      have hcast : ((n + m : Nat) : Int) = (n : Int) + (m : Int) := by omega
      rw [hcast] at HG
      clear h0 h1
      go_wp2_with (go_at_call 105; refine HG.out.mono ?_; rintro e w1 ⟨v1, rfl, ho1, hb1⟩; have HO1 := Lib.hid ho1; have HB1 := Lib.hid hb1; clear ho1 hb1)
      go_loopg [6, 27] 2 (fun r v6 vi wz => ∃ k : Nat, r + k = 2 ∧ vi = .int .i64 k ∧ Below wr.heap.size wr wz ∧ wz.ownsRow wr.heap.size 73 2 v6 (if k = 0 then 0 else if k = 1 then n else n + m) (if k = 0 then [] else if k = 1 then xs else xs ++ ys))
      case atStart => exact ⟨0, rfl, rfl, HB1.out, HO1.out⟩
      case round =>
        obtain ⟨k, hk2, rfl, hbz, hoz⟩ := hrel
        have hkc : k = 0 ∨ k = 1 ∨ k = 2 := by omega
        rcases hkc with rfl | rfl | rfl
        · simp only [if_true] at hoz
          have q0 := (hbz.cell (p := ⟨g, 0, none⟩) hg).trans H0.out
          obtain ⟨v', w', hap, ho', hgr⟩ := append_row hoz (HX.out.below hbz (Nat.le_refl _)) HXN.out HX1.out.1 HX1.out.2 (by omega) hbz.size
          obtain ⟨a6, c6, rfl⟩ := own_len hoz
          have HB' := Lib.hid (hbz.grown hgr hbz.size fun k e => (hoz.lt k e).1)
          have HO' := Lib.hid ho'
          have HAP := Lib.hid hap
          clear hbz hoz ho' hgr hap
          go_wp2_with (at_builtin; refine wpList_append_run rfl _ _ 43 43 rfl _ _ rfl rfl HAP.out ?_)
          go_roundg 1
          case measure => omega
          case rel => exact ⟨1, rfl, rfl, HB'.out, by simpa using HO'.out⟩
        · simp only [Nat.one_ne_zero, if_false, if_true] at hoz
          have q0 := (hbz.cell (p := ⟨g, 1, none⟩) hg).trans H1.out
          obtain ⟨v', w', hap, ho', hgr⟩ := append_row hoz (HY.out.below hbz (Nat.le_refl _)) HYN.out HY1.out.1 HY1.out.2 (by omega) hbz.size
          obtain ⟨a6, c6, rfl⟩ := own_len hoz
          have HB' := Lib.hid (hbz.grown hgr hbz.size fun k e => (hoz.lt k e).1)
          have HO' := Lib.hid ho'
          have HAP := Lib.hid hap
          clear hbz hoz ho' hgr hap
          go_wp2_with (at_builtin; refine wpList_append_run rfl _ _ 43 43 rfl _ _ rfl rfl HAP.out ?_)
          go_roundg 0
          case measure => omega
          case rel => exact ⟨2, rfl, rfl, HB'.out, by simpa using HO'.out⟩
        · simp only [show ((2 : Nat) = 0) = False by simp, show ((2 : Nat) = 1) = False by simp, if_false] at hoz
          have HO' := Lib.hid hoz
          have HB' := Lib.hid hbz
          clear hoz hbz
          go_wp2
          go_ret
          exact ⟨_, rfl, HO'.out, HB'.out⟩
end Go.Proofs.YtpaioaljopjpkaaGreatDoor
