/- The closure that fills a classer's map of rules, walked whole. Conditions: the classer's cells as they are laid. -/
import Derived.Test.YtpaioaljopjpkaaGreatDoorClsF
import Derived.Deep.RegionHeld3
import Derived.Deep.RegionLaw
set_option linter.unusedVariables false
set_option linter.unusedSimpArgs false
namespace Go.Proofs.YtpaioaljopjpkaaGreatDoor
open Go.RowKit

/-- behind some stores: the classer's cells, its map, what is kept. -/
structure Filled (w : World) (c mb : Nat) (x0 x1 x2 : Value) (S : Sg.B → Rule → Prop) (w' : World) : Prop where
  hc : w'.heap[c]? = some (.cells #[x0, x1, x2, .map (some mb)] 132 (0, 0))
  hmb : w.heap.size ≤ mb
  hm : ∃ es ck, w'.heap[mb]? = some (.map es ck) ∧ RulesIn w' es S
  hk : Keeps (· = c) w w'

theorem Filled.congr {w w' : World} {c mb : Nat} {x0 x1 x2 : Value} {S S' : Sg.B → Rule → Prop} (h : Filled w c mb x0 x1 x2 S w') (hS : ∀ k r, S' k r ↔ S k r) : Filled w c mb x0 x1 x2 S' w' :=
  ⟨h.hc, h.hmb, let ⟨es, ck, h1, h2⟩ := h.hm; ⟨es, ck, h1, h2.congr hS⟩, h.hk⟩
theorem Filled.alloc {w w' : World} {c mb : Nat} {x0 x1 x2 : Value} {S : Sg.B → Rule → Prop} (h : Filled w c mb x0 x1 x2 S w') (o : Obj) : Filled w c mb x0 x1 x2 S (w'.alloc o) := by
  obtain ⟨h1, h2, ⟨es, ck, h3, h4⟩, h5⟩ := h
  refine ⟨?_, h2, ⟨es, ck, ?_, h4.keep fun b n hb => box_alloc _ _ b n hb⟩, h5.alloc o⟩
  · rw [Below.heap_alloc _ _ _ (Array.getElem?_eq_some_iff.1 h1).1]; exact h1
  · rw [Below.heap_alloc _ _ _ (Array.getElem?_eq_some_iff.1 h3).1]; exact h3
theorem Filled.drew {w w' : World} {c mb : Nat} {x0 x1 x2 : Value} {S : Sg.B → Rule → Prop} (h : Filled w c mb x0 x1 x2 S w') : Filled w c mb x0 x1 x2 S w'.drew := by
  obtain ⟨h1, h2, ⟨es, ck, h3, h4⟩, h5⟩ := h
  exact ⟨h1, h2, ⟨es, ck, h3, h4⟩, h5.drew⟩
/-- one more rule, whose box is there. -/
theorem Filled.put {w w' : World} {c mb : Nat} {x0 x1 x2 : Value} {S S' : Sg.B → Rule → Prop} (h : Filled w c mb x0 x1 x2 S w') (k : Sg.B) (r : Rule) (v : Value) (hv : RuleV w' r v) (hn : ∀ r', ¬ S k r')
    (hS : ∀ k' r', S' k' r' ↔ (S k' r' ∨ (k' = k ∧ r' = r))) :
    ∃ w2, (Instr.mapUpdate 130 (.map (some mb)) (.string (ba k)) v).run Tryz.prog w' = .ok () w2 ∧ Filled w c mb x0 x1 x2 S' w2 ∧ w2.heap.size = w'.heap.size ∧ ∀ b, b ≠ mb → w2.heap[b]? = w'.heap[b]? := by
  obtain ⟨h1, h2, ⟨es, ck, h3, h4⟩, h5⟩ := h
  refine ⟨_, run_mapUpdate_new (P := Tryz.prog) (t := 130) Tryz.underlying130 Tryz.underlying9 (checkKey_string Tryz.underlying9 _ _) h3 (h4.new k hn), ⟨?_, h2, ⟨_, _, putObj_same _ _ _ (Array.getElem?_eq_some_iff.1 h3).1, (RulesIn.push h4 k r v ck hv hS).keep fun b n hb => box_put _ _ _ _ _ h3 b n hb⟩, h5.putObj (.inl h2) _⟩, putObj_size _ _ _, fun b hb => putObj_other _ _ _ _ hb⟩
  rw [putObj_other _ _ _ _ (fun e => by rw [e, h3] at h1; cases h1)]; exact h1

def S1 (k : Sg.B) (r : Rule) : Prop := (k, r) ∈ rules1
def S2 (n : Nat) (k : Sg.B) (r : Rule) : Prop := S1 k r ∨ (k ∈ rules2.take n ∧ r = .always 1)
def S3 (n : Nat) (k : Sg.B) (r : Rule) : Prop := S2 3 k r ∨ (k ∈ rules3.take n ∧ r = .always 2)
def S4 (n : Nat) (k : Sg.B) (r : Rule) : Prop := S3 12 k r ∨ (k ∈ rules4.take n ∧ r = .asks)

theorem doneS_all (done : Nat → Bool) (h : ∀ i, i < 14 → done i = true) (k : Sg.B) (r : Rule) : S1 k r ↔ doneS done k r := by
  unfold S1 doneS rules1
  constructor
  · intro hm
    simp only [List.mem_cons, List.not_mem_nil, or_false, Prod.mk.injEq] at hm
    rcases hm with ⟨rfl, rfl⟩ | ⟨rfl, rfl⟩ | ⟨rfl, rfl⟩ | ⟨rfl, rfl⟩ | ⟨rfl, rfl⟩ | ⟨rfl, rfl⟩
    · exact ⟨2, h 2 (by decide), rfl⟩
    · exact ⟨3, h 3 (by decide), rfl⟩
    · exact ⟨4, h 4 (by decide), rfl⟩
    · exact ⟨6, h 6 (by decide), rfl⟩
    · exact ⟨8, h 8 (by decide), rfl⟩
    · exact ⟨9, h 9 (by decide), rfl⟩
  · rintro ⟨i, _, hi⟩
    unfold insOf at hi
    split at hi <;> first | (cases hi; done) | skip
    all_goals
      simp only [Option.some.injEq, Prod.mk.injEq] at hi
      obtain ⟨rfl, rfl⟩ := hi
      simp

def keys1 : List Sg.B := rules1.map (·.1)
theorem S1_key {k : Sg.B} {r : Rule} (h : S1 k r) : k ∈ keys1 := List.mem_map.2 ⟨_, h, rfl⟩
theorem S2_key {k : Sg.B} {r : Rule} (h : S2 3 k r) : k ∈ keys1 ++ rules2 := by
  rcases h with h | ⟨h, _⟩
  · exact List.mem_append_left _ (S1_key h)
  · exact List.mem_append_right _ h
theorem S3_key {k : Sg.B} {r : Rule} (h : S3 12 k r) : k ∈ keys1 ++ rules2 ++ rules3 := by
  rcases h with h | ⟨h, _⟩
  · exact List.mem_append_left _ (S2_key h)
  · exact List.mem_append_right _ h
theorem S2_new (k : Nat) (kk : Sg.B) (h : rules2[k]? = some kk) (r' : Rule) : ¬ S2 k kk r' := by
  have hk : k < 3 := (List.getElem?_eq_some_iff.1 h).1
  have key : ∀ k < 3, ∀ kk, rules2[k]? = some kk → kk ∉ keys1 ∧ kk ∉ rules2.take k := by decide
  obtain ⟨h1, h2⟩ := key k hk kk h
  rintro (h3 | ⟨h3, _⟩)
  · exact h1 (S1_key h3)
  · exact h2 h3
theorem S2_add (k : Nat) (kk : Sg.B) (h : rules2[k]? = some kk) (k' : Sg.B) (r' : Rule) : S2 (k + 1) k' r' ↔ (S2 k k' r' ∨ (k' = kk ∧ r' = .always 1)) := by
  unfold S2
  rw [List.take_add_one, h]
  simp only [Option.toList, List.mem_append, List.mem_singleton, or_and_right, or_assoc]

theorem S3_new (k : Nat) (kk : Sg.B) (h : rules3[k]? = some kk) (r' : Rule) : ¬ S3 k kk r' := by
  have hk : k < 12 := (List.getElem?_eq_some_iff.1 h).1
  have key : ∀ k < 12, ∀ kk, rules3[k]? = some kk → kk ∉ (keys1 ++ rules2) ∧ kk ∉ rules3.take k := by decide
  obtain ⟨h1, h2⟩ := key k hk kk h
  rintro (h3 | ⟨h3, _⟩)
  · exact h1 (S2_key h3)
  · exact h2 h3
theorem S3_add (k : Nat) (kk : Sg.B) (h : rules3[k]? = some kk) (k' : Sg.B) (r' : Rule) : S3 (k + 1) k' r' ↔ (S3 k k' r' ∨ (k' = kk ∧ r' = .always 2)) := by
  unfold S3
  rw [List.take_add_one, h]
  simp only [Option.toList, List.mem_append, List.mem_singleton, or_and_right, or_assoc]

theorem S4_new (k : Nat) (kk : Sg.B) (h : rules4[k]? = some kk) (r' : Rule) : ¬ S4 k kk r' := by
  have hk : k < 4 := (List.getElem?_eq_some_iff.1 h).1
  have key : ∀ k < 4, ∀ kk, rules4[k]? = some kk → kk ∉ (keys1 ++ rules2 ++ rules3) ∧ kk ∉ rules4.take k := by decide
  obtain ⟨h1, h2⟩ := key k hk kk h
  rintro (h3 | ⟨h3, _⟩)
  · exact h1 (S3_key h3)
  · exact h2 h3
theorem S4_add (k : Nat) (kk : Sg.B) (h : rules4[k]? = some kk) (k' : Sg.B) (r' : Rule) : S4 (k + 1) k' r' ↔ (S4 k k' r' ∨ (k' = kk ∧ r' = .asks)) := by
  unfold S4
  rw [List.take_add_one, h]
  simp only [Option.toList, List.mem_append, List.mem_singleton, or_and_right, or_assoc]

theorem StrsAt.of_block {w w1 : World} {b n c : Nat} {ws : List Sg.B} (h : StrsAt w (.slice (some ⟨b, 0, none⟩) n c) ws) (hb : w1.heap[b]? = w.heap[b]?) (hs : w.heap.size ≤ w1.heap.size) : StrsAt w1 (.slice (some ⟨b, 0, none⟩) n c) ws := by
  obtain ⟨b', c', h1, h2, h3⟩ := h
  cases h1
  exact ⟨b, c, rfl, by omega, fun j hj => (World.cell?_of_block (a := ⟨b, j, none⟩) hb).trans (h3 j hj)⟩
theorem StrsAt.no_map {w : World} {b n c mb ck : Nat} {es : Array MapEntry} {ws : List Sg.B} (h : StrsAt w (.slice (some ⟨b, 0, none⟩) n c) ws) (h0 : 0 < ws.length) (hm : w.heap[mb]? = some (.map es ck)) : b ≠ mb := by
  obtain ⟨b', c', h1, h2, h3⟩ := h
  cases h1
  intro e
  subst e
  have := h3 0 h0
  simp [World.cell?, hm] at this

set_option maxRecDepth 100000 in
set_option maxHeartbeats 4000000 in
theorem fill_calls (pl c : Nat) (x0 x1 x2 : Value) (w : World) (hp : w.cell? ⟨pl, 0, none⟩ = some (.pointer (some ⟨c, 0, none⟩))) (hpc : pl ≠ c)
    (hc : w.heap[c]? = some (.cells #[x0, x1, x2, .map none] 132 (0, 0))) :
    Calls Tryz.prog 135 #[.pointer (some ⟨pl, 0, none⟩)] w fun e w' => e = .returned (.tuple #[]) ∧ ∃ mb, Filled w c mb x0 x1 x2 (S4 4) w' := by
  have hpl := World.block_lt_of_cell? w _ hp
  go_enter Tryz.func135, Tryz.ntmps135
  go_wp2
  refine wp_region_inv (by kernel_rfl) (I1 w pl c x0 x1 x2) (by kernel_rfl) ?_ ?_ ?_
  · refine ⟨⟨undef, undef, undef, undef, undef, undef, undef, 0, rfl, ?_⟩, fun i j _ h => by cases h⟩
    exact ⟨fun h => (by cases h), fun h => (by cases h), fun h => (by cases h), fun h => (by cases h), fun h => (by cases h), fun h => (by cases h), fun h => (by cases h), hc, (Keeps.refl _ _).drew⟩
  · exact fun done a w' i o ho hni hpre hI => fill_step pl c x0 x1 x2 w hp hpc _ done a w' i o ho hni hpre hI
  · intro done a w' hall hI
    obtain ⟨⟨v7, v8, v9, v10, v11, v12, v13, mb, rfl, J⟩, _⟩ := hI
    obtain ⟨rfl, hmb, es, ck, hes, hru⟩ := J.h1 (hall 1 (by decide))
    have hF : Filled w c mb x0 x1 x2 S1 w' := ⟨by have h := J.hc; rw [hall 13 (by decide)] at h; simpa using h, hmb, ⟨es, ck, hes, hru.congr (doneS_all done hall)⟩, J.hk⟩
    clear J hes hru hmb
    have HF := Lib.hid hF; clear hF
    unfold frame0
    have hs14 := strsAt_new w' rules2 3
    have HS := Lib.hid hs14; clear hs14
    go_wp2
    go_loopg [16] 3 (fun n i wr => ∃ k : Nat, n + k = 3 ∧ i = .int .i64 k ∧ Filled w c mb x0 x1 x2 (S2 k) wr ∧ StrsAt wr (.slice (some ⟨w'.heap.size, 0, none⟩) 3 3) rules2)
    case atStart => exact ⟨0, rfl, rfl, (HF.out.alloc _).congr (fun k r => by simp [S2]), HS.out⟩
    case round =>
     clear HF HS
     obtain ⟨k, hk, rfl, hF, hS⟩ := hrel
     by_cases hlt : k < 3
     · obtain ⟨kk, hkk⟩ : ∃ kk, rules2[k]? = some kk := ⟨_, List.getElem?_eq_getElem (by simpa [rules2] using hlt)⟩
       have q : wr.cell? ⟨w'.heap.size, k, none⟩ = some (.string (ba kk)) := by
         obtain ⟨b, c, h1, _, h3⟩ := hS
         cases h1
         have := h3 k (by simpa [rules2] using hlt)
         rw [List.getD_eq_getElem?_getD, hkk] at this
         exact this
       have ql : wr.cell? ⟨pl, 0, none⟩ = some (.pointer (some ⟨c, 0, none⟩)) := (hF.hk.cell (p := ⟨pl, 0, none⟩) hpl hpc).trans hp
       have qc : wr.cell? ⟨c, 3, none⟩ = some (.map (some mb)) := by simp [World.cell?, hF.hc]
       have lpl := World.block_lt_of_cell? wr _ ql
       have lc := World.block_lt_of_cell? wr _ qc
       have hbm : w'.heap.size ≠ mb := by obtain ⟨es, ck, h3, _⟩ := hF.hm; exact hS.no_map (by decide) h3
       have hnew := S2_new k kk hkk
       have hadd := S2_add k kk hkk
       have hF2 := (hF.alloc (.cells #[.int .i64 1] 3)).drew
       obtain ⟨w2, hmu, hF3, hsz, hoth⟩ := hF2.put kk (.always 1) (.func (.func 172) #[] #[.pointer (some ⟨wr.heap.size, 0, none⟩)]) ⟨_, rfl, heap_alloc_new _ _⟩ hnew hadd
       have hlt14 : ∀ {b n c ws}, StrsAt wr (.slice (some ⟨b, 0, none⟩) n c) ws → b < wr.heap.size := fun h => by obtain ⟨b', c', h1, h2, _⟩ := h; cases h1; exact h2
       have hS2 := hS.of_block (w1 := w2) (by rw [hoth _ hbm]; exact Below.heap_alloc _ _ _ (hlt14 hS)) (by rw [hsz]; show wr.heap.size ≤ (wr.alloc _).heap.size; simp)
       have qm1 : w2.cell? ⟨pl, 0, none⟩ = some (.pointer (some ⟨c, 0, none⟩)) := (hF3.hk.cell (p := ⟨pl, 0, none⟩) hpl hpc).trans hp
       have qm2 : w2.cell? ⟨c, 3, none⟩ = some (.map (some mb)) := by simp [World.cell?, hF3.hc]
       have HF3 := Lib.hid hF3; clear hF3 hF2
       have HS2 := Lib.hid hS2; clear hS2 hoth hF hS hadd hnew hbm hkk hsz hlt14
       go_wp2
       go_region_held3 (fun w'' => w''.cell? ⟨pl, 0, none⟩ = some (.pointer (some ⟨c, 0, none⟩)) ∧ w''.cell? ⟨c, 3, none⟩ = some (.map (some mb)))
         (go_keep)
         ((go_at_call 141; refine (always_calls 1 _).mono ?_; rintro e w1 ⟨rfl, rfl⟩))
       go_wp2
       go_roundg (3 - (k + 1))
       case measure => omega
       case rel => exact ⟨k + 1, by omega, by go_num, HF3.out, HS2.out⟩
     · obtain rfl : k = 3 := by omega
       have HF := Lib.hid hF; clear hF hS
       obtain ⟨wa, rfl⟩ : ∃ wa : World, wa = wr := ⟨_, rfl⟩
       have hs14 := strsAt_new wa rules3 12
       have HS := Lib.hid hs14; clear hs14
       go_wp2
       go_loopg [29] 12 (fun n i wr => ∃ k : Nat, n + k = 12 ∧ i = .int .i64 k ∧ Filled w c mb x0 x1 x2 (S3 k) wr ∧ StrsAt wr (.slice (some ⟨wa.heap.size, 0, none⟩) 12 12) rules3)
       case atStart => exact ⟨0, rfl, rfl, (HF.out.alloc _).congr (fun k r => by simp [S3]), HS.out⟩
       case round =>
        clear HF HS
        obtain ⟨k, hk, rfl, hF, hS⟩ := hrel
        by_cases hlt : k < 12
        · obtain ⟨kk, hkk⟩ : ∃ kk, rules3[k]? = some kk := ⟨_, List.getElem?_eq_getElem (by simpa [rules3] using hlt)⟩
          have q : wr.cell? ⟨wa.heap.size, k, none⟩ = some (.string (ba kk)) := by
            obtain ⟨b, c, h1, _, h3⟩ := hS
            cases h1
            have := h3 k (by simpa [rules3] using hlt)
            rw [List.getD_eq_getElem?_getD, hkk] at this
            exact this
          have ql : wr.cell? ⟨pl, 0, none⟩ = some (.pointer (some ⟨c, 0, none⟩)) := (hF.hk.cell (p := ⟨pl, 0, none⟩) hpl hpc).trans hp
          have qc : wr.cell? ⟨c, 3, none⟩ = some (.map (some mb)) := by simp [World.cell?, hF.hc]
          have lpl := World.block_lt_of_cell? wr _ ql
          have lc := World.block_lt_of_cell? wr _ qc
          have hbm : wa.heap.size ≠ mb := by obtain ⟨es, ck, h3, _⟩ := hF.hm; exact hS.no_map (by decide) h3
          have hnew := S3_new k kk hkk
          have hadd := S3_add k kk hkk
          have hF2 := (hF.alloc (.cells #[.int .i64 2] 3)).drew
          obtain ⟨w2, hmu, hF3, hsz, hoth⟩ := hF2.put kk (.always 2) (.func (.func 172) #[] #[.pointer (some ⟨wr.heap.size, 0, none⟩)]) ⟨_, rfl, heap_alloc_new _ _⟩ hnew hadd
          have hlt14 : ∀ {b n c ws}, StrsAt wr (.slice (some ⟨b, 0, none⟩) n c) ws → b < wr.heap.size := fun h => by obtain ⟨b', c', h1, h2, _⟩ := h; cases h1; exact h2
          have hS2 := hS.of_block (w1 := w2) (by rw [hoth _ hbm]; exact Below.heap_alloc _ _ _ (hlt14 hS)) (by rw [hsz]; show wr.heap.size ≤ (wr.alloc _).heap.size; simp)
          have qm1 : w2.cell? ⟨pl, 0, none⟩ = some (.pointer (some ⟨c, 0, none⟩)) := (hF3.hk.cell (p := ⟨pl, 0, none⟩) hpl hpc).trans hp
          have qm2 : w2.cell? ⟨c, 3, none⟩ = some (.map (some mb)) := by simp [World.cell?, hF3.hc]
          have HF3 := Lib.hid hF3; clear hF3 hF2
          have HS2 := Lib.hid hS2; clear hS2 hoth hF hS hadd hnew hbm hkk hsz hlt14
          go_wp2
          go_region_held3 (fun w'' => w''.cell? ⟨pl, 0, none⟩ = some (.pointer (some ⟨c, 0, none⟩)) ∧ w''.cell? ⟨c, 3, none⟩ = some (.map (some mb)))
            (go_keep)
            ((go_at_call 141; refine (always_calls 2 _).mono ?_; rintro e w1 ⟨rfl, rfl⟩))
          go_wp2
          go_roundg (12 - (k + 1))
          case measure => omega
          case rel => exact ⟨k + 1, by omega, by go_num, HF3.out, HS2.out⟩
        · obtain rfl : k = 12 := by omega
          have HF := Lib.hid hF; clear hF hS
          obtain ⟨wb, rfl⟩ : ∃ wb : World, wb = wr := ⟨_, rfl⟩
          have hs14 := strsAt_new wb rules4 4
          have HS := Lib.hid hs14; clear hs14
          go_wp2
          go_loopg [42] 4 (fun n i wr => ∃ k : Nat, n + k = 4 ∧ i = .int .i64 k ∧ Filled w c mb x0 x1 x2 (S4 k) wr ∧ StrsAt wr (.slice (some ⟨wb.heap.size, 0, none⟩) 4 4) rules4)
          case atStart => exact ⟨0, rfl, rfl, (HF.out.alloc _).congr (fun k r => by simp [S4]), HS.out⟩
          case round =>
           clear HF HS
           obtain ⟨k, hk, rfl, hF, hS⟩ := hrel
           by_cases hlt : k < 4
           · obtain ⟨kk, hkk⟩ : ∃ kk, rules4[k]? = some kk := ⟨_, List.getElem?_eq_getElem (by simpa [rules4] using hlt)⟩
             have q : wr.cell? ⟨wb.heap.size, k, none⟩ = some (.string (ba kk)) := by
               obtain ⟨b, c, h1, _, h3⟩ := hS
               cases h1
               have := h3 k (by simpa [rules4] using hlt)
               rw [List.getD_eq_getElem?_getD, hkk] at this
               exact this
             have ql : wr.cell? ⟨pl, 0, none⟩ = some (.pointer (some ⟨c, 0, none⟩)) := (hF.hk.cell (p := ⟨pl, 0, none⟩) hpl hpc).trans hp
             have qc : wr.cell? ⟨c, 3, none⟩ = some (.map (some mb)) := by simp [World.cell?, hF.hc]
             have lpl := World.block_lt_of_cell? wr _ ql
             have lc := World.block_lt_of_cell? wr _ qc
             have hbm : wb.heap.size ≠ mb := by obtain ⟨es, ck, h3, _⟩ := hF.hm; exact hS.no_map (by decide) h3
             have hnew := S4_new k kk hkk
             have hadd := S4_add k kk hkk
             obtain ⟨w2, hmu, hF3, hsz, hoth⟩ := hF.put kk .asks (.func (.func 142) #[] #[]) rfl hnew hadd
             have hS2 := hS.of_block (w1 := w2) (hoth _ hbm) (by rw [hsz]; exact Nat.le_refl _)
             have HF3 := Lib.hid hF3; clear hF3
             have HS2 := Lib.hid hS2; clear hS2 hoth hF hS hadd hnew hbm hkk hsz
             go_wp2
             go_roundg (4 - (k + 1))
             case measure => omega
             case rel => exact ⟨k + 1, by omega, by go_num, HF3.out, HS2.out⟩
           · obtain rfl : k = 4 := by omega
             have HF := Lib.hid hF; clear hF hS
             go_wp2
             first | go_end0 | (refine bodyPost_ret (results_none rfl _ _ _) rfl ?_)
             exact ⟨rfl, mb, HF.out⟩
end Go.Proofs.YtpaioaljopjpkaaGreatDoor
