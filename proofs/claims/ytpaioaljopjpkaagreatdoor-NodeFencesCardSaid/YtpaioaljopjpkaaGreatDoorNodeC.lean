/- A node's methods: Close, begin, rollback, may, Log. Conditions: a node as it is laid. -/
import Derived.Test.YtpaioaljopjpkaaGreatDoorNodeB
set_option linter.unusedVariables false
set_option linter.unusedSimpArgs false
namespace Go.Proofs.YtpaioaljopjpkaaGreatDoor
open Go.RowKit

def lift (i j : Nat) : Nat := if j < i then j else j + 1
theorem lift_inj {i j k : Nat} (h : j ≠ k) : lift i j ≠ lift i k := by unfold lift; split <;> split <;> omega
theorem erase_at {α : Type} (l : List α) (i j : Nat) : (l.eraseIdx i)[j]? = l[lift i j]? := by
  rw [List.getElem?_eraseIdx]; unfold lift; split <;> rfl

theorem NodeAt.dropped {w : World} {c : Nat} {L : NodeL} {s : NodeS} (h : NodeAt w c L s) (i : Nat) (o : Obj) (he : EntsAt (w.putObj L.mb o) L.mb (L.ops.eraseIdx i)) :
    NodeTo w c L ⟨s.epoch, s.leads, s.log, s.opn.eraseIdx i⟩ (w.putObj L.mb o) := by
  refine ⟨{ L with ops := L.ops.eraseIdx i }, h.remap o _ _ he ?_ ?_ ?_ (h.fine.erase i), keeps_put (Keeps.refl (L.fp c) w) (.inr (.inl rfl)) _, fun k hk => .inl ?_⟩
  · rw [List.length_eraseIdx, List.length_eraseIdx, h.hops]
  · intro j x p hx hp
    rw [erase_at] at hx hp
    exact h.hop _ x p hx hp
  · intro j k x y hjk hx hy
    rw [erase_at] at hx hy
    exact h.hdis _ _ x y (lift_inj hjk) hx hy
  · rcases hk with hk | hk | hk | hk | hk | ⟨x, hx, hk⟩
    · exact .inl hk
    · exact .inr (.inl hk)
    · exact .inr (.inr (.inl hk))
    · exact .inr (.inr (.inr (.inl hk)))
    · exact .inr (.inr (.inr (.inr (.inl hk))))
    · exact .inr (.inr (.inr (.inr (.inr ⟨x, List.mem_of_mem_eraseIdx hx, hk⟩))))
theorem NodeAt.resame {w : World} {c : Nat} {L : NodeL} {s : NodeS} (h : NodeAt w c L s) (o : Obj) (he : EntsAt (w.putObj L.mb o) L.mb L.ops) : NodeTo w c L s (w.putObj L.mb o) :=
  ⟨L, h.remap o L.ops s.opn he h.hops h.hop h.hdis h.fine, keeps_put (Keeps.refl (L.fp c) w) (.inr (.inl rfl)) _, fun k hk => .inl hk⟩

set_option maxRecDepth 100000 in
theorem close_calls (w : World) (c : Nat) (L : NodeL) (s : NodeS) (h : NodeAt w c L s) (n : Int) :
    Calls Tryz.prog 21 #[.pointer (some ⟨c, 0, none⟩), .int .i64 n] w fun r w' => r = .returned (.bool (s.close n).2) ∧ NodeTo w c L (s.close n).1 w' := by
  have c3 := h.cell3
  unfold NodeS.close
  cases hf : s.find n with
  | none =>
    have hlk := ents_look_no h.hmap (h.find_no hf) true
    obtain ⟨o, hdel, he⟩ := ents_del_no h.hmap (h.find_no hf)
    have HT := Lib.hid (h.resame o he)
    clear h he hf
    simp only [if_true] at hlk
    go_enter Tryz.func21, Tryz.ntmps21
    go_wp2
    go_ret
    exact ⟨rfl, HT.out⟩
  | some i =>
    obtain ⟨v, l, hx, hp, hv⟩ := h.find_at hf
    have hlk := ents_look h.hmap h.knd hx true
    obtain ⟨o, hdel, he⟩ := ents_del h.hmap h.knd hx
    have HT := Lib.hid (h.dropped i o he)
    obtain ⟨a, cc, rfl, _⟩ := own_len2 hv
    clear h he hf hx hp hv
    simp only [if_true] at hlk
    go_enter Tryz.func21, Tryz.ntmps21
    go_wp2
    go_ret
    exact ⟨rfl, HT.out⟩

theorem getElem?_snoc {α : Type} {l : List α} {x y : α} {i : Nat} (h : (l ++ [x])[i]? = some y) : l[i]? = some y ∨ (i = l.length ∧ y = x) := by
  rcases Nat.lt_trichotomy i l.length with h1 | h1 | h1
  · rw [List.getElem?_append_left h1] at h; exact .inl h
  · subst h1; simp at h; exact .inr ⟨rfl, h.symm⟩
  · rw [List.getElem?_append_right (by omega)] at h
    have : i - l.length ≥ 1 := by omega
    rw [List.getElem?_eq_none (by simp; omega)] at h; cases h
theorem NodeAt.opened {w : World} {c : Nat} {L : NodeL} {s : NodeS} (h : NodeAt w c L s) (n : Int) (hn : s.find n = none) (o : Obj) (he : EntsAt (w.putObj L.mb o) L.mb (L.ops ++ [(n, .slice none 0 0)])) :
    NodeTo w c L ⟨s.epoch, s.leads, s.log, s.opn ++ [(n, [])]⟩ (w.putObj L.mb o) := by
  refine ⟨{ L with ops := L.ops ++ [(n, .slice none 0 0)] }, h.remap o _ _ he ?_ ?_ ?_ ?_, keeps_put (Keeps.refl (L.fp c) w) (.inr (.inl rfl)) _, fun k hk => .inl ?_⟩
  · simp [h.hops]
  · intro j x p hx hp
    rcases getElem?_snoc hx with hx | ⟨hj, rfl⟩
    · rcases getElem?_snoc hp with hp | ⟨hj, rfl⟩
      · exact h.hop _ x p hx hp
      · have := (List.getElem?_eq_some_iff.1 hx).1
        rw [h.hops] at this; omega
    · rcases getElem?_snoc hp with hp | ⟨hj, rfl⟩
      · have := (List.getElem?_eq_some_iff.1 hp).1
        rw [h.hops] at hj; omega
      · exact ⟨rfl, World.ownsRow_nil _ _ _ _⟩
  · intro j k x y hjk hx hy
    rcases getElem?_snoc hx with hx | ⟨hj, rfl⟩
    · rcases getElem?_snoc hy with hy | ⟨hk, rfl⟩
      · exact h.hdis _ _ x y hjk hx hy
      · by_cases hb : x.2.ownBlock = none
        · exact .inl hb
        · exact .inr hb
    · exact .inl rfl
  · refine ⟨h.fine.epoch, h.fine.log, h.fine.texts, fun p hp => ?_, ?_⟩
    · rcases List.mem_append.1 hp with hp | hp
      · exact h.fine.opn p hp
      · rw [List.mem_singleton.1 hp]; exact ⟨by simp, fun t ht => by cases ht⟩
    · rw [List.map_append, List.nodup_append]
      refine ⟨h.fine.nd, by simp, fun a ha b hb e => ?_⟩
      obtain ⟨q, hq, rfl⟩ := List.mem_map.1 ha
      have hb : b = n := by simpa using hb
      have := (List.findIdx?_eq_none_iff.1 hn) q hq
      simp [e, hb] at this
  · rcases hk with hk | hk | hk | hk | hk | ⟨x, hx, hk⟩
    · exact .inl hk
    · exact .inr (.inl hk)
    · exact .inr (.inr (.inl hk))
    · exact .inr (.inr (.inr (.inl hk)))
    · exact .inr (.inr (.inr (.inr (.inl hk))))
    · rcases List.mem_append.1 hx with hx | hx
      · exact .inr (.inr (.inr (.inr (.inr ⟨x, hx, hk⟩))))
      · rw [List.mem_singleton.1 hx] at hk; cases hk

set_option maxRecDepth 100000 in
theorem nbegin_calls (w : World) (c : Nat) (L : NodeL) (s : NodeS) (h : NodeAt w c L s) (n : Int) (t : ByteArray) :
    Calls Tryz.prog 82 #[.pointer (some ⟨c, 0, none⟩), .int .i64 n, .string t] w fun r w' => r = .returned (.int .i64 (s.begin n).2) ∧ NodeTo w c L (s.begin n).1 w' := by
  have c3 := h.cell3
  unfold NodeS.begin
  cases hf : s.find n with
  | none =>
    have hlk := ents_look_no h.hmap (h.find_no hf) true
    obtain ⟨o, hup, he⟩ := ents_push h.hmap n (.slice none 0 0) (h.find_no hf)
    have HT := Lib.hid (h.opened n hf o he)
    clear h he hf
    simp only [if_true] at hlk
    go_enter Tryz.func82, Tryz.ntmps82
    go_wp2
    go_ret
    exact ⟨rfl, HT.out⟩
  | some i =>
    obtain ⟨v, l, hx, hp, hv⟩ := h.find_at hf
    have hlk := ents_look h.hmap h.knd hx true
    have HT := Lib.hid (NodeTo.same h)
    obtain ⟨a, cc, rfl, _⟩ := own_len2 hv
    clear h hf hx hp hv
    simp only [if_true] at hlk
    go_enter Tryz.func82, Tryz.ntmps82
    go_wp2
    go_ret
    exact ⟨rfl, HT.out⟩

set_option maxRecDepth 100000 in
theorem rollback_calls (w : World) (c : Nat) (L : NodeL) (s : NodeS) (h : NodeAt w c L s) (n : Int) (t : ByteArray) :
    Calls Tryz.prog 84 #[.pointer (some ⟨c, 0, none⟩), .int .i64 n, .string t] w fun r w' => r = .returned (.int .i64 (if (s.close n).2 = true then 0 else 7)) ∧ NodeTo w c L (s.close n).1 w' := by
  have HC := Lib.hid (close_calls w c L s h n)
  clear h
  generalize s.close n = r at *
  obtain ⟨s', b⟩ := r
  cases b
  all_goals
    go_enter Tryz.func84, Tryz.ntmps84
    go_wp2_with (go_at_call 21; refine HC.out.mono ?_; rintro r w1 ⟨rfl, h1⟩)
    go_ret
    exact ⟨rfl, h1⟩

set_option maxRecDepth 100000 in
theorem may_calls (w : World) (c : Nat) (L : NodeL) (s : NodeS) (h : NodeAt w c L s) (e : Nat) (b : Bool) (is : Int) :
    Calls Tryz.prog 56 #[.pointer (some ⟨c, 0, none⟩), .int .u64 (e : Int), .bool b, .int .i64 is] w fun r w' => r = .returned (.int .i64 (s.may e b is)) ∧ w = w' := by
  have c0 := h.cell0
  have c1 := h.cell1
  clear h
  unfold NodeS.may
  obtain ⟨ld, hld⟩ : ∃ ld, ld = s.leads := ⟨_, rfl⟩
  rw [← hld] at c1 ⊢
  by_cases h1 : e = s.epoch
  · rw [if_neg (by simpa using h1)]
    have b1 : ((e : Int) != (s.epoch : Int)) = false := by simp [h1]
    by_cases h0 : is = 0
    · rw [if_pos (.inl h0)]
      have b0 : (is == 0) = true := by simp [h0]
      clear h1 h0 hld
      go_enter Tryz.func56, Tryz.ntmps56
      go_wp2
      go_ret
      exact ⟨rfl, rfl⟩
    · have b0 : (is == 0) = false := by simpa using h0
      by_cases h2 : is = 1
      · have b2 : (is != 1) = false := by simp [h2]
        rw [if_neg (by simp [h2])]
        clear h1 h0 h2 hld
        cases b <;> cases ld
        all_goals
          go_enter Tryz.func56, Tryz.ntmps56
          go_wp2
          go_ret
          exact ⟨rfl, rfl⟩
      · have b2 : (is != 1) = true := by simpa using h2
        cases b
        · rw [if_neg (by simp [h0])]
          clear h1 h0 h2 hld
          cases ld
          all_goals
            go_enter Tryz.func56, Tryz.ntmps56
            go_wp2
            go_ret
            exact ⟨rfl, rfl⟩
        · rw [if_pos (by simp [h2])]
          clear h1 h0 h2 hld
          go_enter Tryz.func56, Tryz.ntmps56
          go_wp2
          go_ret
          exact ⟨rfl, rfl⟩
  · rw [if_pos (by simpa using h1)]
    have b1 : ((e : Int) != (s.epoch : Int)) = true := by rw [bne_iff_ne]; omega
    clear h1 hld
    go_enter Tryz.func56, Tryz.ntmps56
    go_wp2
    go_ret
    exact ⟨rfl, rfl⟩
end Go.Proofs.YtpaioaljopjpkaaGreatDoor
