/-
  SchedTurns, the plain law.
-/
import Derived.Test.YtiijnhgafadokaaSchQ
namespace Go.Proofs.Ytiijnhgafadokaa
open Go.RowKit
set_option linter.unusedVariables false

/-- b goes ahead of x, by turns behind last. -/
def Ahead (last b x : Int) : Prop := (last < b ∧ (x ≤ last ∨ b ≤ x)) ∨ (b ≤ last ∧ x ≤ last ∧ b ≤ x)
theorem better_turn (last b id : Int) (hb : 0 ≤ b) : better 1 last b 0 id 0 = true ∧ Ahead last id b ∧ (∀ x, Ahead last b x → Ahead last id x) ∨ better 1 last b 0 id 0 = false ∧ Ahead last b id := by
  have e : better 1 last b 0 id 0 = if decide (last < id) ≠ decide (last < b) then decide (last < id) else decide (id < b) := by
    unfold better
    rw [if_neg (by omega), if_neg (by simp)]
  rw [e]
  unfold Ahead
  by_cases h1 : last < id <;> by_cases h2 : last < b <;> by_cases h3 : id < b
  all_goals simp only [h1, h2, h3, decide_true, decide_false, ne_eq, not_true_eq_false, if_false, Bool.true_eq_false, Bool.false_eq_true, not_false_eq_true, if_true, true_and, false_and, or_false, false_or]
  all_goals first | omega | (refine ⟨by omega, fun x hx => by omega⟩)
/-- What by turns holds of the paths that are open: just those of live, all empty. -/
structure Turn (S : Sch) (live : List Int) : Prop where
  pol : S.pol = 1
  op : ∀ x ∈ live, S.op x = some ⟨4, 0, []⟩
  no : ∀ x, x ∉ live → S.op x = .none
  pos : ∀ x ∈ live, 0 ≤ x
  nd : live.Nodup
theorem tn_pick {S : Sch} {live : List Int} (h : Turn S live) : ∀ k, k ≤ live.length →
    (pkTo S live [] k).2 = 0 ∧ (k = 0 ∧ (pkTo S live [] k).1 = -1 ∨ (pkTo S live [] k).1 ∈ live.take k ∧ ∀ x ∈ live.take k, Ahead S.last (pkTo S live [] k).1 x) := by
  intro k
  induction k with
  | zero => intro _; exact ⟨rfl, .inl ⟨rfl, rfl⟩⟩
  | succ k ih =>
    intro hk
    obtain ⟨i1, i2⟩ := ih (by omega)
    obtain ⟨id, hid⟩ : ∃ id, live[k]? = some id := ⟨_, List.getElem?_eq_getElem (by omega)⟩
    have hm : id ∈ live := List.mem_of_getElem? hid
    have ht : live.take (k + 1) = live.take k ++ [id] := by rw [List.take_add_one, hid]; rfl
    have e : pkTo S live [] (k + 1) = if better 1 S.last (pkTo S live [] k).1 0 id 0 then (id, 0) else pkTo S live [] k := by
      rw [pkTo, hid]
      simp only [pkStep, h.op id hm, h.pol, i1]
      rfl
    rw [e, ht]
    rcases i2 with ⟨rfl, j⟩ | ⟨j1, j2⟩
    · rw [j]
      have : better 1 S.last (-1) 0 id 0 = true := rfl
      rw [if_pos this]
      refine ⟨rfl, .inr ⟨by simp, fun x hx => ?_⟩⟩
      simp at hx
      subst hx
      unfold Ahead; omega
    · have hp := h.pos _ (List.mem_of_mem_take j1)
      rcases better_turn S.last (pkTo S live [] k).1 id hp with ⟨b1, b2, b3⟩ | ⟨b1, b2⟩
      · rw [if_pos b1]
        refine ⟨rfl, .inr ⟨by simp, fun x hx => ?_⟩⟩
        rw [List.mem_append, List.mem_singleton] at hx
        rcases hx with hx | rfl
        · exact b3 _ (j2 _ hx)
        · unfold Ahead; simp only; omega
      · rw [if_neg (by rw [b1]; decide)]
        refine ⟨i1, .inr ⟨by simp [j1], fun x hx => ?_⟩⟩
        rw [List.mem_append, List.mem_singleton] at hx
        rcases hx with hx | rfl
        · exact j2 _ hx
        · exact b2
def cntA (t : Int) (l : List Int) : Nat := l.countP fun x => decide (t < x)
theorem cnt_le (t : Int) (l : List Int) : cntA t l ≤ l.length := List.countP_le_length
theorem count_one {l : List Int} (hn : l.Nodup) {b : Int} (hb : b ∈ l) : l.count b = 1 := by
  induction l with
  | nil => cases hb
  | cons a l ih =>
    rw [List.nodup_cons] at hn
    rw [List.count_cons]
    by_cases e : a = b
    · subst e
      rw [List.count_eq_zero.2 hn.1]
      simp
    · rw [List.mem_cons] at hb
      rw [ih hn.2 (hb.resolve_left fun h => e h.symm)]
      simp [e]
theorem cnt_split {l : List Int} {t b : Int} (h : ∀ x ∈ l, t < x ↔ (b < x ∨ x = b)) : cntA t l = cntA b l + l.count b := by
  unfold cntA
  induction l with
  | nil => rfl
  | cons a l ih =>
    have ha := h a (by simp)
    rw [List.countP_cons, List.countP_cons, List.count_cons, ih fun x hx => h x (by simp [hx])]
    by_cases h1 : b < a
    · have h2 : t < a := ha.2 (.inl h1)
      have h3 : ¬ a = b := by omega
      simp [h1, h2, h3]; omega
    · by_cases h3 : a = b
      · have h2 : t < a := ha.2 (.inr h3)
        subst h3
        simp [h2]; omega
      · have h2 : ¬ t < a := fun hh => (ha.1 hh).elim h1 h3
        simp [h1, h2, h3]
theorem cnt_drop {l : List Int} (hn : l.Nodup) {t b : Int} (hb : b ∈ l) (h : ∀ x ∈ l, t < x ↔ (b < x ∨ x = b)) : cntA t l = cntA b l + 1 := by
  rw [cnt_split h, count_one hn hb]
theorem cnt_all {l : List Int} {t : Int} (h : ∀ x ∈ l, t < x) : cntA t l = l.length := by
  unfold cntA
  rw [List.countP_eq_length]
  intro x hx
  simpa using h x hx
theorem cnt_none {l : List Int} {t : Int} (h : cntA t l = 0) : ∀ x ∈ l, x ≤ t := by
  unfold cntA at h
  rw [List.countP_eq_zero] at h
  intro x hx
  have := h x hx
  simp at this
  exact this
theorem cnt_zero {l : List Int} {t : Int} (h : ∀ x ∈ l, x ≤ t) : cntA t l = 0 := by
  unfold cntA
  rw [List.countP_eq_zero]
  intro x hx
  have := h x hx
  simp
  exact this
/-- Within a round: i were picked, the last one v. -/
structure Round (S : Sch) (live : List Int) (i : Nat) (v : Int) : Prop where
  turn : Turn S live
  at0 : i = 0 → v = -1 ∧ (cntA S.last live = 0 ∨ cntA S.last live = live.length)
  at1 : 0 < i → S.last = v ∧ cntA v live + i = live.length
theorem Turn.setLast {S : Sch} {live : List Int} (h : Turn S live) (b : Int) : Turn { S with last := b } live := ⟨h.pol, h.op, h.no, h.pos, h.nd⟩
theorem Round.step {S : Sch} {live : List Int} {i : Nat} {v : Int} (h : Round S live i v) (hi : i < live.length) :
    0 ≤ (pkTo S live [] live.length).1 ∧ v < (pkTo S live [] live.length).1 ∧ InI (pkTo S live [] live.length).1 ∧ Round (pickS S (pkTo S live [] live.length).1) live (i + 1) (pkTo S live [] live.length).1 ∨ ∃ x ∈ live, ¬ InI x := by
  rcases (tn_pick h.turn live.length (Nat.le_refl _)).2 with ⟨e, _⟩ | ⟨m, al⟩
  · omega
  · rw [List.take_length] at m al
    by_cases hI : InI (pkTo S live [] live.length).1
    · left
      have hp := h.turn.pos _ m
      have e : pickS S (pkTo S live [] live.length).1 = { S with last := (pkTo S live [] live.length).1 } := if_neg (by omega)
      rw [e]
      generalize (pkTo S live [] live.length).1 = b at *
      have hcnt : v < b ∧ cntA b live + (i + 1) = live.length := by
        by_cases h0 : i = 0
        · obtain ⟨rfl, hc⟩ := h.at0 h0
          have hle : ∀ x ∈ live, b ≤ x := by
            intro x hx
            rcases hc with hc | hc
            · have h1 := cnt_none hc x hx
              have h2 := cnt_none hc b m
              have := al x hx
              unfold Ahead at this; omega
            · unfold cntA at hc
              rw [List.countP_eq_length] at hc
              have h1 := hc x hx
              have h2 := hc b m
              simp at h1 h2
              have := al x hx
              unfold Ahead at this; omega
          have h1 := cnt_drop h.turn.nd (t := -1) m fun x hx => by
            have := hle x hx
            have := h.turn.pos x hx
            omega
          rw [cnt_all fun x hx => by have := h.turn.pos x hx; omega] at h1
          exact ⟨by omega, by omega⟩
        · obtain ⟨e, hc⟩ := h.at1 (by omega)
          have hb : v < b := by
            rcases (by omega : v < b ∨ b ≤ v) with h1 | h1
            · exact h1
            · have := cnt_zero (l := live) (t := v) fun x hx => by
                have := al x hx
                unfold Ahead at this; omega
              omega
          have h1 := cnt_drop h.turn.nd (t := v) m fun x hx => by
            have := al x hx
            unfold Ahead at this; omega
          exact ⟨hb, by omega⟩
      exact ⟨hp, hcnt.1, hI, h.turn.setLast b, fun h => by omega, fun _ => ⟨rfl, hcnt.2⟩⟩
    · exact .inr ⟨_, m, hI⟩
theorem Round.next {S : Sch} {live : List Int} {v : Int} (h : Round S live live.length v) : Round S live 0 (-1) := by
  refine ⟨h.turn, fun _ => ⟨rfl, ?_⟩, fun h => by omega⟩
  by_cases h0 : live.length = 0
  · have := cnt_le S.last live
    omega
  · obtain ⟨e, hc⟩ := h.at1 (by omega)
    rw [e]; omega
theorem Turn.is {S : Sch} {live : List Int} (h : Turn S live) : decide (0 ≤ (pkTo S live [] live.length).1) = decide (0 < live.length) := by
  rcases (tn_pick h live.length (Nat.le_refl _)).2 with ⟨e, e2⟩ | ⟨m, _⟩
  · rw [e2, e]; rfl
  · have hp := h.pos _ (List.mem_of_mem_take m)
    have : 0 < live.length := by
      rcases Nat.eq_zero_or_pos live.length with e | e
      · rw [List.length_eq_zero_iff] at e
        rw [e] at m; simp at m
      · exact e
    simp [hp, this]
theorem turn_new : Turn (newS 1) [] := ⟨rfl, fun x h => by simp at h, fun _ _ => rfl, fun x h => by simp at h, List.nodup_nil⟩
theorem Turn.open {S : Sch} {live : List Int} (h : Turn S live) {x : Int} (hx : 0 ≤ x) (hn : x ∉ live) : Turn (openS S x) (live ++ [x]) ∧ (openS S x).last = S.last := by
  unfold openS
  rw [h.no x hn]
  simp only
  rw [if_pos hx]
  refine ⟨⟨h.pol, fun y hy => ?_, fun y hy => ?_, fun y hy => ?_, ?_⟩, rfl⟩
  · show (if y = x then some (⟨4, 0, []⟩ : Fl) else S.op y) = _
    rw [List.mem_append, List.mem_singleton] at hy
    by_cases e : y = x
    · rw [if_pos e]
    · rw [if_neg e]; exact h.op y (hy.resolve_right e)
  · show (if y = x then some (⟨4, 0, []⟩ : Fl) else S.op y) = _
    rw [List.mem_append, List.mem_singleton] at hy
    rw [if_neg fun e => hy (.inr e)]
    exact h.no y fun e => hy (.inl e)
  · rw [List.mem_append, List.mem_singleton] at hy
    rcases hy with hy | rfl
    · exact h.pos y hy
    · exact hx
  · rw [List.nodup_append]
    refine ⟨h.nd, by simp, fun a ha b hb => ?_⟩
    rw [List.mem_singleton] at hb
    rintro rfl
    exact hn (hb ▸ ha)
end Go.Proofs.Ytiijnhgafadokaa
