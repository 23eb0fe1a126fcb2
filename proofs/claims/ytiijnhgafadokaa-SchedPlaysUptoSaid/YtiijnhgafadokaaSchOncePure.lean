/-
  SchedOnce, the plain law.
-/
import Derived.Test.YtiijnhgafadokaaSchClose
namespace Go.Proofs.Ytiijnhgafadokaa
open Go.RowKit
set_option linter.unusedVariables false

theorem setOp_at (S : Sch) (k : Int) (o : Option Fl) : (setOp S k o).op k = o := by unfold setOp; simp
def tells (l : List Int) : List (Int × Int) := l.map fun c => (c, c + 1)
/-- Behind an op: pend is told and not yet marked; told marks what was told. -/
structure Pnd (S : Sch) (n : Nat) (told : List Bool) (pend : List Int) : Prop where
  ex : ∃ f, S.op 5 = some f ∧ f.next ≤ (n : Int) ∧ f.l.length ≤ n ∧ (pend ++ f.l.map (·.c)).Nodup ∧ (∀ r ∈ f.l, r.car = [(r.c, r.c + 1)]) ∧
    ∀ c, c ∈ pend ++ f.l.map (·.c) → 0 ≤ c ∧ c < (n : Int) ∧ told[c.toNat]? = some false
theorem cars_tells {l : List Rec} (h : ∀ r ∈ l, r.car = [(r.c, r.c + 1)]) : cars l = tells (l.map (·.c)) := by
  unfold cars tells
  induction l with
  | nil => rfl
  | cons r l ih =>
    rw [List.flatMap_cons, h r (by simp), ih fun q hq => h q (by simp [hq])]
    rfl
theorem pnd_new : Pnd (openS (newS 0) 5) 0 [] [] :=
  ⟨⟨4, 0, []⟩, rfl, by decide, by simp, by simp, by simp, by simp⟩
theorem Pnd.step {S : Sch} {n : Nat} {told : List Bool} {c : Int} {pend : List Int} (h : Pnd S n told (c :: pend)) :
    0 ≤ c ∧ c < (n : Int) ∧ told[c.toNat]? = some false ∧ Pnd S n (told.set c.toNat true) pend := by
  obtain ⟨f, h1, h2, h3, h4, h5, h6⟩ := h.ex
  obtain ⟨c0, c1, c2⟩ := h6 c (by simp)
  rw [List.cons_append, List.nodup_cons] at h4
  refine ⟨c0, c1, c2, f, h1, h2, h3, h4.2, h5, fun d hd => ?_⟩
  obtain ⟨d0, d1, d2⟩ := h6 d (by rw [List.cons_append]; exact List.mem_cons_of_mem _ hd)
  refine ⟨d0, d1, ?_⟩
  have hne : c.toNat ≠ d.toNat := fun e => h4.1 (by rw [show c = d by omega]; exact hd)
  rw [List.getElem?_set_ne hne]
  exact d2
theorem map_inj {l : List Rec} (h : (l.map (·.c)).Nodup) {a b : Rec} (ha : a ∈ l) (hb : b ∈ l) (e : a.c = b.c) : a = b := by
  induction l with
  | nil => cases ha
  | cons r l ih =>
    rw [List.map_cons, List.nodup_cons] at h
    rw [List.mem_cons] at ha hb
    rcases ha with rfl | ha <;> rcases hb with rfl | hb
    · rfl
    · exact absurd (e ▸ List.mem_map_of_mem hb) h.1
    · exact absurd (e ▸ List.mem_map_of_mem ha) h.1
    · exact ih h.2 ha hb
/-- Some are told, the others stay; and some came. -/
theorem Pnd.lose {S S' : Sch} {n : Nat} {told : List Bool} {f f' : Fl} (h : Pnd S n told []) (hf : S.op 5 = some f) (L : List Rec) (hL : L.Sublist f.l) (p : Rec → Bool) (hf' : S'.op 5 = some f') (hn : f'.next = f.next) (hl : f'.l = L.filter fun r => !p r) :
    Pnd S' n told ((L.filter p).map (·.c)) ∧ cars (L.filter p) = tells ((L.filter p).map (·.c)) ∧ ((L.filter p).map (·.c)).length ≤ n := by
  obtain ⟨f0, h1, h2, h3, h4, h5, h6⟩ := h.ex
  rw [hf] at h1
  cases h1
  rw [List.nil_append] at h4
  have hm : ∀ r ∈ L, r ∈ f.l := fun r hr => hL.subset hr
  have hll := hL.length_le
  refine ⟨⟨f', hf', by rw [hn]; exact h2, ?_, ?_, fun r hr => ?_, fun c hc => ?_⟩, cars_tells fun r hr => ?_, ?_⟩
  · rw [hl]
    have := List.length_filter_le (fun r => !p r) L
    omega
  · rw [hl, List.nodup_append]
    have hLn : (L.map (·.c)).Nodup := h4.sublist (hL.map _)
    refine ⟨hLn.sublist ((List.filter_sublist).map _), hLn.sublist ((List.filter_sublist).map _), fun a ha b hb e => ?_⟩
    obtain ⟨r, hr, rfl⟩ := List.mem_map.1 ha
    obtain ⟨q, hq, rfl⟩ := List.mem_map.1 hb
    rw [List.mem_filter] at hr hq
    have := map_inj h4 (hm _ hr.1) (hm _ hq.1) e
    rw [← this, hr.2] at hq
    exact absurd hq.2 (by decide)
  · rw [hl, List.mem_filter] at hr
    exact h5 r (hm r hr.1)
  · refine h6 c ?_
    rw [List.nil_append]
    rw [List.mem_append] at hc
    rcases hc with hc | hc
    · obtain ⟨r, hr, rfl⟩ := List.mem_map.1 hc
      rw [List.mem_filter] at hr
      exact List.mem_map_of_mem (hm r hr.1)
    · obtain ⟨r, hr, rfl⟩ := List.mem_map.1 hc
      rw [hl, List.mem_filter] at hr
      exact List.mem_map_of_mem (hm r hr.1)
  · rw [List.mem_filter] at hr
    exact h5 r (hm r hr.1)
  · rw [List.length_map]
    have := List.length_filter_le p L
    omega
theorem Pnd.late {S : Sch} {n : Nat} {told : List Bool} (h : Pnd S n told []) (now age : Int) :
    ∃ pend, Pnd (lateS S 5 now age) n told pend ∧ lateL S 5 now age = tells pend ∧ pend.length ≤ n := by
  obtain ⟨f, hf, _⟩ := h.ex
  obtain ⟨a, b, c⟩ := h.lose hf f.l (List.Sublist.refl _) (lateP now age) (S' := lateS S 5 now age) (f' := lostF (lateP now age) f) (by unfold lateS; rw [hf]; exact setOp_at _ _ _) rfl rfl
  exact ⟨_, a, by unfold lateL; rw [hf]; exact b, c⟩
theorem Pnd.got {S : Sch} {n : Nat} {told : List Bool} (h : Pnd S n told []) (top : Int) (l : List (Int × Int)) :
    ∃ pend, Pnd (gotS S 5 top l) n told pend ∧ gotL S 5 top l = tells pend ∧ pend.length ≤ n := by
  obtain ⟨f, hf, _⟩ := h.ex
  obtain ⟨a, b, c⟩ := h.lose hf (cameF top l f).l (List.filter_sublist) (farBehind top) (S' := gotS S 5 top l) (f' := lostF (farBehind top) (cameF top l f)) (by unfold gotS; rw [hf]; exact setOp_at _ _ _) rfl rfl
  exact ⟨_, a, by unfold gotL; rw [hf]; exact b, c⟩
theorem Pnd.close {S : Sch} {n : Nat} {told : List Bool} (h : Pnd S n told []) :
    ∃ pend, Pnd (openS (closeS S 5) 5) n told pend ∧ closeL S 5 = tells pend ∧ pend.length ≤ n ∧ (openS (closeS S 5) 5).op 5 = some ⟨4, 0, []⟩ := by
  obtain ⟨f, h1, h2, h3, h4, h5, h6⟩ := h.ex
  have e : (openS (closeS S 5) 5).op 5 = some ⟨4, 0, []⟩ := by
    unfold closeS
    rw [h1]
    rfl
  refine ⟨f.l.map (·.c), ⟨⟨4, 0, []⟩, e, by simp, by simp, by simpa using h4, by simp, fun c hc => h6 c (by simpa using hc)⟩, ?_, by simpa using h3, e⟩
  unfold closeL
  rw [h1]
  exact cars_tells h5
theorem Pnd.sent {S : Sch} {n : Nat} {told : List Bool} (h : Pnd S n told []) (ht : told.length = n) (hn : n ≤ 1000) (now : Int) (cv : Value) :
    Pnd (sentS S 5 (n : Int) now cv [((n : Int), (n : Int) + 1)]) (n + 1) (told ++ [false]) [] ∧ under (sentS S 5 (n : Int) now cv [((n : Int), (n : Int) + 1)]) 5 = under S 5 + 1 := by
  obtain ⟨f, h1, h2, h3, h4, h5, h6⟩ := h.ex
  have e : sentS S 5 (n : Int) now cv [((n : Int), (n : Int) + 1)] = setOp S 5 (some ⟨f.win, (n : Int) + 1, f.l ++ [⟨(n : Int), mom21 now, cv, [((n : Int), (n : Int) + 1)]⟩]⟩) := by
    unfold sentS
    rw [h1]
    simp only
    rw [if_neg (by omega)]
  rw [e]
  have hop : (setOp S 5 (some ⟨f.win, (n : Int) + 1, f.l ++ [⟨(n : Int), mom21 now, cv, [((n : Int), (n : Int) + 1)]⟩]⟩)).op 5 = some ⟨f.win, (n : Int) + 1, f.l ++ [⟨(n : Int), mom21 now, cv, [((n : Int), (n : Int) + 1)]⟩]⟩ := setOp_at _ _ _
  rw [List.nil_append] at h4
  refine ⟨⟨_, hop, by simp, by simp; omega, ?_, fun r hr => ?_, fun c hc => ?_⟩, ?_⟩
  · rw [List.nil_append, List.map_append, List.nodup_append]
    refine ⟨h4, by simp, fun a ha b hb e => ?_⟩
    simp at hb
    have := (h6 a (by rw [List.nil_append]; exact ha)).2.1
    omega
  · rw [List.mem_append, List.mem_singleton] at hr
    rcases hr with hr | rfl
    · exact h5 r hr
    · rfl
  · rw [List.nil_append, List.map_append, List.mem_append] at hc
    rcases hc with hc | hc
    · obtain ⟨a, b, d⟩ := h6 c (by rw [List.nil_append]; exact hc)
      refine ⟨a, by omega, ?_⟩
      rw [List.getElem?_append_left (by omega)]
      exact d
    · simp at hc
      subst hc
      refine ⟨by omega, by omega, ?_⟩
      rw [Int.toNat_natCast, List.getElem?_append_right (by omega), ht, Nat.sub_self]
      rfl
  · unfold under
    rw [hop, h1]
    simp
theorem Pnd.under {S : Sch} {n : Nat} {told : List Bool} {pend : List Int} (h : Pnd S n told pend) : under S 5 ≤ n := by
  obtain ⟨f, h1, h2, h3, _⟩ := h.ex
  unfold Go.Proofs.Ytiijnhgafadokaa.under
  rw [h1]; exact h3
theorem Pnd.window {S : Sch} {n : Nat} {told : List Bool} {pend : List Int} (h : Pnd S n told pend) {Z : Nat → Prop} {w : World} {s N : Nat} (hs : SchIs Z w s N S) : 2 ≤ window S 5 ∧ window S 5 ≤ 32 := by
  obtain ⟨f, h1, _⟩ := h.ex
  obtain ⟨m, F, V, H⟩ := hs
  unfold Go.Proofs.Ytiijnhgafadokaa.window
  rw [h1]
  cases hF : F 5 with
  | none => rw [H.no 5 hF] at h1; cases h1
  | some g =>
    obtain ⟨f', h2, h3⟩ := H.fl 5 g hF
    rw [h1] at h2
    cases h2
    exact h3.win0
end Go.Proofs.Ytiijnhgafadokaa
