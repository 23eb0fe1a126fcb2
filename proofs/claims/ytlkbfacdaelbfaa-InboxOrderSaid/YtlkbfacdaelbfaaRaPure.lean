/-
  Rows of numbers that rise, none of which touches the next: plain laws.
-/
import Derived.Test.YtlkbfacdaelbfaaRng
namespace Go.Proofs.Ytlkbfacdaelbfaa
set_option linter.unusedVariables false

namespace Ra
abbrev Row := Int × Int
/-- The number behind the last one. -/
def M : Int := 4611686018427387904
def mem (L : List Row) (n : Int) : Prop := ∃ r ∈ L, r.1 ≤ n ∧ n < r.2
def total (L : List Row) : Int := (L.map fun r => r.2 - r.1).sum
structure Good (L : List Row) : Prop where
  row : ∀ r ∈ L, 0 ≤ r.1 ∧ r.1 < r.2 ∧ r.2 ≤ M
  sep : L.Pairwise fun r s => r.2 < s.1
theorem total_nil : total [] = 0 := rfl
theorem total_cons (r : Row) (L : List Row) : total (r :: L) = (r.2 - r.1) + total L := by simp [total]
theorem total_append (L K : List Row) : total (L ++ K) = total L + total K := by simp [total]
theorem mem_nil (n : Int) : ¬ mem [] n := by rintro ⟨r, hr, _⟩; cases hr
theorem mem_cons (r : Row) (L : List Row) (n : Int) : mem (r :: L) n ↔ (r.1 ≤ n ∧ n < r.2) ∨ mem L n := by
  constructor
  · rintro ⟨s, hs, h⟩
    rcases List.mem_cons.1 hs with rfl | hs
    · exact .inl h
    · exact .inr ⟨s, hs, h⟩
  · rintro (h | ⟨s, hs, h⟩)
    · exact ⟨r, List.mem_cons_self .., h⟩
    · exact ⟨s, List.mem_cons_of_mem _ hs, h⟩
theorem mem_append (L K : List Row) (n : Int) : mem (L ++ K) n ↔ mem L n ∨ mem K n := by
  constructor
  · rintro ⟨s, hs, h⟩
    rcases List.mem_append.1 hs with hs | hs
    · exact .inl ⟨s, hs, h⟩
    · exact .inr ⟨s, hs, h⟩
  · rintro (⟨s, hs, h⟩ | ⟨s, hs, h⟩)
    · exact ⟨s, List.mem_append_left _ hs, h⟩
    · exact ⟨s, List.mem_append_right _ hs, h⟩
theorem good_nil : Good [] := ⟨fun r hr => (by cases hr), List.Pairwise.nil⟩
theorem Good.tail {r : Row} {L : List Row} (h : Good (r :: L)) : Good L := ⟨fun s hs => h.row s (List.mem_cons_of_mem _ hs), (List.pairwise_cons.1 h.sep).2⟩
theorem Good.head {r : Row} {L : List Row} (h : Good (r :: L)) : (0 ≤ r.1 ∧ r.1 < r.2 ∧ r.2 ≤ M) ∧ ∀ s ∈ L, r.2 < s.1 := ⟨h.row r (List.mem_cons_self ..), (List.pairwise_cons.1 h.sep).1⟩
theorem good_cons {r : Row} {L : List Row} (h1 : 0 ≤ r.1 ∧ r.1 < r.2 ∧ r.2 ≤ M) (h2 : ∀ s ∈ L, r.2 < s.1) (h : Good L) : Good (r :: L) :=
  ⟨fun s hs => (List.mem_cons.1 hs).elim (fun e => e ▸ h1) (h.row s), List.pairwise_cons.2 ⟨h2, h.sep⟩⟩
theorem Good.mem_bounds {L : List Row} (h : Good L) {n : Int} (hn : mem L n) : 0 ≤ n ∧ n < M := by
  obtain ⟨r, hr, h1, h2⟩ := hn
  have := h.row r hr
  omega
/-- What holds a number of such rows is told by the numbers alone. -/
theorem good_unique : ∀ {L K : List Row}, Good L → Good K → (∀ n, mem L n ↔ mem K n) → L = K
  | [], [], _, _, _ => rfl
  | [], s :: K, _, hK, h => absurd ((h s.1).2 ((mem_cons ..).2 (.inl (by have := hK.head.1; omega)))) (mem_nil _)
  | r :: L, [], hL, _, h => absurd ((h r.1).1 ((mem_cons ..).2 (.inl (by have := hL.head.1; omega)))) (mem_nil _)
  | r :: L, s :: K, hL, hK, h => by
    have low : ∀ {r : Row} {L : List Row}, Good (r :: L) → ∀ n, mem (r :: L) n → r.1 ≤ n := fun {r L} hL n hn => by
      rcases (mem_cons ..).1 hn with h1 | ⟨s, hs, h1⟩
      · exact h1.1
      · have := hL.head.2 s hs; have := hL.head.1; omega
    have hr1 : mem (r :: L) r.1 := (mem_cons ..).2 (.inl (by have := hL.head.1; omega))
    have hs1 : mem (s :: K) s.1 := (mem_cons ..).2 (.inl (by have := hK.head.1; omega))
    have e1 : r.1 = s.1 := by
      have h1 := low hK _ ((h _).1 hr1)
      have h2 := low hL _ ((h _).2 hs1)
      omega
    have out : ∀ {r : Row} {L : List Row}, Good (r :: L) → ¬ mem (r :: L) r.2 := fun {r L} hL hn => by
      rcases (mem_cons ..).1 hn with h1 | ⟨s, hs, h1⟩
      · omega
      · have := hL.head.2 s hs; omega
    have e2 : r.2 = s.2 := by
      have hb1 := hL.head.1
      have hb2 := hK.head.1
      rcases (by omega : r.2 < s.2 ∨ s.2 < r.2 ∨ r.2 = s.2) with h1 | h1 | h1
      · exact absurd ((h r.2).2 ((mem_cons ..).2 (.inl (by omega)))) (out hL)
      · exact absurd ((h s.2).1 ((mem_cons ..).2 (.inl (by omega)))) (out hK)
      · exact h1
    have e : r = s := Prod.ext e1 e2
    subst e
    have : L = K := good_unique hL.tail hK.tail fun n => by
      have hn := h n
      rw [mem_cons, mem_cons] at hn
      constructor
      · intro hm
        obtain ⟨t, ht, h1⟩ := hm
        rcases hn.1 (.inr ⟨t, ht, h1⟩) with h2 | h2
        · have := hL.head.2 t ht; omega
        · exact h2
      · intro hm
        obtain ⟨t, ht, h1⟩ := hm
        rcases hn.2 (.inr ⟨t, ht, h1⟩) with h2 | h2
        · have := hK.head.2 t ht; omega
        · exact h2
    rw [this]
/-- Such rows in three parts. -/
theorem good_parts {A B C : List Row} : Good (A ++ B ++ C) ↔ Good A ∧ Good B ∧ Good C ∧ (∀ a ∈ A, ∀ b ∈ B, a.2 < b.1) ∧ (∀ a ∈ A, ∀ c ∈ C, a.2 < c.1) ∧ (∀ b ∈ B, ∀ c ∈ C, b.2 < c.1) := by
  constructor
  · rintro ⟨h1, h2⟩
    rw [List.pairwise_append, List.pairwise_append] at h2
    obtain ⟨⟨h3, h4, h5⟩, h6, h7⟩ := h2
    refine ⟨⟨fun r hr => h1 r (by simp [hr]), h3⟩, ⟨fun r hr => h1 r (by simp [hr]), h4⟩, ⟨fun r hr => h1 r (by simp [hr]), h6⟩, h5, fun a ha c hc => h7 a (by simp [ha]) c hc, fun b hb c hc => h7 b (by simp [hb]) c hc⟩
  · rintro ⟨hA, hB, hC, h1, h2, h3⟩
    refine ⟨fun r hr => ?_, ?_⟩
    · rcases List.mem_append.1 hr with hr | hr
      · rcases List.mem_append.1 hr with hr | hr
        · exact hA.row r hr
        · exact hB.row r hr
      · exact hC.row r hr
    · rw [List.pairwise_append, List.pairwise_append]
      refine ⟨⟨hA.sep, hB.sep, h1⟩, hC.sep, fun a ha c hc => ?_⟩
      rcases List.mem_append.1 ha with ha | ha
      · exact h2 a ha c hc
      · exact h3 a ha c hc
/-- A row laid over those that it touches. -/
theorem add_parts {A B C : List Row} (h : Good (A ++ B ++ C)) {f t f' t' : Int} (hf : 0 ≤ f) (hft : f < t) (ht : t ≤ M) (hA : ∀ a ∈ A, a.2 < f) (hB : ∀ b ∈ B, f ≤ b.2 ∧ b.1 ≤ t) (hC : ∀ c ∈ C, t < c.1)
    (hf' : (B = [] → f' = f) ∧ ∀ b, B.head? = some b → f' = min f b.1) (ht' : (B = [] → t' = t) ∧ ∀ b, B.getLast? = some b → t' = max t b.2) :
    Good (A ++ [(f', t')] ++ C) ∧ (∀ n, mem (A ++ [(f', t')] ++ C) n ↔ mem (A ++ B ++ C) n ∨ (f ≤ n ∧ n < t)) ∧ total (A ++ [(f', t')] ++ C) - total (A ++ B ++ C) = t' - f' - total B := by
  obtain ⟨gA, gB, gC, h1, h2, h3⟩ := good_parts.1 h
  have lo : f' ≤ f ∧ 0 ≤ f' ∧ (∀ b ∈ B, f' ≤ b.1) ∧ (∀ a ∈ A, a.2 < f') ∧ (∀ n, f' ≤ n → n < f → mem B n) := by
    cases B with
    | nil => rw [hf'.1 rfl]; exact ⟨Int.le_refl _, hf, fun b hb => (by cases hb), hA, fun n h1 h2 => (by omega)⟩
    | cons b B =>
      have e := hf'.2 b rfl
      have hb := gB.head
      have hfb := hB b (List.mem_cons_self ..)
      refine ⟨by omega, by omega, fun c hc => ?_, fun a ha => ?_, fun n h1 h2 => (mem_cons ..).2 (.inl (by omega))⟩
      · rcases List.mem_cons.1 hc with rfl | hc
        · omega
        · have := hb.2 c hc; omega
      · have := hA a ha
        have := h1 a ha b (List.mem_cons_self ..)
        omega
  have hi : t ≤ t' ∧ t' ≤ M ∧ (∀ b ∈ B, b.2 ≤ t') ∧ (∀ c ∈ C, t' < c.1) ∧ (∀ n, t ≤ n → n < t' → mem B n) := by
    rcases List.eq_nil_or_concat B with hBn | ⟨B', b, hBc⟩
    · rw [ht'.1 hBn]; exact ⟨Int.le_refl _, ht, fun b hb => (by rw [hBn] at hb; cases hb), hC, fun n h1 h2 => (by omega)⟩
    · rw [List.concat_eq_append] at hBc
      have e := ht'.2 b (by rw [hBc]; simp)
      have hbm : b ∈ B := by rw [hBc]; simp
      have hbr := gB.row b hbm
      have hfb := hB b hbm
      refine ⟨by omega, by omega, fun c hc => ?_, fun c hc => ?_, fun n h1 h2 => ⟨b, hbm, by omega, by omega⟩⟩
      · rw [hBc] at hc
        rcases List.mem_append.1 hc with hc2 | hc2
        · have hs := gB.sep
          rw [hBc, List.pairwise_append] at hs
          have := hs.2.2 c hc2 b (by simp)
          omega
        · have : c = b := by simpa using hc2
          subst this; omega
      · have := hC c hc
        have := h3 b hbm c hc
        omega
  refine ⟨good_parts.2 ⟨gA, ⟨fun r hr => ?_, List.pairwise_singleton _ _⟩, gC, fun a ha b hb => ?_, h2, fun b hb c hc => ?_⟩, fun n => ?_, ?_⟩
  · obtain rfl : r = (f', t') := by simpa using hr
    exact ⟨lo.2.1, by show f' < t'; omega, hi.2.1⟩
  · obtain rfl : b = (f', t') := by simpa using hb
    exact lo.2.2.2.1 a ha
  · obtain rfl : b = (f', t') := by simpa using hb
    exact hi.2.2.2.1 c hc
  · rw [mem_append, mem_append, mem_append, mem_append, mem_cons]
    constructor
    · rintro ((h1 | h1 | h1) | h1)
      · exact .inl (.inl (.inl h1))
      · simp only at h1
        rcases (by omega : n < f ∨ (f ≤ n ∧ n < t) ∨ t ≤ n) with h | h | h
        · exact .inl (.inl (.inr (lo.2.2.2.2 n h1.1 h)))
        · exact .inr h
        · exact .inl (.inl (.inr (hi.2.2.2.2 n h h1.2)))
      · exact absurd h1 (mem_nil _)
      · exact .inl (.inr h1)
    · rintro (((h1 | h1) | h1) | h1)
      · exact .inl (.inl h1)
      · obtain ⟨b, hb, h2, h3⟩ := h1
        have := lo.2.2.1 b hb
        have := hi.2.2.1 b hb
        exact .inl (.inr (.inl (by simp only; omega)))
      · exact .inr h1
      · exact .inl (.inr (.inl (by simp only; omega)))
  · simp only [total_append, total_cons, total_nil]
    omega
/-- The parts of one row that lie outside. -/
def left1 (f t : Int) (r : Row) : List Row := (if r.1 < min r.2 f then [(r.1, min r.2 f)] else []) ++ (if max r.1 t < r.2 then [(max r.1 t, r.2)] else [])
def left (f t : Int) (L : List Row) : List Row := L.flatMap (left1 f t)
theorem left_nil (f t : Int) : left f t [] = [] := rfl
theorem left_cons (f t : Int) (r : Row) (L : List Row) : left f t (r :: L) = left1 f t r ++ left f t L := rfl
theorem left_append (f t : Int) (L K : List Row) : left f t (L ++ K) = left f t L ++ left f t K := by simp [left]
theorem left1_mem {f t : Int} (hft : f < t) {r s : Row} (h : s ∈ left1 f t r) : r.1 ≤ s.1 ∧ s.1 < s.2 ∧ s.2 ≤ r.2 := by
  unfold left1 at h
  rcases List.mem_append.1 h with h | h
  · split at h
    · obtain rfl : s = (r.1, min r.2 f) := by simpa using h
      exact ⟨Int.le_refl _, by assumption, by simp only; omega⟩
    · cases h
  · split at h
    · obtain rfl : s = (max r.1 t, r.2) := by simpa using h
      exact ⟨by simp only; omega, by assumption, Int.le_refl _⟩
    · cases h
theorem left1_keep {f t : Int} (hft : f < t) {r : Row} (hr : r.1 < r.2) (h : r.2 ≤ f ∨ t ≤ r.1) : left1 f t r = [r] := by
  unfold left1
  rcases h with h | h
  · rw [if_pos (by omega), if_neg (by omega), Int.min_eq_left h]; rfl
  · rw [if_neg (by omega), if_pos (by omega), Int.max_eq_left h]; rfl
theorem left_keep {f t : Int} (hft : f < t) : ∀ {L : List Row}, (∀ r ∈ L, r.1 < r.2) → (∀ r ∈ L, r.2 ≤ f ∨ t ≤ r.1) → left f t L = L
  | [], _, _ => rfl
  | r :: L, h1, h2 => by rw [left_cons, left1_keep hft (h1 r (List.mem_cons_self ..)) (h2 r (List.mem_cons_self ..)), left_keep hft (fun s hs => h1 s (List.mem_cons_of_mem _ hs)) (fun s hs => h2 s (List.mem_cons_of_mem _ hs))]; rfl
theorem left_has {f t : Int} (hft : f < t) (L : List Row) (n : Int) : mem (left f t L) n ↔ mem L n ∧ ¬ (f ≤ n ∧ n < t) := by
  induction L with
  | nil => exact ⟨fun h => absurd h (mem_nil _), fun h => absurd h.1 (mem_nil _)⟩
  | cons r L ih =>
    rw [left_cons, mem_append, ih, mem_cons]
    have : mem (left1 f t r) n ↔ (r.1 ≤ n ∧ n < r.2) ∧ ¬ (f ≤ n ∧ n < t) := by
      unfold left1
      rw [mem_append]
      constructor
      · rintro (h | h)
        · split at h
          · rcases (mem_cons ..).1 h with h | h
            · simp only at h; omega
            · exact absurd h (mem_nil _)
          · exact absurd h (mem_nil _)
        · split at h
          · rcases (mem_cons ..).1 h with h | h
            · simp only at h; omega
            · exact absurd h (mem_nil _)
          · exact absurd h (mem_nil _)
      · rintro ⟨⟨h1, h2⟩, h3⟩
        rcases (by omega : n < f ∨ t ≤ n) with h | h
        · left
          rw [if_pos (by omega)]
          exact (mem_cons ..).2 (.inl (by simp only; omega))
        · right
          rw [if_pos (by omega)]
          exact (mem_cons ..).2 (.inl (by simp only; omega))
    rw [this]
    constructor
    · rintro (h | h)
      · exact ⟨.inl h.1, h.2⟩
      · exact ⟨.inr h.1, h.2⟩
    · rintro ⟨h | h, h2⟩
      · exact .inl ⟨h, h2⟩
      · exact .inr ⟨h, h2⟩
theorem left_good {f t : Int} (hft : f < t) : ∀ {L : List Row}, Good L → Good (left f t L)
  | [], h => h
  | r :: L, h => by
    have hh := h.head
    have ih := left_good hft h.tail
    have far : ∀ s ∈ left f t L, r.2 < s.1 := fun s hs => by
      obtain ⟨q, hq, hs⟩ := List.mem_flatMap.1 hs
      have := left1_mem hft hs
      have := hh.2 q hq
      omega
    rw [left_cons]
    have one : Good (left1 f t r) := by
      refine ⟨fun s hs => by have := left1_mem hft hs; omega, ?_⟩
      unfold left1
      rw [List.pairwise_append]
      refine ⟨by split <;> simp, by split <;> simp, fun a ha b hb => ?_⟩
      split at ha
      · split at hb
        · obtain rfl : a = (r.1, min r.2 f) := by simpa using ha
          obtain rfl : b = (max r.1 t, r.2) := by simpa using hb
          simp only; omega
        · cases hb
      · cases ha
    have := good_parts (A := left1 f t r) (B := left f t L) (C := [])
    rw [List.append_nil] at this
    exact this.2 ⟨one, ih, good_nil, fun a ha b hb => by have := left1_mem hft ha; have := far b hb; omega, fun a _ c hc => (by cases hc), fun a _ c hc => (by cases hc)⟩
theorem left_len (f t : Int) : ∀ L : List Row, (left f t L).length ≤ 2 * L.length
  | [] => by simp [left]
  | r :: L => by
    have := left_len f t L
    rw [left_cons, List.length_append, List.length_cons]
    have : (left1 f t r).length ≤ 2 := by unfold left1; rw [List.length_append]; split <;> split <;> simp
    omega
/-- Rows cut out of the middle part. -/
theorem cut_parts {A B C : List Row} (h : Good (A ++ B ++ C)) {f t : Int} (hft : f < t) (hA : ∀ a ∈ A, a.2 ≤ f) (hC : ∀ c ∈ C, t ≤ c.1) : A ++ left f t B ++ C = left f t (A ++ B ++ C) := by
  obtain ⟨gA, gB, gC, h1, h2, h3⟩ := good_parts.1 h
  rw [left_append, left_append, left_keep hft (fun r hr => (gA.row r hr).2.1) (fun r hr => .inl (hA r hr)), left_keep hft (fun r hr => (gC.row r hr).2.1) (fun r hr => .inr (hC r hr))]
theorem Good.getD {L : List Row} (h : Good L) {k : Nat} (hk : k < L.length) : 0 ≤ (L.getD k (0, 0)).1 ∧ (L.getD k (0, 0)).1 < (L.getD k (0, 0)).2 ∧ (L.getD k (0, 0)).2 ≤ M := by
  rw [List.getD_eq_getElem?_getD, List.getElem?_eq_getElem hk]
  exact h.row _ (List.getElem_mem hk)
theorem Good.lt {L : List Row} (h : Good L) {j k : Nat} (hj : j < k) (hk : k < L.length) : (L.getD j (0, 0)).2 < (L.getD k (0, 0)).1 := by
  rw [List.getD_eq_getElem?_getD, List.getElem?_eq_getElem (by omega : j < L.length), List.getD_eq_getElem?_getD, List.getElem?_eq_getElem hk]
  exact List.pairwise_iff_getElem.1 h.sep j k (by omega) hk hj
theorem total_bounds : ∀ {L : List Row}, Good L → 0 ≤ total L ∧ ∀ r, L.head? = some r → total L ≤ M - r.1
  | [], _ => ⟨by simp [total], fun r hr => by cases hr⟩
  | r :: L, h => by
    have hh := h.head
    have ih := total_bounds h.tail
    rw [total_cons]
    refine ⟨by omega, fun s hs => ?_⟩
    obtain rfl : r = s := by simpa using hs
    cases L with
    | nil => rw [total_nil]; omega
    | cons q L =>
      have := ih.2 q rfl
      have := hh.2 q (List.mem_cons_self ..)
      omega
theorem total_in {L : List Row} (h : Good L) : 0 ≤ total L ∧ total L ≤ M := by
  refine ⟨(total_bounds h).1, ?_⟩
  cases L with
  | nil => rw [total_nil]; unfold M; omega
  | cons r L =>
    have := (total_bounds h).2 r rfl
    have := h.head.1
    omega
theorem Good.take {L : List Row} (h : Good L) (k : Nat) : Good (L.take k) := ⟨fun r hr => h.row r (List.mem_of_mem_take hr), h.sep.sublist (List.take_sublist _ _)⟩
theorem Good.drop {L : List Row} (h : Good L) (k : Nat) : Good (L.drop k) := ⟨fun r hr => h.row r (List.mem_of_mem_drop hr), h.sep.sublist (List.drop_sublist _ _)⟩
theorem total_snoc {L : List Row} {k : Nat} (hk : k < L.length) : total (L.take (k + 1)) = total (L.take k) + ((L.getD k (0, 0)).2 - (L.getD k (0, 0)).1) := by
  rw [List.take_add_one, List.getElem?_eq_getElem hk, total_append, List.getD_eq_getElem?_getD, List.getElem?_eq_getElem hk]
  simp [total]
/-- Three parts of a row of rows. -/
theorem cut3 (L : List Row) {i j : Nat} (h : i ≤ j) : L = L.take i ++ (L.drop i).take (j - i) ++ L.drop j := by
  have h1 : (L.drop i).take (j - i) ++ L.drop j = L.drop i := by
    have := List.take_append_drop (j - i) (L.drop i)
    rw [List.drop_drop, show i + (j - i) = j by omega] at this
    exact this
  rw [List.append_assoc, h1, List.take_append_drop]
theorem mem_take_get {L : List Row} {i : Nat} {a : Row} (h : a ∈ L.take i) : ∃ k, k < i ∧ k < L.length ∧ L.getD k (0, 0) = a := by
  obtain ⟨k, hk, e⟩ := List.mem_iff_getElem.1 h
  rw [List.length_take] at hk
  refine ⟨k, by omega, by omega, ?_⟩
  rw [List.getElem_take] at e
  rw [List.getD_eq_getElem?_getD, List.getElem?_eq_getElem (by omega : k < L.length)]
  exact e
theorem mem_drop_get {L : List Row} {i : Nat} {a : Row} (h : a ∈ L.drop i) : ∃ k, i ≤ k ∧ k < L.length ∧ L.getD k (0, 0) = a := by
  obtain ⟨k, hk, e⟩ := List.mem_iff_getElem.1 h
  rw [List.length_drop] at hk
  refine ⟨i + k, by omega, by omega, ?_⟩
  rw [List.getElem_drop] at e
  rw [List.getD_eq_getElem?_getD, List.getElem?_eq_getElem (by omega : i + k < L.length)]
  exact e
theorem mem_mid_get {L : List Row} {i j : Nat} {a : Row} (h : a ∈ (L.drop i).take (j - i)) : ∃ k, i ≤ k ∧ k < j ∧ k < L.length ∧ L.getD k (0, 0) = a := by
  obtain ⟨k, hk, e⟩ := List.mem_iff_getElem.1 h
  rw [List.length_take, List.length_drop] at hk
  refine ⟨i + k, by omega, by omega, by omega, ?_⟩
  rw [List.getElem_take, List.getElem_drop] at e
  rw [List.getD_eq_getElem?_getD, List.getElem?_eq_getElem (by omega : i + k < L.length)]
  exact e
/-- The rows that a row touches: i to j. -/
structure Touch (L : List Row) (f t : Int) (i j : Nat) : Prop where
  ij : i ≤ j
  jn : j ≤ L.length
  a : ∀ k, k < i → (L.getD k (0, 0)).2 < f
  b : ∀ k, i ≤ k → k < j → f ≤ (L.getD k (0, 0)).2 ∧ (L.getD k (0, 0)).1 ≤ t
  c : ∀ k, j ≤ k → k < L.length → t < (L.getD k (0, 0)).1
theorem Touch.parts {L : List Row} {f t : Int} {i j : Nat} (h : Touch L f t i j) : (∀ a ∈ L.take i, a.2 < f) ∧ (∀ b ∈ (L.drop i).take (j - i), f ≤ b.2 ∧ b.1 ≤ t) ∧ (∀ c ∈ L.drop j, t < c.1) := by
  refine ⟨fun a ha => ?_, fun b hb => ?_, fun c hc => ?_⟩
  · obtain ⟨k, h1, h2, rfl⟩ := mem_take_get ha; exact h.a k h1
  · obtain ⟨k, h1, h2, h3, rfl⟩ := mem_mid_get hb; exact h.b k h1 h2
  · obtain ⟨k, h1, h2, rfl⟩ := mem_drop_get hc; exact h.c k h1 h2
end Ra
end Go.Proofs.Ytlkbfacdaelbfaa
