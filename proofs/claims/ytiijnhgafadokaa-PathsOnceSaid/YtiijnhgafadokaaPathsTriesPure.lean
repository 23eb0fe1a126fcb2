/-
  One path alone in a table: what is due of it, tick by tick.
-/
import Derived.Test.YtiijnhgafadokaaPathsPure
namespace Go.Proofs.Ytiijnhgafadokaa.Paths
/-- Of all paths only the n-th is there: p. -/
structure Lone (T : Tab) (n : Nat) (p : Path) : Prop where
  rest : ∀ j, j ≠ n → (T j).st = 0
  at_ : T n = p
theorem Lone.st {T : Tab} {n : Nat} {p : Path} (h : Lone T n p) (hn : n < 256) : stOf T (n : Int) = p.st := by
  have : inR (n : Int) = true := by simp [inR]; omega
  rw [stOf, this, if_pos rfl, Int.toNat_natCast, h.at_]
theorem Lone.upd {T : Tab} {n : Nat} {p : Path} (h : Lone T n p) (q : Path) : Lone (upd T n q) n q :=
  ⟨fun j hj => by simp only [Paths.upd, if_neg hj]; exact h.rest j hj, by simp [Paths.upd]⟩
theorem Lone.due {T : Tab} {n : Nat} {p : Path} (h : Lone T n p) (hn : n < 256) (now : Int) : Lone (dueTo now T 256) n (dueP now p) := by
  refine ⟨fun j hj => ?_, by simp only [dueTo, if_pos hn, h.at_]⟩
  have := h.rest j hj
  unfold dueTo
  split
  · rw [dueP, if_pos (.inl (by rw [this]; decide))]; exact this
  · exact this
theorem Lone.dueL {T : Tab} {n : Nat} {p : Path} (h : Lone T n p) (now : Int) (m : Nat) : dueL now T m = if n < m ∧ told now p = true then [(n : Int)] else [] := by
  induction m with
  | zero => rw [if_neg (by omega)]; rfl
  | succ m ih =>
    rw [Paths.dueL, ih]
    by_cases e : m = n
    · subst e
      rw [if_neg (by omega), h.at_, List.nil_append]
      by_cases t : told now p = true
      · rw [if_pos t, if_pos ⟨by omega, t⟩]
      · rw [if_neg t, if_neg (fun h => t h.2)]
    · have : told now (T m) = false := by simp [told, h.rest m e]
      rw [this]
      simp only [Bool.false_eq_true, if_false, List.append_nil]
      by_cases hnm : n < m ∧ told now p = true
      · rw [if_pos hnm, if_pos ⟨by omega, hnm.2⟩]
      · rw [if_neg hnm, if_neg (fun h => hnm ⟨by omega, h.2⟩)]
theorem Lone.answer {T : Tab} {n : Nat} {p : Path} (h : Lone T n p) (hn : n < 256) (hs : p.st = 1) : answers T n p.tok = true ∧ Lone (answer T n p.tok) n { p with st := 2 } := by
  have hi : inR (n : Int) = true := by simp [inR]; omega
  have ha : answers T n p.tok = true := by rw [answers, hi, Int.toNat_natCast, h.at_]; simp [hs]
  refine ⟨ha, ?_⟩
  rw [Paths.answer, if_pos ha, Int.toNat_natCast, h.at_]
  exact h.upd _
theorem Lone.added {n : Nat} (hn : n < 256) (p : Path) : code new (n : Int) = 0 ∧ Lone (begins new (n : Int) p) n { p with rtt := 100 } := by
  have hi : inR (n : Int) = true := by simp [inR]; omega
  have hb : busy new 256 = 0 := by decide +kernel
  have hc : code new (n : Int) = 0 := by
    rw [code, hi, hb]; simp [new, none]
  refine ⟨hc, ?_⟩
  rw [begins, if_pos hc, Int.toNat_natCast]
  exact ⟨fun j hj => by simp only [Paths.upd, if_neg hj]; rfl, by simp [Paths.upd]⟩
theorem mom_id {n : Int} (h0 : 0 ≤ n) (h1 : n ≤ 1099511627776) : mom n = n := by unfold mom; rw [if_neg (by omega), if_neg (by omega)]

/-- When the path is due for the a-th time (0: the first). -/
def nx (a : Nat) : Int := match a with | 0 => 5 | 1 => 205 | 2 => 605 | 3 => 1405 | _ => 3005
def pa (a : Nat) (t : List Int) : Path := ⟨1, 100, a, nx a, t⟩
theorem due_pa (a : Nat) (ha : a < 4) (m : Int) (hm : m = nx a) (t : List Int) : dueP m (pa a t) = pa (a + 1) t := by
  subst hm
  have : a = 0 ∨ a = 1 ∨ a = 2 ∨ a = 3 := by omega
  rcases this with rfl | rfl | rfl | rfl <;> simp [dueP, pa, nx]
theorem due_pa4 (m : Int) (hm : m = 3005) (t : List Int) : (dueP m (pa 4 t)).st = 4 := by
  subst hm; simp [dueP, pa, nx]
/-- Where the law's loop stands. -/
inductive Tried (k : Int) (n : Nat) (t : List Int) (T : Tab) (now asked last : Int) : Prop where
  | new (a : Nat) (ha : a ≤ 4) (h : Lone T n (pa a t)) (e1 : asked = a) (e2 : a = 0 ∨ last = nx (a - 1)) (e3 : 5 ≤ now) (e4 : now ≤ nx a) (e5 : 1 ≤ k → k ≤ 4 → a ≤ k)
  | failed (q : Path) (hq : q.st = 4) (h : Lone T n q) (e1 : asked = 4) (e2 : ¬ (1 ≤ k ∧ k ≤ 4)) (e3 : 5 ≤ now) (e4 : now ≤ 3006)
end Go.Proofs.Ytiijnhgafadokaa.Paths
