/-
  What a table of paths and the row of the used numbers have in common, call by call.
-/
import Derived.Test.YtiijnhgafadokaaPathsPure
namespace Go.Proofs.Ytiijnhgafadokaa.Paths
def Busy (p : Path) : Prop := p.st = 1 ∨ p.st = 2
instance (p : Path) : Decidable (Busy p) := inferInstanceAs (Decidable (_ ∨ _))
theorem busy_step (T : Tab) (n : Nat) : busy T (n + 1) = busy T n + if Busy (T n) then 1 else 0 := rfl
theorem busy_mono {T T' : Tab} (n : Nat) (h : ∀ i, i < n → Busy (T' i) → Busy (T i)) : busy T' n ≤ busy T n := by
  induction n with
  | zero => exact Nat.le_refl _
  | succ n ih =>
    have := ih (fun i hi => h i (by omega))
    have hn := h n (by omega)
    rw [busy_step, busy_step]
    by_cases a : Busy (T' n)
    · rw [if_pos a, if_pos (hn a)]; omega
    · rw [if_neg a]; split <;> omega
theorem busy_one {T T' : Tab} (k n : Nat) (h : ∀ i, i < n → i ≠ k → Busy (T' i) → Busy (T i)) : busy T' n ≤ busy T n + 1 := by
  induction n with
  | zero => simp [busy]
  | succ n ih =>
    by_cases e : n = k
    · subst e
      have := busy_mono (T := T) (T' := T') n (fun i hi => h i (by omega) (by omega))
      rw [busy_step, busy_step]
      split <;> split <;> omega
    · have := ih (fun i hi => h i (by omega))
      have hn := h n (by omega) e
      rw [busy_step, busy_step]
      by_cases a : Busy (T' n)
      · rw [if_pos a, if_pos (hn a)]; omega
      · rw [if_neg a]; split <;> omega

/-- The row of the used numbers tells who is there; no more than 16 are new or live. -/
structure Inv (T : Tab) (u : Nat → Bool) : Prop where
  used : ∀ i, i < 256 → ((T i).st ≠ 0 ↔ u i = true)
  few : busy T 256 ≤ 16
def usedUp (u : Nat → Bool) (k : Nat) : Nat → Bool := fun j => if j = k then true else u j
theorem Inv.new : Inv new (fun _ => false) := ⟨fun i _ => by simp [Paths.new, none], by decide +kernel⟩
theorem Inv.mono {T T' : Tab} {u : Nat → Bool} (h : Inv T u) (h0 : ∀ i, i < 256 → ((T' i).st ≠ 0 ↔ (T i).st ≠ 0)) (hb : ∀ i, i < 256 → Busy (T' i) → Busy (T i)) : Inv T' u :=
  ⟨fun i hi => (h0 i hi).trans (h.used i hi), Nat.le_trans (busy_mono 256 hb) h.few⟩
theorem Inv.due {T : Tab} {u : Nat → Bool} (h : Inv T u) (now : Int) : Inv (dueTo now T 256) u := by
  refine h.mono (fun i hi => ?_) (fun i hi => ?_)
  · unfold dueTo; rw [if_pos hi]; unfold dueP; split
    · exact Iff.rfl
    · rename_i hc; split
      · show (4 : Int) ≠ 0 ↔ _; constructor <;> intro _ <;> omega
      · exact Iff.rfl
  · unfold dueTo; rw [if_pos hi]; unfold dueP Busy; split
    · exact id
    · split
      · show (4 : Int) = 1 ∨ (4 : Int) = 2 → _; omega
      · exact id
theorem upd_st {T : Tab} {k : Nat} {p : Path} (i : Nat) : (upd T k p i) = if i = k then p else T i := rfl
theorem inR_iff (id : Int) : inR id = true ↔ 0 ≤ id ∧ id < 256 := by simp [inR]
theorem Inv.answer {T : Tab} {u : Nat → Bool} (h : Inv T u) (id : Int) (tok : List Int) : Inv (answer T id tok) u := by
  unfold Paths.answer
  split
  · rename_i ha
    have hs : (T id.toNat).st = 1 := by simp [answers] at ha; exact ha.1.2
    refine h.mono (fun i _ => ?_) (fun i _ => ?_)
    · rw [upd_st]; split
      · rename_i e; subst e; show (2 : Int) ≠ 0 ↔ _; rw [hs]; decide
      · exact Iff.rfl
    · unfold Busy; rw [upd_st]; split
      · rename_i e; subst e; rw [hs]; intro _; exact .inl rfl
      · exact fun h => h
  · exact h
theorem Inv.remove {T : Tab} {u : Nat → Bool} (h : Inv T u) (id : Int) : Inv (remove T id) u := by
  unfold Paths.remove
  split
  · rename_i ha
    have hs : (T id.toNat).st = 1 ∨ (T id.toNat).st = 2 := by
      simp only [removes, stOf] at ha
      split at ha <;> simp_all
    refine h.mono (fun i _ => ?_) (fun i _ => ?_)
    · rw [upd_st]; split
      · rename_i e; subst e; show (3 : Int) ≠ 0 ↔ _; constructor <;> intro _ <;> omega
      · exact Iff.rfl
    · unfold Busy; rw [upd_st]; split
      · show (3 : Int) = 1 ∨ (3 : Int) = 2 → _; omega
      · exact fun h => h
  · exact h
theorem code_zero {T : Tab} {id : Int} (h : code T id = 0) : 0 ≤ id ∧ id < 256 ∧ (T id.toNat).st = 0 ∧ busy T 256 < 16 := by
  unfold code at h
  split at h
  · exact absurd h (by decide)
  · rename_i hi
    split at h
    · exact absurd h (by decide)
    · split at h
      · exact absurd h (by decide)
      · have := (inR_iff id).1 (by simpa using hi)
        exact ⟨this.1, this.2, by omega, by omega⟩
theorem code_used {T : Tab} {id : Int} (h0 : 0 ≤ id) (h1 : id < 256) (h : (T id.toNat).st ≠ 0) : code T id = 201 := by
  unfold code
  rw [if_neg (by rw [(inR_iff id).2 ⟨h0, h1⟩]; decide), if_pos h]
theorem begins_fail {T : Tab} {id : Int} {p : Path} (h : code T id ≠ 0) : begins T id p = T := by rw [begins, if_neg h]
theorem Inv.add {T : Tab} {u : Nat → Bool} (h : Inv T u) {id : Int} (hc : code T id = 0) (p : Path) (hp : p.st ≠ 0) : Inv (begins T id p) (usedUp u id.toNat) ∧ u id.toNat = false := by
  obtain ⟨h0, h1, hs, hb⟩ := code_zero hc
  refine ⟨⟨fun i hi => ?_, ?_⟩, ?_⟩
  · rw [begins, if_pos hc, upd_st, usedUp]
    split
    · simp [hp]
    · exact h.used i hi
  · have := busy_one (T := T) (T' := begins T id p) id.toNat 256 (fun i _ hne => by rw [begins, if_pos hc, upd_st, if_neg hne]; exact fun h => h)
    omega
  · have := h.used id.toNat (by omega)
    cases hu : u id.toNat with
    | false => rfl
    | true => exact absurd hs (this.2 hu)
end Go.Proofs.Ytiijnhgafadokaa.Paths
