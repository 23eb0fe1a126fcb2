/-
  WindowPlays, the plain law: a window and the row of all numbers answer alike.
-/
import Derived.Test.YtiijnhgafadokaaRefC
import Derived.Test.YtiijnhgafadokaaWinOrdPure
namespace Go.Proofs.Ytiijnhgafadokaa
open Go.RowKit Wins
set_option linter.unusedVariables false
set_option maxRecDepth 20000

theorem same_new : Same Wins.new [] := ⟨sees_new, rfl, List.nodup_nil⟩
theorem Same.chk {W : Win} {L : List Int} (h : Same W L) (n : Int) : Wins.chk W n = chkR L n := by
  have hn := h.next
  unfold chkR
  by_cases h1 : n < 0 ∨ 281474976710655 < n
  · rw [if_pos h1, Wins.chk, if_pos h1]
  · rw [if_neg h1]
    by_cases h2 : n ≤ topR L - 1024
    · rw [if_pos (.inl h2), Wins.chk, if_neg h1, if_pos (.inl (by omega))]
    · rw [h.sees.chk (by omega) (by omega) (by omega)]
      cases hasR L n with
      | true => rw [if_pos rfl, if_pos (.inr rfl)]
      | false => rw [if_neg (by decide), if_neg (by simp; omega)]
theorem Same.mark {W : Win} {L : List Int} (h : Same W L) (n : Int) : Same (marks W n) (markR L n) := by
  have hc := h.chk n
  by_cases h0 : chkR L n = 0
  · rw [h0] at hc
    obtain ⟨h1, h2⟩ := h.sees.put hc
    obtain ⟨k0, k1, k2, k3⟩ := chkR_zero h0
    unfold markR
    rw [if_pos h0]
    refine ⟨?_, ?_, ?_⟩
    · have e : hasR (L ++ [n]) = fun x => decide (x = n) || hasR L x := by
        funext x
        unfold hasR
        rw [List.any_append, Bool.or_comm]
        congr 1
        simp only [List.any_cons, List.any_nil, Bool.or_false]
        by_cases hx : n = x
        · subst hx; simp
        · rw [decide_eq_false (fun e => hx e.symm)]; simpa using hx
      rw [e]; exact h1
    · rw [topR_snoc, h2]
      have := h.next
      omega
    · refine List.nodup_append.2 ⟨h.nodup, by simp, fun x hx y hy => ?_⟩
      obtain rfl := List.mem_singleton.1 hy
      rintro rfl
      have := hasR_iff.2 hx
      rw [k3] at this
      exact absurd this (by decide)
  · rw [marks, if_neg (by rw [hc]; exact h0), markR, if_neg h0]
    exact h
theorem pop_has (L : List Int) (lo : Int) (n : Nat) : L.Nodup → (∀ x ∈ L, x < lo + n) → pop (fun k => hasR L (lo + k)) n = L.countP (fun x => decide (lo ≤ x)) := by
  induction L with
  | nil => intro _ _; rw [pop_congr (g := fun j => decide (n ≤ j)) (fun j hj => by rw [decide_eq_false (by omega)]; rfl), pop_from]; simp
  | cons y L ih =>
    intro hd hx
    have ih' := ih (List.nodup_cons.1 hd).2 fun x h => hx x (List.mem_cons_of_mem _ h)
    have hy := hx y (List.mem_cons_self ..)
    have hny : hasR L y = false := by
      cases hh : hasR L y with
      | false => rfl
      | true => exact absurd (hasR_iff.1 hh) (List.nodup_cons.1 hd).1
    rw [List.countP_cons]
    by_cases hl : lo ≤ y
    · obtain ⟨c, hc⟩ : ∃ c : Nat, y = lo + c := ⟨(y - lo).toNat, by omega⟩
      have e : pop (fun k => hasR (y :: L) (lo + k)) n = pop (upd (fun k => hasR L (lo + k)) c) n := pop_congr fun k hk => by
        unfold upd hasR
        rw [List.any_cons]
        by_cases h : k = c
        · subst h; rw [if_pos rfl, hc]; simp
        · rw [if_neg h]
          have : (y == lo + k) = false := by rw [beq_eq_false_iff_ne]; omega
          rw [this, Bool.false_or]
      rw [e, pop_upd, ih', if_pos ⟨by omega, by rw [← hc]; exact hny⟩, decide_eq_true hl]
      simp
    · rw [decide_eq_false hl]
      have e : pop (fun k => hasR (y :: L) (lo + k)) n = pop (fun k => hasR L (lo + k)) n := pop_congr fun k hk => by
        unfold hasR
        rw [List.any_cons]
        have : (y == lo + k) = false := by rw [beq_eq_false_iff_ne]; omega
        rw [this, Bool.false_or]
      rw [e, ih']; simp
theorem Same.count {W : Win} {L : List Int} (h : Same W L) : cnt W.m 16 = (cntR L : Int) := by
  have hn := h.next
  rw [h.sees.count, pop_has L _ 1024 h.nodup fun x hx => by have := topR_max hx; omega]
  unfold cntR
  congr 1
  apply congrArg (fun f => List.countP f L)
  funext x
  exact decide_eq_decide.2 (by omega)
end Go.Proofs.Ytiijnhgafadokaa
