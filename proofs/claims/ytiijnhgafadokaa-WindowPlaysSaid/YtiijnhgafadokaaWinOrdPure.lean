/-
  WindowOrder's plain law: numbers within 1024 of a first one.
-/
import Derived.Test.YtiijnhgafadokaaWinSees
namespace Go.Proofs.Ytiijnhgafadokaa
open Go.RowKit Wins
set_option linter.unusedVariables false
set_option maxRecDepth 20000

def ord (a : Nat) (u : Nat → Bool) (x : Int) : Bool := decide ((a : Int) ≤ x ∧ x < (a : Int) + 1024) && u (x - a).toNat
def upd (u : Nat → Bool) (k : Nat) : Nat → Bool := fun i => if i = k then true else u i
structure OrdWin (W : Win) (a : Nat) (u : Nat → Bool) : Prop where
  sees : Sees W (ord a u)
  top : W.next = 0 ∧ (∀ k, k < 1024 → u k = false) ∨ a < W.next ∧ W.next ≤ a + 1024 ∧ u (W.next - 1 - a) = true
theorem ord_in {a k : Nat} {u : Nat → Bool} (hk : k < 1024) : ord a u ((a : Int) + k) = u k := by
  unfold ord
  rw [decide_eq_true (by omega), Bool.true_and]
  congr 1; omega
theorem ordWin_new (a : Nat) : OrdWin Wins.new a (fun _ => false) := by
  refine ⟨?_, .inl ⟨rfl, fun _ _ => rfl⟩⟩
  have e : ord a (fun _ => false) = fun _ => false := by funext x; unfold ord; simp
  rw [e]; exact sees_new
theorem OrdWin.chk {W : Win} {a k : Nat} {u : Nat → Bool} (h : OrdWin W a u) (hk : k < 1024) (ha : a + 1024 ≤ 281474976710655) : Wins.chk W ((a : Int) + k) = if u k then 140 else 0 := by
  have := h.top
  rw [h.sees.chk (by omega) (by omega) (by omega), ord_in hk]
theorem upd_same {u : Nat → Bool} {k : Nat} (h : u k = true) : upd u k = u := by
  funext i; unfold upd; split
  · rename_i e; rw [e, h]
  · rfl
theorem OrdWin.step {W : Win} {a k : Nat} {u : Nat → Bool} (h : OrdWin W a u) (hk : k < 1024) (ha : a + 1024 ≤ 281474976710655) : OrdWin (marks W ((a : Int) + k)) a (upd u k) ∧ (marks W ((a : Int) + k)).next = max W.next (a + k + 1) := by
  have hc := h.chk hk ha
  have ht := h.top
  cases hu : u k with
  | true =>
    rw [hu, if_pos rfl] at hc
    rw [marks, if_neg (by rw [hc]; decide), upd_same hu]
    refine ⟨h, ?_⟩
    rcases (by omega : a + k < W.next ∨ W.next ≤ a + k) with h1 | h1
    · omega
    · have := h.sees.top ((a : Int) + k) (by omega)
      rw [ord_in hk, hu] at this
      exact absurd this (by decide)
  | false =>
    rw [hu, if_neg (by decide)] at hc
    obtain ⟨h1, h2⟩ := h.sees.put hc
    have h3 : (marks W ((a : Int) + k)).next = max W.next (a + k + 1) := by rw [h2]; omega
    refine ⟨⟨?_, .inr ⟨by omega, by omega, ?_⟩⟩, h3⟩
    · have e : ord a (upd u k) = fun x => decide (x = (a : Int) + k) || ord a u x := by
        funext x
        unfold ord upd
        by_cases hx : (a : Int) ≤ x ∧ x < (a : Int) + 1024
        · rw [decide_eq_true hx, Bool.true_and, Bool.true_and]
          by_cases hxk : x = (a : Int) + k
          · rw [if_pos (by omega), decide_eq_true hxk]; rfl
          · rw [if_neg (by omega), decide_eq_false hxk]; rfl
        · rw [decide_eq_false hx, decide_eq_false (by omega)]; rfl
      rw [e]; exact h1
    · rw [h3]
      unfold upd
      rcases ht with ⟨t0, _⟩ | ⟨t0, t1, t2⟩
      · rw [if_pos (by omega)]
      · rcases (by omega : W.next ≤ a + k ∨ a + k < W.next) with h4 | h4
        · rw [if_pos (by omega)]
        · have e : max W.next (a + k + 1) = W.next := by omega
          rw [e, t2]; split <;> rfl
theorem OrdWin.count {W : Win} {a : Nat} {u : Nat → Bool} (h : OrdWin W a u) : cnt W.m 16 = (pop u 1024 : Int) := by
  have ht := h.top
  have e : pop (fun k => W.m ((a + k) % 1024)) 1024 = pop u 1024 := pop_congr fun k hk => by
    rcases (by omega : a + k < W.next ∨ W.next ≤ a + k) with h1 | h1
    · have := h.sees.bit ((a : Int) + k) (by omega) (by omega)
      rw [ord_in hk] at this
      rw [← this]
      congr 1 <;> omega
    · have h2 := h.sees.top ((a : Int) + k) (by omega)
      rw [ord_in hk] at h2
      rw [h2]
      rcases ht with ⟨t0, t1⟩ | ⟨t0, t1, t2⟩
      · have := h.sees.bit ((((a + k) % 1024 : Nat) : Int) - 1024) (by omega) (by omega)
        rw [h.sees.low _ (by omega)] at this
        rw [← this]
        congr 1 <;> omega
      · have := h.sees.bit ((a : Int) + k - 1024) (by omega) (by omega)
        have e1 : ord a u ((a : Int) + k - 1024) = false := by unfold ord; rw [decide_eq_false (by omega)]; rfl
        rw [e1] at this
        rw [← this]
        congr 1 <;> omega
  rw [cnt_turn W.m a, e]
theorem pop_upd (u : Nat → Bool) (k : Nat) : ∀ n, pop (upd u k) n = pop u n + if k < n ∧ u k = false then 1 else 0
  | 0 => by simp [pop]
  | n + 1 => by
    rw [pop, pop, pop_upd u k n]
    unfold upd
    by_cases hn : n = k
    · subst hn
      rw [if_pos rfl, if_neg (by omega)]
      cases hu : u n with
      | true => simp
      | false => simp
    · rw [if_neg hn]
      have e : (k < n + 1 ∧ u k = false) ↔ (k < n ∧ u k = false) := ⟨fun ⟨x, y⟩ => ⟨by omega, y⟩, fun ⟨x, y⟩ => ⟨by omega, y⟩⟩
      simp only [e]
      omega

/-! What Below tells. -/
def tot : List (Int × Int) → Int
  | [] => 0
  | r :: L => (r.2 - r.1) + tot L
theorem tot_append (L M : List (Int × Int)) : tot (L ++ M) = tot L + tot M := by
  induction L with
  | nil => simp [tot]
  | cons r L ih => rw [List.cons_append, tot, tot, ih]; omega
theorem tot_reverse (L : List (Int × Int)) : tot L.reverse = tot L := by
  induction L with
  | nil => rfl
  | cons r L ih => rw [List.reverse_cons, tot_append, ih, tot, tot, tot]; omega
/-- Every range holds marked numbers alone, below the top. -/
def Good (p : Int → Bool) (L : List (Int × Int)) : Prop := ∀ r, r ∈ L → r.1 ≤ r.2 ∧ ∀ x, r.1 ≤ x → x < r.2 → p x = true
theorem bel_good (W : Win) (p : Int → Bool) (lo : Nat) (d : Nat) : ∀ (L : List (Int × Int)), (∀ j, j < d → hasB W (lo + j) = true → p ((lo + j : Nat) : Int) = true) → L.length + d ≤ 1024 → Good p L →
    Good p (bel W 1024 lo d L) ∧ tot (bel W 1024 lo d L) = tot L + (pop (fun j => hasB W (lo + j)) d : Nat) ∧ (bel W 1024 lo d L).length ≤ 1024 := by
  induction d with
  | zero => intro L _ hl hG; exact ⟨hG, by simp [bel, pop], by simpa [bel] using hl⟩
  | succ d ih =>
    intro L hp hl hG
    rw [bel, pop]
    have hp' := fun j (hj : j < d) => hp j (by omega)
    by_cases hh : hasB W (lo + d) = false
    · rw [if_pos hh]
      have := ih L hp' (by omega) hG
      rw [hh]
      simpa using this
    · rw [if_neg hh]
      have ht : hasB W (lo + d) = true := by simpa using hh
      have hpt := hp d (by omega) ht
      have hnew : ∀ L, Good p L → Good p (L ++ [(((lo + d : Nat) : Int), ((lo + d : Nat) : Int) + 1)]) := fun L hG r hr => by
        rcases List.mem_append.1 hr with hr | hr
        · exact hG r hr
        · obtain rfl := List.mem_singleton.1 hr
          refine ⟨by simp only; omega, fun x h1 h2 => ?_⟩
          have : x = ((lo + d : Nat) : Int) := by simp only at h1 h2; omega
          rw [this]; exact hpt
      rw [ht, if_pos rfl]
      rcases List.eq_nil_or_concat L with rfl | ⟨L0, r, rfl⟩
      · simp only [List.getLast?_nil, List.length_nil]
        rw [if_neg (by simp)]
        have := ih _ hp' (by simp at hl ⊢; omega) (hnew [] hG)
        refine ⟨this.1, ?_, this.2.2⟩
        rw [this.2.1]; simp [tot]; omega
      · rw [List.concat_eq_append] at *
        have hlast : (L0 ++ [r]).getLast? = some r := by simp
        rw [hlast]
        simp only
        have hlen : (L0 ++ [r]).length = L0.length + 1 := by simp
        rw [hlen] at hl ⊢
        by_cases hr : r.1 = ((lo + d : Nat) : Int) + 1
        · rw [if_pos hr]
          have hset : (L0 ++ [r]).set (L0.length + 1 - 1) (((lo + d : Nat) : Int), r.2) = L0 ++ [(((lo + d : Nat) : Int), r.2)] := by simp
          rw [hset]
          have hrG := hG r (by simp)
          have hG2 : Good p (L0 ++ [(((lo + d : Nat) : Int), r.2)]) := fun q hq => by
            rcases List.mem_append.1 hq with hq | hq
            · exact hG q (List.mem_append_left _ hq)
            · obtain rfl := List.mem_singleton.1 hq
              refine ⟨by have := hrG.1; simp only; omega, fun x h1 h2 => ?_⟩
              by_cases hx : x = ((lo + d : Nat) : Int)
              · rw [hx]; exact hpt
              · exact hrG.2 x (by simp only at h1; omega) h2
          have := ih _ hp' (by simp; omega) hG2
          refine ⟨this.1, ?_, this.2.2⟩
          rw [this.2.1, tot_append, tot_append]; simp [tot]; omega
        · rw [if_neg hr, if_neg (by omega)]
          have := ih _ hp' (by simp; omega) (hnew _ hG)
          refine ⟨this.1, ?_, this.2.2⟩
          rw [this.2.1, tot_append, tot_append]; simp [tot]; omega
/-- What may be told: marked, and below the top. -/
def under (a : Nat) (u : Nat → Bool) (t : Int) (x : Int) : Bool := ord a u x && decide (x < t)
theorem OrdWin.told {W : Win} {a : Nat} {u : Nat → Bool} (h : OrdWin W a u) : Good (under a u ((W.next : Int) - 1)) (below W 1024) ∧ tot (below W 1024) = max 0 ((pop u 1024 : Int) - 1) ∧ (below W 1024).length ≤ 1024 := by
  have ht := h.top
  have hcount := h.count
  rw [h.sees.count] at hcount
  obtain ⟨h1, h2, h3⟩ := bel_good W (under a u ((W.next : Int) - 1)) (lowest W) (W.next - 1 - lowest W) [] (fun j hj hb => by
    rw [h.sees.has (by unfold lowest; omega)] at hb
    unfold under
    rw [hb, Bool.true_and]
    exact decide_eq_true (by omega)) (by unfold lowest; simp; omega) (fun r hr => absurd hr (by simp))
  refine ⟨fun r hr => h1 r (List.mem_reverse.1 hr), ?_, by unfold below; rw [List.length_reverse]; exact h3⟩
  unfold below
  rw [tot_reverse, h2]
  have hall : pop (fun k => ord a u ((W.next : Int) - 1024 + k)) 1024 = pop (fun j => hasB W (lowest W + j)) (W.next - lowest W) := by
    have hs : 1024 = (1024 - (W.next - lowest W)) + (W.next - lowest W) := by unfold lowest; omega
    have h0 : pop (fun k => ord a u ((W.next : Int) - 1024 + k)) (1024 - (W.next - lowest W)) = 0 := by
      rw [pop_congr (g := fun j => decide (1024 ≤ j)) (fun j hj => ?_), pop_from]
      · omega
      · rw [h.sees.low _ (by unfold lowest at hj; omega), decide_eq_false (by omega)]
    have h4 : pop (fun k => ord a u ((W.next : Int) - 1024 + k)) ((1024 - (W.next - lowest W)) + (W.next - lowest W)) = _ := pop_add _ _ _
    rw [← hs] at h4
    rw [h4, h0, Nat.zero_add]
    refine pop_congr fun j hj => ?_
    rw [h.sees.has (by unfold lowest; omega)]
    congr 1
    unfold lowest at hj ⊢
    omega
  rw [hall] at hcount
  clear hall
  obtain ⟨N, hN⟩ : ∃ N, N = pop u 1024 := ⟨_, rfl⟩
  rw [← hN] at hcount ⊢
  clear hN
  rcases ht with ⟨t0, t1⟩ | ⟨t0, t1, t2⟩
  · have e : W.next - 1 - lowest W = 0 := by omega
    have e2 : W.next - lowest W = 0 := by omega
    rw [e]
    rw [e2] at hcount
    simp only [pop] at hcount ⊢
    simp only [tot]
    omega
  · have e : W.next - lowest W = (W.next - 1 - lowest W) + 1 := by unfold lowest; omega
    rw [e, pop] at hcount
    have hb : hasB W (lowest W + (W.next - 1 - lowest W)) = true := by
      rw [h.sees.has (by unfold lowest; omega)]
      have e3 : ((lowest W + (W.next - 1 - lowest W) : Nat) : Int) = (a : Int) + ((W.next - 1 - a : Nat) : Int) := by unfold lowest; omega
      rw [e3, ord_in (by omega), t2]
    rw [if_pos hb] at hcount
    simp only [tot]
    omega
end Go.Proofs.Ytiijnhgafadokaa
