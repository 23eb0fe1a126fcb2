/-
  Package aead: what the walk of tag keeps (its steps).
-/
import Derived.Test.YtebmbapaedlmiaaDoorAeX
namespace Go.Proofs.YtebmbapaedlmiaaDoor
open Go.RowKit Ae
set_option linter.unusedVariables false

theorem own_shape {w : World} {v : Value} {n : Nat} {xs : List Value} (h : w.ownsRow 0 5 1 v n xs) : ∃ A cap, v = .slice A n cap := by
  rcases h.2 with ⟨rfl, h0⟩ | ⟨g, cap, cur, rfl, _⟩
  · exact ⟨none, 0, by rw [h0]⟩
  · exact ⟨_, _, rfl⟩
theorem tag_pad {w wr : World} {S : Nat} {B : List Nat} {v : Value} {l : List Nat} (h : TagW w wr S B v l) (hl : l.length ≤ 200000000) :
    Calls Tryd.prog 20 #[v] wr (fun e w' => ∃ v', e = .returned v' ∧ TagW w w' S B v' (padL l)) :=
  (pad_any v l wr h.own hl).mono fun e w' ⟨v', he, ho, hg, hob⟩ => ⟨v', he, h.grown hg ho hob⟩
theorem tag_app {w wr : World} {S : Nat} {B : List Nat} {v x : Value} {l m : List Nat} (h : TagW w wr S B v l) (hx : RdB wr x m) (hn : l.length + m.length ≤ 400000000) :
    ∃ v' w', (Builtin.append_ #[26, 26] 26 #[v, x]).run Tryd.prog wr = .ok v' w' ∧ TagW w w' S B v' (l ++ m) ∧ wr.grownBy w' v.ownBlock := by
  obtain ⟨v', w', h1, h2, h3, h4⟩ := append_rd wr 26 v x l.length (bl l) m h.own hx hn
  rw [← bl_append, ← List.length_append] at h2
  exact ⟨v', w', h1, h.grown h3 h2 h4, h3⟩
/-- .. and the row of the two lengths. -/
structure TagV (w wr : World) (S : Nat) (B : List Nat) (G a b : Nat) (v : Value) (l : List Nat) : Prop where
  t : TagW w wr S B v l
  g : wr.heap[G]? = some (.cells #[.int .i64 (a : Int), .int .i64 (b : Int)] 3 (0, 0))
theorem TagV.chg {w wr w2 : World} {S : Nat} {B : List Nat} {G a b : Nat} {v : Value} {l : List Nat} (h : TagV w wr S B G a b v l) (hc : Chg Nowhere wr w2) : TagV w w2 S B G a b v l :=
  ⟨h.t.chg hc, hc.same h.g⟩
theorem TagV.app {w wr : World} {S : Nat} {B : List Nat} {G a b : Nat} {v x : Value} {l m : List Nat} (h : TagV w wr S B G a b v l) (hx : RdB wr x m) (hn : l.length + m.length ≤ 400000000) :
    ∃ v' w', (Builtin.append_ #[26, 26] 26 #[v, x]).run Tryd.prog wr = .ok v' w' ∧ TagV w w' S B G a b v' (l ++ m) := by
  obtain ⟨v', w', h1, h2, h3⟩ := tag_app h.t hx hn
  exact ⟨v', w', h1, h2, (h3.block _ (lt_blk h.g) (own_ne h.t.own h.g (by decide))).trans h.g⟩
/-- One byte in a row of its own is appended. -/
theorem TagV.one {w wr : World} {S : Nat} {B : List Nat} {G a b : Nat} {v : Value} {l : List Nat} (h : TagV w wr S B G a b v l) (y : Nat) (hn : l.length + 1 ≤ 400000000) :
    ∃ v' w', (Builtin.append_ #[26, 26] 26 #[v, .slice (some ⟨wr.heap.size, 0, none⟩) 1 1]).run Tryd.prog (wr.alloc (.cells #[.int .u8 (y : Int)] 5)) = .ok v' w' ∧ TagV w w' S B G a b v' (l ++ [y]) := by
  refine (h.chg ((Chg.refl Nowhere wr).alloc (.cells #[.int .u8 (y : Int)] 5))).app (m := [y]) ⟨rfl, _, 1, rfl, Nat.le_refl _, fun _ => ⟨wr.heap.size, 0, rfl, by simp, fun j hj => ?_⟩⟩ hn
  obtain rfl : j = 0 := by simpa [bl_len] using hj
  rw [cell_of_row _ _ _ _ _ _ (alloc_new wr _)]
  rfl
theorem bytesOf_snoc : ∀ (j n : Nat), bytesOf (j + 1) n = bytesOf j n ++ [n / 256 ^ j % 256]
  | 0, n => by simp [bytesOf]
  | j + 1, n => by
    rw [bytesOf, bytesOf_snoc j, bytesOf, List.cons_append, Nat.div_div_eq_div_mul, Nat.pow_succ, Nat.mul_comm 256]
theorem byte_at (n j : Nat) : ((n / 256 ^ j % 256 : Nat) : Int) = (n : Int) / 2 ^ (8 * j) % 256 := by
  rw [show (256 : Nat) ^ j = 2 ^ (8 * j) by rw [Nat.pow_mul]]
  simp
/-- The two lengths as bytes, as far as they are written. -/
def Ae.accT (P : List Nat) (a b : Nat) : Nat → List Nat
  | 0 => P
  | 1 => P ++ bytesOf 8 a
  | _ => P ++ bytesOf 8 a ++ bytesOf 8 b
theorem accT_byt {P : List Nat} (h : Byt P) (a b k : Nat) : Byt (accT P a b k) := by
  unfold accT
  split
  · exact h
  · exact h.append (bytesOf_byt _ _)
  · exact (h.append (bytesOf_byt _ _)).append (bytesOf_byt _ _)
theorem accT_len (P : List Nat) (a b k : Nat) : (accT P a b k).length ≤ P.length + 16 := by
  unfold accT
  split <;> simp [bytesOf_len] <;> omega
end Go.Proofs.YtebmbapaedlmiaaDoor
