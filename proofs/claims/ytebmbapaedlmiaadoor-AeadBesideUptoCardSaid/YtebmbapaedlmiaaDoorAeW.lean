/-
  Package aead: what the walk of tag asks: append of a slice that is read, the text that a tag is made of.
-/
import Derived.Test.YtebmbapaedlmiaaDoorAeV
namespace Go.Proofs.YtebmbapaedlmiaaDoor
open Go.RowKit Ae
set_option linter.unusedVariables false

theorem append_none (w : World) (ty : TypeId) (v : Value) (n c : Nat) (xs : List Value) (hown : w.ownsRow 0 5 1 v n xs) :
    (Builtin.append_ #[26, 26] ty #[v, .slice none 0 c]).run Tryd.prog w = .ok v w := by
  obtain ⟨i, hi, hz, hsize, hby⟩ := infoB_parts
  have ht := Tryd.underlying26
  rcases hown.2 with ⟨rfl, rfl⟩ | ⟨g, cap, cur, rfl, _, _, hnc, _⟩
  · simp [Builtin.append_, run_underlying ht, sizeOf, typeInfo, hi, Builtin.lenOf, Builtin.firstCells]
  · simp [Builtin.append_, run_underlying ht, sizeOf, typeInfo, hi, Builtin.lenOf, Builtin.firstCells, hnc, storeCells]
/-- A slice of bytes that is read, appended to a row of bytes of one's own. -/
theorem append_rd (w : World) (ty : TypeId) (v x : Value) (n : Nat) (xs : List Value) (l : List Nat) (hown : w.ownsRow 0 5 1 v n xs) (hx : RdB w x l) (hn : n + l.length ≤ 400000000) :
    ∃ v' w', (Builtin.append_ #[26, 26] ty #[v, x]).run Tryd.prog w = .ok v' w' ∧ w'.ownsRow 0 5 1 v' (n + l.length) (xs ++ bl l) ∧ w.grownBy w' v.ownBlock ∧ (v'.ownBlock = v.ownBlock ∨ v'.ownBlock = some w.heap.size) := by
  obtain ⟨i, hi, hz, hsize, hby⟩ := infoB_parts
  obtain ⟨-, A, c, rfl, hc, hA⟩ := hx
  cases A with
  | none =>
    have h0 : l = [] := by
      cases l with
      | nil => rfl
      | cons r l => obtain ⟨g, o, e, _⟩ := hA (by simp); cases e
    subst h0
    exact ⟨v, w, append_none w ty v n c xs hown, by simpa [bl] using hown, World.grownBy.refl _ _, .inl rfl⟩
  | some ad =>
    have hnews : ∀ j u, (bl l)[j]? = some u → w.cell? (ad.add j) = some u := fun j u hj => by
      have hlt : j < (bl l).length := (List.getElem?_eq_some_iff.1 hj).1
      have hll := bl_len l
      obtain ⟨g, o, e, hg, hcell⟩ := hA (by omega)
      cases e
      rw [Addr.add_mid]
      exact (hcell j hlt).trans hj
    obtain ⟨v', w', h1, h2, h3, -, h4⟩ := run_append_own_at (P := Tryd.prog) w 0 26 ty 5 i (.int .u8 0) 1 1 Tryd.underlying26 hi hz hsize hby rfl (by decide) v n xs hown ad l.length c (bl l) (by rw [bl_len, Nat.mul_one]) hnews (bl_one l) (by unfold maxLen; omega) (by omega) (Nat.zero_le _)
    exact ⟨v', w', h1, h2, h3, h4⟩
/-- What a tag is made of. -/
def Ae.tagT (beside sealed : List Nat) : List Nat := padL (padL beside ++ sealed) ++ bytesOf 8 beside.length ++ bytesOf 8 sealed.length
def Ae.tagL (key nonce beside sealed : List Nat) : List Nat := sumL ((block key 0 nonce).take 32) (tagT beside sealed)
theorem padL_len (l : List Nat) : (padL l).length ≤ l.length + 15 := by simp [padL]; omega
theorem padL_byt {l : List Nat} (h : Byt l) : Byt (padL l) := h.append (Byt.replicate _ (by decide))
theorem tagT_len (a b : List Nat) : (tagT a b).length ≤ a.length + b.length + 46 := by
  have h1 := padL_len a
  have h2 := padL_len (padL a ++ b)
  simp [tagT, bytesOf_len] at *
  omega
theorem tagT_byt {a b : List Nat} (ha : Byt a) (hb : Byt b) : Byt (tagT a b) :=
  ((padL_byt ((padL_byt ha).append hb)).append (bytesOf_byt 8 _)).append (bytesOf_byt 8 _)
theorem own_chg {w w' : World} {base : Nat} {e : TypeId} {size : Nat} {v : Value} {n : Nat} {xs : List Value} {S : Nat → Prop} (h : w.ownsRow base e size v n xs) (hc : Chg S w w') (hn : ∀ i, v.ownBlock = some i → ¬ S i) : w'.ownsRow base e size v n xs := by
  refine ⟨h.1, ?_⟩
  rcases h.2 with h0 | ⟨g, cap, cur, hv, hg, hh, h1⟩
  · exact .inl h0
  · refine .inr ⟨g, cap, cur, hv, hg, hc.keep hh (hn g (by rw [hv]; rfl)), h1⟩
/-- A row of one's own can be read. -/
theorem rd_own {w : World} {v : Value} {l : List Nat} (h : w.ownsRow 0 5 1 v l.length (bl l)) : RdB w v l := by
  refine ⟨h.1, ?_⟩
  rcases h.2 with ⟨rfl, h0⟩ | ⟨g, cap, cur, rfl, _, hg, hnc, _, hcs, htake⟩
  · exact ⟨none, 0, by rw [h0], by omega, fun hp => by omega⟩
  · refine ⟨_, cap, rfl, hnc, fun _ => ⟨g, 0, rfl, (Array.getElem?_eq_some_iff.1 hg).1, fun j hj => ?_⟩⟩
    rw [Nat.zero_add, cell_of_row w g j cur _ _ hg, ← htake, List.getElem?_take, if_pos (by rw [bl_len] at hj; omega)]
    simp
end Go.Proofs.YtebmbapaedlmiaaDoor
