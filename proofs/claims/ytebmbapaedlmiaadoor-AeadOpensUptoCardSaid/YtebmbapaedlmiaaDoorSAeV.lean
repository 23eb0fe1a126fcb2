/-
  Package aead: pad (the walk).
  Package aead: what the walk of tag asks: append of a slice that is read, the text that a tag is made of.
  Package aead: what the walk of tag keeps.
  Package aead: what the walk of tag keeps (its steps).
-/
import Derived.Test.YtebmbapaedlmiaaDoorSAeU

namespace Go.Proofs.YtebmbapaedlmiaaDoor
open Go.RowKit Ae
set_option linter.unusedVariables false

/-- A text made whole to pieces of sixteen. -/
def Ae.padL (l : List Nat) : List Nat := l ++ List.replicate ((16 - l.length % 16) % 16) 0
def GivesPad (w : World) (v : Value) (l : List Nat) : Ending → World → Prop := fun e w' =>
  ∃ v', e = .returned v' ∧ w'.ownsRow 0 5 1 v' l.length (bl l) ∧ w.grownBy w' v.ownBlock ∧ (v'.ownBlock = v.ownBlock ∨ v'.ownBlock = some w.heap.size)
set_option maxHeartbeats 800000 in
set_option maxRecDepth 100000 in
theorem pad_any (v : Value) (l : List Nat) (w : World) (h : w.ownsRow 0 5 1 v l.length (bl l)) (hl : l.length ≤ 200000000) :
    Calls Tryd.prog 20 #[v] w (GivesPad w v (padL l)) := by
  obtain ⟨r, hr⟩ : ∃ r, r = l.length % 16 := ⟨_, rfl⟩
  obtain ⟨s, hs⟩ : ∃ s, s = 16 - r := ⟨_, rfl⟩
  obtain ⟨k, hk⟩ : ∃ k, k = s % 16 := ⟨_, rfl⟩
  have hP : padL l = l ++ List.replicate k 0 := by rw [hk, hs, hr]; rfl
  have h1 : (l.length : Int) % 16 = (r : Int) := by omega
  have h2 : (16 : Int) - (r : Int) = (s : Int) := by omega
  have h3 : (s : Int) % 16 = (k : Int) := by omega
  have hk16 : k ≤ 16 := by omega
  obtain ⟨v', w', hrun, hown, hg, hob⟩ := append_zeros w 26 v l.length (bl l) h k hk16 hl
  have HV : GivesPad w v (padL l) (.returned v') w' := ⟨v', rfl, by rw [hP, bl_append, List.length_append, List.length_replicate]; exact hown, hg, hob⟩
  have HP := Lib.hid HV
  clear HV hown hg hob hP hr hs hk
  obtain ⟨A, cap, rfl⟩ : ∃ A cap, v = .slice A l.length cap := by
    rcases h.2 with ⟨rfl, h0⟩ | ⟨g, cap, cur, rfl, _⟩
    · exact ⟨none, 0, by rw [h0]⟩
    · exact ⟨_, _, rfl⟩
  have HR := Lib.hid hrun
  clear h hrun
  go_enter Tryd.func20, Tryd.ntmps20
  go_wp2_with (at_builtin; (refine Lib.wpList_append_run _ rfl _ _ 26 3 rfl (.slice A l.length cap) (.int .i64 (k : Int)) rfl (congrArg (Value.int .i64) h3) v' w' HR.out ?_))
  go_ret
  exact HP.out
end Go.Proofs.YtebmbapaedlmiaaDoor

namespace Go.Proofs.YtebmbapaedlmiaaDoor
open Go.RowKit Ae
set_option linter.unusedVariables false

theorem append_none (w : World) (ty : TypeId) (v : Value) (n c : Nat) (xs : List Value) (hown : w.ownsRow 0 5 1 v n xs) :
    (Builtin.append_ #[26, 26] ty #[v, .slice none 0 c]).run Tryd.prog w = .ok v w := by
  obtain ⟨i, hi, hz, hsize, hby⟩ := infoB_parts
  have ht := Tryd.underlying26
  rcases hown.2 with ⟨rfl, rfl⟩ | ⟨g, cap, cur, rfl, _, _, hnc, _⟩
  · simp [Builtin.append_, run_underlying ht, sizeOf, typeInfo, hi, Builtin.lenOf, Builtin.firstCells]
  · simp [Builtin.append_, run_underlying ht, sizeOf, typeInfo, hi, Builtin.lenOf, Builtin.firstCells, hnc, storeCells]
/-- A slice of bytes that is read, appended to a row of bytes of one's own. -/
theorem append_rd (w : World) (ty : TypeId) (v x : Value) (n : Nat) (xs : List Value) (l : List Nat) (hown : w.ownsRow 0 5 1 v n xs) (hx : RdB w x l) (hn : n + l.length ≤ 400000000) :
    ∃ v' w', (Builtin.append_ #[26, 26] ty #[v, x]).run Tryd.prog w = .ok v' w' ∧ w'.ownsRow 0 5 1 v' (n + l.length) (xs ++ bl l) ∧ w.grownBy w' v.ownBlock ∧ (v'.ownBlock = v.ownBlock ∨ v'.ownBlock = some w.heap.size) := by
  obtain ⟨i, hi, hz, hsize, hby⟩ := infoB_parts
  obtain ⟨-, A, c, rfl, hc, hA⟩ := hx
  cases A with
  | none =>
    have h0 : l = [] := by
      cases l with
      | nil => rfl
      | cons r l => obtain ⟨g, o, e, _⟩ := hA (by simp); cases e
    subst h0
    exact ⟨v, w, append_none w ty v n c xs hown, by simpa [bl] using hown, World.grownBy.refl _ _, .inl rfl⟩
  | some ad =>
    have hnews : ∀ j u, (bl l)[j]? = some u → w.cell? (ad.add j) = some u := fun j u hj => by
      have hlt : j < (bl l).length := (List.getElem?_eq_some_iff.1 hj).1
      have hll := bl_len l
      obtain ⟨g, o, e, hg, hcell⟩ := hA (by omega)
      cases e
      rw [Addr.add_mid]
      exact (hcell j hlt).trans hj
    obtain ⟨v', w', h1, h2, h3, -, h4⟩ := run_append_own_at (P := Tryd.prog) w 0 26 ty 5 i (.int .u8 0) 1 1 Tryd.underlying26 hi hz hsize hby rfl (by decide) v n xs hown ad l.length c (bl l) (by rw [bl_len, Nat.mul_one]) hnews (bl_one l) (by unfold maxLen; omega) (by omega) (Nat.zero_le _)
    exact ⟨v', w', h1, h2, h3, h4⟩
/-- What a tag is made of. -/
def Ae.tagT (beside sealed : List Nat) : List Nat := padL (padL beside ++ sealed) ++ bytesOf 8 beside.length ++ bytesOf 8 sealed.length
def Ae.tagL (key nonce beside sealed : List Nat) : List Nat := sumL ((block key 0 nonce).take 32) (tagT beside sealed)
theorem padL_len (l : List Nat) : (padL l).length ≤ l.length + 15 := by simp [padL]; omega
theorem padL_byt {l : List Nat} (h : Byt l) : Byt (padL l) := h.append (Byt.replicate _ (by decide))
theorem tagT_len (a b : List Nat) : (tagT a b).length ≤ a.length + b.length + 46 := by
  have h1 := padL_len a
  have h2 := padL_len (padL a ++ b)
  simp [tagT, bytesOf_len] at *
  omega
theorem tagT_byt {a b : List Nat} (ha : Byt a) (hb : Byt b) : Byt (tagT a b) :=
  ((padL_byt ((padL_byt ha).append hb)).append (bytesOf_byt 8 _)).append (bytesOf_byt 8 _)
theorem own_chg {w w' : World} {base : Nat} {e : TypeId} {size : Nat} {v : Value} {n : Nat} {xs : List Value} {S : Nat → Prop} (h : w.ownsRow base e size v n xs) (hc : Chg S w w') (hn : ∀ i, v.ownBlock = some i → ¬ S i) : w'.ownsRow base e size v n xs := by
  refine ⟨h.1, ?_⟩
  rcases h.2 with h0 | ⟨g, cap, cur, hv, hg, hh, h1⟩
  · exact .inl h0
  · refine .inr ⟨g, cap, cur, hv, hg, hc.keep hh (hn g (by rw [hv]; rfl)), h1⟩
/-- A row of one's own can be read. -/
theorem rd_own {w : World} {v : Value} {l : List Nat} (h : w.ownsRow 0 5 1 v l.length (bl l)) : RdB w v l := by
  refine ⟨h.1, ?_⟩
  rcases h.2 with ⟨rfl, h0⟩ | ⟨g, cap, cur, rfl, _, hg, hnc, _, hcs, htake⟩
  · exact ⟨none, 0, by rw [h0], by omega, fun hp => by omega⟩
  · refine ⟨_, cap, rfl, hnc, fun _ => ⟨g, 0, rfl, (Array.getElem?_eq_some_iff.1 hg).1, fun j hj => ?_⟩⟩
    rw [Nat.zero_add, cell_of_row w g j cur _ _ hg, ← htake, List.getElem?_take, if_pos (by rw [bl_len] at hj; omega)]
    simp
end Go.Proofs.YtebmbapaedlmiaaDoor

namespace Go.Proofs.YtebmbapaedlmiaaDoor
open Go.RowKit Ae
set_option linter.unusedVariables false

theorem own_blk {w : World} {base : Nat} {e : TypeId} {size : Nat} {v : Value} {n : Nat} {xs : List Value} (h : w.ownsRow base e size v n xs) {i : Nat} (hi : v.ownBlock = some i) : ∃ cur, w.heap[i]? = some (.cells cur e (0,0)) := by
  rcases h.2 with ⟨rfl, _⟩ | ⟨g, cap, cur, rfl, _, hh, _⟩
  · cases hi
  · simp only [Value.ownBlock, Option.some.injEq] at hi; subst hi; exact ⟨_, hh⟩
/-- A block of another kind is not the row's. -/
theorem own_ne {w : World} {base : Nat} {e t : TypeId} {size : Nat} {v : Value} {n : Nat} {xs : List Value} {cs : Array Value} (h : w.ownsRow base e size v n xs) {b : Nat} (hb : w.heap[b]? = some (.cells cs t (0, 0))) (ht : t ≠ e) : some b ≠ v.ownBlock := fun q => by
  obtain ⟨cur, hc⟩ := own_blk h q.symm
  rw [hb] at hc
  simp only [Option.some.injEq, Obj.cells.injEq] at hc
  exact ht hc.2.1
structure TagW (w wr : World) (S : Nat) (B : List Nat) (v : Value) (l : List Nat) : Prop where
  r : wr.heap[w.heap.size + 1 + 1]? = some (.cells (bs (List.replicate 16 0)) 36 (0, 0))
  s : wr.heap[S]? = some (.cells (bs B) 43 (0, 0))
  own : wr.ownsRow 0 5 1 v l.length (bl l)
  ge : ∀ i, v.ownBlock = some i → w.heap.size ≤ i
  c : Chg Nowhere w wr
theorem TagW.chg {w wr w2 : World} {S : Nat} {B : List Nat} {v : Value} {l : List Nat} (h : TagW w wr S B v l) (hc : Chg Nowhere wr w2) : TagW w w2 S B v l :=
  ⟨hc.same h.r, hc.same h.s, own_chg h.own hc (fun _ _ => not_nowhere _), h.ge, h.c.then_none hc⟩
theorem TagW.grown {w wr w2 : World} {S : Nat} {B : List Nat} {v v' : Value} {l l' : List Nat} (h : TagW w wr S B v l) (hg : wr.grownBy w2 v.ownBlock) (ho : w2.ownsRow 0 5 1 v' l'.length (bl l')) (hob : v'.ownBlock = v.ownBlock ∨ v'.ownBlock = some wr.heap.size) : TagW w w2 S B v' l' :=
  ⟨(hg.block _ (lt_blk h.r) (own_ne h.own h.r (by decide))).trans h.r, (hg.block _ (lt_blk h.s) (own_ne h.own h.s (by decide))).trans h.s, ho, fun i hi => by
    rcases hob with e | e <;> rw [e] at hi
    · exact h.ge i hi
    · injection hi with e2
      have := h.c.size
      omega, h.c.grown hg (fun k hk => .inl (h.ge k hk))⟩
end Go.Proofs.YtebmbapaedlmiaaDoor

namespace Go.Proofs.YtebmbapaedlmiaaDoor
open Go.RowKit Ae
set_option linter.unusedVariables false

theorem own_shape {w : World} {v : Value} {n : Nat} {xs : List Value} (h : w.ownsRow 0 5 1 v n xs) : ∃ A cap, v = .slice A n cap := by
  rcases h.2 with ⟨rfl, h0⟩ | ⟨g, cap, cur, rfl, _⟩
  · exact ⟨none, 0, by rw [h0]⟩
  · exact ⟨_, _, rfl⟩
theorem tag_pad {w wr : World} {S : Nat} {B : List Nat} {v : Value} {l : List Nat} (h : TagW w wr S B v l) (hl : l.length ≤ 200000000) :
    Calls Tryd.prog 20 #[v] wr (fun e w' => ∃ v', e = .returned v' ∧ TagW w w' S B v' (padL l)) :=
  (pad_any v l wr h.own hl).mono fun e w' ⟨v', he, ho, hg, hob⟩ => ⟨v', he, h.grown hg ho hob⟩
theorem tag_app {w wr : World} {S : Nat} {B : List Nat} {v x : Value} {l m : List Nat} (h : TagW w wr S B v l) (hx : RdB wr x m) (hn : l.length + m.length ≤ 400000000) :
    ∃ v' w', (Builtin.append_ #[26, 26] 26 #[v, x]).run Tryd.prog wr = .ok v' w' ∧ TagW w w' S B v' (l ++ m) ∧ wr.grownBy w' v.ownBlock := by
  obtain ⟨v', w', h1, h2, h3, h4⟩ := append_rd wr 26 v x l.length (bl l) m h.own hx hn
  rw [← bl_append, ← List.length_append] at h2
  exact ⟨v', w', h1, h.grown h3 h2 h4, h3⟩
/-- .. and the row of the two lengths. -/
structure TagV (w wr : World) (S : Nat) (B : List Nat) (G a b : Nat) (v : Value) (l : List Nat) : Prop where
  t : TagW w wr S B v l
  g : wr.heap[G]? = some (.cells #[.int .i64 (a : Int), .int .i64 (b : Int)] 3 (0, 0))
theorem TagV.chg {w wr w2 : World} {S : Nat} {B : List Nat} {G a b : Nat} {v : Value} {l : List Nat} (h : TagV w wr S B G a b v l) (hc : Chg Nowhere wr w2) : TagV w w2 S B G a b v l :=
  ⟨h.t.chg hc, hc.same h.g⟩
theorem TagV.app {w wr : World} {S : Nat} {B : List Nat} {G a b : Nat} {v x : Value} {l m : List Nat} (h : TagV w wr S B G a b v l) (hx : RdB wr x m) (hn : l.length + m.length ≤ 400000000) :
    ∃ v' w', (Builtin.append_ #[26, 26] 26 #[v, x]).run Tryd.prog wr = .ok v' w' ∧ TagV w w' S B G a b v' (l ++ m) := by
  obtain ⟨v', w', h1, h2, h3⟩ := tag_app h.t hx hn
  exact ⟨v', w', h1, h2, (h3.block _ (lt_blk h.g) (own_ne h.t.own h.g (by decide))).trans h.g⟩
/-- One byte in a row of its own is appended. -/
theorem TagV.one {w wr : World} {S : Nat} {B : List Nat} {G a b : Nat} {v : Value} {l : List Nat} (h : TagV w wr S B G a b v l) (y : Nat) (hn : l.length + 1 ≤ 400000000) :
    ∃ v' w', (Builtin.append_ #[26, 26] 26 #[v, .slice (some ⟨wr.heap.size, 0, none⟩) 1 1]).run Tryd.prog (wr.alloc (.cells #[.int .u8 (y : Int)] 5)) = .ok v' w' ∧ TagV w w' S B G a b v' (l ++ [y]) := by
  refine (h.chg ((Chg.refl Nowhere wr).alloc (.cells #[.int .u8 (y : Int)] 5))).app (m := [y]) ⟨rfl, _, 1, rfl, Nat.le_refl _, fun _ => ⟨wr.heap.size, 0, rfl, by simp, fun j hj => ?_⟩⟩ hn
  obtain rfl : j = 0 := by simpa [bl_len] using hj
  rw [cell_of_row _ _ _ _ _ _ (alloc_new wr _)]
  rfl
theorem bytesOf_snoc : ∀ (j n : Nat), bytesOf (j + 1) n = bytesOf j n ++ [n / 256 ^ j % 256]
  | 0, n => by simp [bytesOf]
  | j + 1, n => by
    rw [bytesOf, bytesOf_snoc j, bytesOf, List.cons_append, Nat.div_div_eq_div_mul, Nat.pow_succ, Nat.mul_comm 256]
theorem byte_at (n j : Nat) : ((n / 256 ^ j % 256 : Nat) : Int) = (n : Int) / 2 ^ (8 * j) % 256 := by
  rw [show (256 : Nat) ^ j = 2 ^ (8 * j) by rw [Nat.pow_mul]]
  simp
/-- The two lengths as bytes, as far as they are written. -/
def Ae.accT (P : List Nat) (a b : Nat) : Nat → List Nat
  | 0 => P
  | 1 => P ++ bytesOf 8 a
  | _ => P ++ bytesOf 8 a ++ bytesOf 8 b
theorem accT_byt {P : List Nat} (h : Byt P) (a b k : Nat) : Byt (accT P a b k) := by
  unfold accT
  split
  · exact h
  · exact h.append (bytesOf_byt _ _)
  · exact (h.append (bytesOf_byt _ _)).append (bytesOf_byt _ _)
theorem accT_len (P : List Nat) (a b k : Nat) : (accT P a b k).length ≤ P.length + 16 := by
  unfold accT
  split <;> simp [bytesOf_len] <;> omega
end Go.Proofs.YtebmbapaedlmiaaDoor
