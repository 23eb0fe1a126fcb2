/-
  The document's window (layer 14's reference): a row of all numbers. Top, has, Check.
-/
import Derived.Test.YtiijnhgafadokaaWinSees
import Derived.Maps.AppendAt
import Derived.Laws.AppendOwnNone
namespace Go.Proofs.Ytiijnhgafadokaa
open Go.RowKit Wins
set_option linter.unusedVariables false

def topR (L : List Int) : Int := L.foldl max (-1)
theorem topR_nil : topR [] = -1 := rfl
theorem topR_snoc (L : List Int) (x : Int) : topR (L ++ [x]) = max (topR L) x := by simp [topR, List.foldl_append]
theorem topR_take {L : List Int} {k : Nat} {x : Int} (h : L[k]? = some x) : topR (L.take (k + 1)) = max (topR (L.take k)) x := by
  rw [List.take_add_one, h]; exact topR_snoc _ _
theorem foldl_max (L : List Int) : ∀ a : Int, (∀ x ∈ L, x ≤ L.foldl max a) ∧ a ≤ L.foldl max a ∧ (L.foldl max a = a ∨ L.foldl max a ∈ L) := by
  induction L with
  | nil => intro a; simp
  | cons y L ih =>
    intro a
    obtain ⟨h1, h2, h3⟩ := ih (max a y)
    rw [List.foldl_cons]
    refine ⟨fun x hx => ?_, by omega, ?_⟩
    · rcases List.mem_cons.1 hx with rfl | hx
      · omega
      · exact h1 x hx
    · rcases h3 with h3 | h3
      · rcases (by omega : max a y = a ∨ max a y = y) with e | e
        · left; rw [h3, e]
        · right; rw [h3, e]; exact List.mem_cons_self ..
      · right; exact List.mem_cons_of_mem _ h3
theorem topR_ge (L : List Int) : -1 ≤ topR L := (foldl_max L (-1)).2.1
theorem topR_max {L : List Int} {x : Int} (h : x ∈ L) : x ≤ topR L := (foldl_max L (-1)).1 x h
theorem topR_le {L : List Int} (h : ∀ x ∈ L, 0 ≤ x ∧ x ≤ 281474976710655) : topR L ≤ 281474976710655 := by
  rcases (foldl_max L (-1)).2.2 with e | e
  · unfold topR; rw [e]; decide
  · exact (h _ e).2
def hasR (L : List Int) (n : Int) : Bool := L.any (· == n)
def chkR (L : List Int) (n : Int) : Int := if n < 0 ∨ 281474976710655 < n then 1 else if n ≤ topR L - 1024 ∨ hasR L n = true then 140 else 0
def Small (L : List Int) : Prop := (∀ x ∈ L, 0 ≤ x ∧ x ≤ 281474976710655) ∧ L.length ≤ 1000

structure RefAt (w : World) (b : Nat) (v : Value) (L : List Int) : Prop where
  blk : w.heap[b]? = some (.cells #[v] 55 (0,0))
  own : w.ownsRow 0 3 1 v L.length (L.map (Value.int .i64))
  ne : v.ownBlock ≠ some b
  small : Small L
def Foot (b : Nat) (v : Value) : Nat → Prop := fun i => i = b ∨ v.ownBlock = some i
theorem RefAt.lt {w : World} {b : Nat} {v : Value} {L : List Int} (h : RefAt w b v L) : ∀ i, Foot b v i → i < w.heap.size := by
  rintro i (rfl | hi)
  · exact lt_blk h.blk
  · exact (h.own.lt i hi).2
theorem owns_chg {w w' : World} {base : Nat} {e : TypeId} {size : Nat} {v : Value} {n : Nat} {xs : List Value} {S : Nat → Prop} (h : w.ownsRow base e size v n xs) (hc : Chg S w w') (hn : ∀ i, v.ownBlock = some i → ¬ S i) : w'.ownsRow base e size v n xs := by
  refine ⟨h.1, ?_⟩
  rcases h.2 with h0 | ⟨g, cap, cur, hv, hg, hh, h1⟩
  · exact .inl h0
  · refine .inr ⟨g, cap, cur, hv, hg, hc.keep hh (hn g (by rw [hv]; rfl)), h1⟩
theorem RefAt.chg {w w' : World} {b : Nat} {v : Value} {L : List Int} {S : Nat → Prop} (h : RefAt w b v L) (hc : Chg S w w') (hn : ∀ i, Foot b v i → ¬ S i) : RefAt w' b v L :=
  ⟨hc.keep h.blk (hn b (.inl rfl)), owns_chg h.own hc (fun i hi => hn i (.inr hi)), h.ne, h.small⟩
theorem RefAt.cell {w : World} {b : Nat} {v : Value} {L : List Int} (h : RefAt w b v L) : w.cell? ⟨b, 0, none⟩ = some v := by rw [cell_blk h.blk]; rfl
theorem RefAt.fz {w : World} {b : Nat} {v : Value} {L : List Int} (h : RefAt w b v L) : w.frozen? ⟨b, 0, none⟩ = false := frozen_blk h.blk
/-- The row as the walk reads it. -/
theorem RefAt.read {w : World} {b : Nat} {v : Value} {L : List Int} (h : RefAt w b v L) : ∃ A c, v = .slice A L.length c ∧
    (0 < L.length → ∃ g, A = some ⟨g, 0, none⟩ ∧ g < w.heap.size ∧ ∀ i x, L[i]? = some x → w.cell? ⟨g, i, none⟩ = some (.int .i64 x)) := by
  rcases h.own.2 with ⟨rfl, h0⟩ | ⟨g, cap, cur, hv, hg, hh, hn, hcap, hsz, hx⟩
  · exact ⟨none, 0, by rw [h0], fun h => absurd h (by omega)⟩
  · refine ⟨some ⟨g, 0, none⟩, cap, hv, fun _ => ⟨g, rfl, lt_blk hh, fun i x hi => ?_⟩⟩
    have hlt : i < L.length := (List.getElem?_eq_some_iff.1 hi).1
    rw [cell_blk hh, ← Array.getElem?_toList, ← List.getElem?_take_of_lt (show i < L.length * 1 by omega), hx, List.getElem?_map, hi]; rfl

set_option maxHeartbeats 400000 in
theorem rtop_any (b : Nat) (v : Value) (L : List Int) (w : World) (h : RefAt w b v L) :
    Calls Try.prog 37 #[.pointer (some ⟨b, 0, none⟩)] w fun e w' => e = .returned (.int .i64 (topR L)) ∧ w = w' := by
  have c := h.cell
  have hs := h.small.2
  obtain ⟨A, cp, rfl, hA⟩ := h.read
  have HA := Lib.hid hA
  clear hA h
  go_enter Try.func37, Try.ntmps37
  go_wp2_with fail
  go_loopw [3, 4] (fun t i wr => ∃ (k : Nat) (x : Int), k ≤ L.length ∧ i = .int .i64 k ∧ t = .int .i64 x ∧ Hid (x = topR (L.take k)) ∧ wr = w) (fun _ i _ => 1000 - (intOf i).toNat)
  case atStart => exact ⟨0, -1, by omega, rfl, rfl, Lib.hid rfl, rfl⟩
  case round =>
    obtain ⟨k, x, hk, rfl, rfl, X, rfl⟩ := hrel
    by_cases hk2 : k < L.length
    · obtain ⟨y, hy⟩ : ∃ y, L[k]? = some y := ⟨_, List.getElem?_eq_getElem hk2⟩
      obtain ⟨g, rfl, hg, hcell⟩ := HA.out (by omega)
      have c2 := hcell _ _ hy
      have e := topR_take hy
      rw [← X.out] at e
      have E := Lib.hid e
      clear hcell e
      rcases (by omega : x < y ∨ x = y ∨ y < x) with hxy | rfl | hxy
      all_goals
        go_wp2_with fail
        go_roundw
        case rel => exact ⟨k + 1, _, by omega, by go_num, rfl, Lib.hid (by rw [E.out]; omega), by first | trivial | rfl⟩
        case measure => simp [intOf]; omega
    · obtain rfl : k = L.length := by omega
      go_wp2_with fail
      go_ret
      rw [X.out, List.take_length]
      exact ⟨rfl, rfl⟩

set_option maxHeartbeats 400000 in
theorem rhas_any (b : Nat) (n : Int) (v : Value) (L : List Int) (w : World) (h : RefAt w b v L) :
    Calls Try.prog 70 #[.pointer (some ⟨b, 0, none⟩), .int .i64 n] w fun e w' => e = .returned (.bool (hasR L n)) ∧ w = w' := by
  have c := h.cell
  have hs := h.small.2
  obtain ⟨A, cp, rfl, hA⟩ := h.read
  have HA := Lib.hid hA
  clear hA h
  go_enter Try.func70, Try.ntmps70
  go_wp2_with fail
  go_loopw [5] (fun i wr => ∃ (k : Nat), k ≤ L.length ∧ i = .int .i64 k ∧ Hid (hasR (L.take k) n = false) ∧ wr = w) (fun i _ => 1000 - (intOf i).toNat)
  case atStart => exact ⟨0, by omega, rfl, Lib.hid rfl, rfl⟩
  case round =>
    obtain ⟨k, hk, rfl, X, rfl⟩ := hrel
    by_cases hk2 : k < L.length
    · obtain ⟨y, hy⟩ : ∃ y, L[k]? = some y := ⟨_, List.getElem?_eq_getElem hk2⟩
      obtain ⟨g, rfl, hg, hcell⟩ := HA.out (by omega)
      have c2 := hcell _ _ hy
      clear hcell
      by_cases hyn : y = n
      · subst hyn
        have E := Lib.hid (show hasR L y = true from List.any_eq_true.2 ⟨y, List.mem_of_getElem? hy, by simp⟩)
        go_wp2_with fail
        go_ret
        rw [E.out]
        exact ⟨rfl, rfl⟩
      · have E := Lib.hid (show hasR (L.take (k + 1)) n = false by
          unfold hasR
          rw [List.take_add_one, hy, List.any_append]
          have := X.out
          unfold hasR at this
          rw [this]
          simp [hyn])
        go_wp2_with fail
        go_roundw
        case rel => exact ⟨k + 1, by omega, by go_num, E, by first | trivial | rfl⟩
        case measure => simp [intOf]; omega
    · obtain rfl : k = L.length := by omega
      have E := X.out
      rw [List.take_length] at E
      go_wp2_with fail
      go_ret
      rw [E]
      exact ⟨rfl, rfl⟩

set_option maxHeartbeats 400000 in
theorem rchk_any (b : Nat) (n : Int) (v : Value) (L : List Int) (w : World) (h : RefAt w b v L) :
    Calls Try.prog 36 #[.pointer (some ⟨b, 0, none⟩), .int .i64 n] w fun e w' => e = .returned (.int .i64 (chkR L n)) ∧ w = w' := by
  have t1 := topR_le h.small.1
  have t2 := topR_ge L
  have H := Lib.hid h
  clear h
  obtain ⟨T, hT⟩ : ∃ T, T = topR L := ⟨_, rfl⟩
  rw [← hT] at t1 t2
  have HC := Lib.hid (show chkR L n = if n < 0 ∨ 281474976710655 < n then 1 else if n ≤ T - 1024 ∨ hasR L n = true then 140 else 0 by rw [chkR, hT])
  have HT := Lib.hid hT
  clear hT
  go_enter Try.func36, Try.ntmps36
  by_cases h0 : n < 0
  · have E := Lib.hid (HC.out.trans (if_pos (.inl h0)))
    go_wp2_with fail
    go_ret
    rw [E.out]
    exact ⟨rfl, rfl⟩
  · by_cases h1 : 281474976710655 < n
    · have E := Lib.hid (HC.out.trans (if_pos (.inr h1)))
      go_wp2_with fail
      go_ret
      rw [E.out]
      exact ⟨rfl, rfl⟩
    · have HC2 := Lib.hid (HC.out.trans (if_neg (by omega)))
      by_cases h2 : n ≤ T - 1024
      · have E := Lib.hid (HC2.out.trans (if_pos (.inl h2)))
        go_wp2_with fail
        refine (rtop_any _ _ _ _ H.out).mono ?_
        rw [← HT.out]
        rintro e w' ⟨rfl, rfl⟩
        go_wp2_with fail
        go_ret
        rw [E.out]
        exact ⟨rfl, rfl⟩
      · cases hh : hasR L n with
        | true =>
          have E := Lib.hid (HC2.out.trans (if_pos (.inr hh)))
          go_wp2_with fail
          refine (rtop_any _ _ _ _ H.out).mono ?_
          rw [← HT.out]
          rintro e w' ⟨rfl, rfl⟩
          go_wp2_with fail
          refine (rhas_any _ _ _ _ _ H.out).mono ?_
          rw [hh]
          rintro e w' ⟨rfl, rfl⟩
          go_wp2_with fail
          go_ret
          rw [E.out]
          exact ⟨rfl, rfl⟩
        | false =>
          have E := Lib.hid (HC2.out.trans (if_neg (by rw [hh]; simp; omega)))
          go_wp2_with fail
          refine (rtop_any _ _ _ _ H.out).mono ?_
          rw [← HT.out]
          rintro e w' ⟨rfl, rfl⟩
          go_wp2_with fail
          refine (rhas_any _ _ _ _ _ H.out).mono ?_
          rw [hh]
          rintro e w' ⟨rfl, rfl⟩
          go_wp2_with fail
          go_ret
          rw [E.out]
          exact ⟨rfl, rfl⟩
end Go.Proofs.Ytiijnhgafadokaa
