/-
  Layer 17, the document's ranges: what an object is; inside, Total, Has.
-/
import Derived.Test.YtlkbfacdaelbfaaRaQ
namespace Go.Proofs.Ytlkbfacdaelbfaa
open Go.RowKit
set_option linter.unusedVariables false

/-- An object of the document's. -/
structure RbAt (w : World) (o : Nat) (v : Value) (L : List Ra.Row) : Prop where
  blk : w.heap[o]? = some (.cells #[v] 42 (0, 0))
  row : w.ownsRow 0 33 2 v L.length (flat L)
theorem RbAt.chg {w w' : World} {o : Nat} {v : Value} {L : List Ra.Row} {S : Nat → Prop} (h : RbAt w o v L) (hc : Chg S w w') (ho : ¬ S o) (hv : ∀ i, v.ownBlock = some i → ¬ S i) : RbAt w' o v L :=
  ⟨hc.keep h.blk ho, own_chg h.row hc hv⟩
theorem RbAt.idle {w w' : World} {o : Nat} {v : Value} {L : List Ra.Row} (h : RbAt w o v L) (hc : Chg Nowhere w w') : RbAt w' o v L := h.chg hc (not_nowhere _) (fun _ _ => not_nowhere _)
theorem RbAt.cell0 {w : World} {o : Nat} {v : Value} {L : List Ra.Row} (h : RbAt w o v L) : w.cell? ⟨o, 0, none⟩ = some v := by rw [cell_blk h.blk]; rfl
theorem RbAt.shape {w : World} {o : Nat} {v : Value} {L : List Ra.Row} (h : RbAt w o v L) : ∃ A c, v = .slice A L.length c := ownR_shape h.row
/-- One row of it. -/
theorem RbAt.cells {w : World} {o : Nat} {v : Value} {L : List Ra.Row} (h : RbAt w o v L) {k : Nat} (hk : k < L.length) :
    ∃ g c, v = .slice (some ⟨g, 0, none⟩) L.length c ∧ g < w.heap.size ∧ w.cell? ⟨g, k * 2, none⟩ = some (.int .i64 (L.getD k (0, 0)).1) ∧ w.cell? ⟨g, k * 2 + 1, none⟩ = some (.int .i64 (L.getD k (0, 0)).2) := by
  rcases h.row.2 with ⟨rfl, h0⟩ | ⟨g, cap, cur, rfl, _, hg, hnc, _, hcs, htake⟩
  · omega
  · obtain ⟨g0, g1⟩ := flat_get L k _ (some_getD (d := (0, 0)) hk)
    have hfl := flat_len L
    have get : ∀ j u, (flat L)[j]? = some u → w.cell? ⟨g, j, none⟩ = some u := fun j u hj => by
      have hlt := (List.getElem?_eq_some_iff.1 hj).1
      rw [cell_blk hg, ← hj, ← htake, List.getElem?_take, if_pos (by omega)]
      simp
    exact ⟨g, cap, rfl, lt_blk hg, get _ _ g0, get _ _ g1⟩
theorem rinside_any (f t : Int) (w : World) : Calls Try.prog 80 #[.int .i64 f, .int .i64 t] w (Gives w (.tuple #[.int .i64 (max f 0), .int .i64 (min t Ra.M)])) := by
  obtain ⟨a, ha⟩ : ∃ a, a = max f 0 := ⟨_, rfl⟩
  obtain ⟨b, hb⟩ : ∃ b, b = min t Ra.M := ⟨_, rfl⟩
  rw [← ha, ← hb]
  have HA := Lib.hid (show (0 ≤ f → a = f) ∧ (f ≤ 0 → a = 0) by rw [ha]; omega)
  have HB := Lib.hid (show (t ≤ 4611686018427387904 → b = t) ∧ (4611686018427387904 ≤ t → b = 4611686018427387904) by rw [hb]; unfold Ra.M; omega)
  clear ha hb
  go_enter Try.func80, Try.ntmps80
  go_wp2_with fail
  all_goals
    refine bodyPost_ret (v := .tuple #[.int .i64 a, .int .i64 b]) (by have h1 := HA.out; have h2 := HB.out; simp [results, Try.results80, go_sem]; omega) rfl ⟨rfl, Chg.refl _ _⟩
set_option maxHeartbeats 2000000 in
set_option maxRecDepth 100000 in
theorem rtotal_any (o : Nat) (v : Value) (L : List Ra.Row) (w : World) (h : RbAt w o v L) (hG : Ra.Good L) (hn : L.length ≤ 2000000) :
    Calls Try.prog 28 #[.pointer (some ⟨o, 0, none⟩)] w (Gives w (.int .i64 (Ra.total L))) := by
  obtain ⟨n, hnn⟩ : ∃ n, n = L.length := ⟨_, rfl⟩
  have HN := Lib.hid hnn
  have HG := Lib.hid hG
  have H := Lib.hid h
  obtain ⟨A, c, hv⟩ := h.shape
  rw [← hnn] at hn hv
  subst hv
  obtain ⟨T, hT⟩ : ∃ T : Nat → Int, T = fun k => Ra.total (L.take k) := ⟨_, rfl⟩
  have HT0 := Lib.hid (show T 0 = 0 by rw [hT]; rfl)
  have HTS := Lib.hid (show ∀ k, k < n → T (k + 1) = T k + ((L.getD k (0, 0)).2 - (L.getD k (0, 0)).1) from fun k hk => by rw [hT]; exact Ra.total_snoc (by omega))
  have HTB := Lib.hid (show ∀ k, 0 ≤ T k ∧ T k ≤ 4611686018427387904 from fun k => by rw [hT]; exact Ra.total_in (hG.take k))
  have HTN := Lib.hid (show T n = Ra.total L by rw [hT, hnn]; simp)
  rw [← HTN.out]
  clear h hnn hG hT HTN
  go_enter Try.func28, Try.ntmps28
  go_wp2_with fail
  go_loopw [3, 4] (fun s i wr => ∃ k : Nat, k ≤ n ∧ i = .int .i64 (k : Int) ∧ s = .int .i64 (T k) ∧ Chg Nowhere w wr) (fun _ i _ => n - (intOf i).toNat)
  case atStart => exact ⟨0, by omega, rfl, by rw [HT0.out], Chg.refl _ _⟩
  case round =>
    obtain ⟨k, hk, rfl, rfl, hC⟩ := hrel
    have HC := Lib.hid hC
    clear hC
    have y0 := (H.out.idle HC.out).cell0
    by_cases hk2 : k < n
    · have hd : decide ((k : Int) < (n : Int)) = true := decide_eq_true (by omega)
      obtain ⟨g, c', hv, hg, cx, cy⟩ := (H.out.idle HC.out).cells (k := k) (by rw [← HN.out]; exact hk2)
      simp only [Value.slice.injEq] at hv
      obtain ⟨rfl, -, rfl⟩ := hv
      obtain ⟨x, hx⟩ : ∃ x, x = (L.getD k (0, 0)).1 := ⟨_, rfl⟩
      obtain ⟨y, hy⟩ : ∃ x, x = (L.getD k (0, 0)).2 := ⟨_, rfl⟩
      have hb := HG.out.getD (k := k) (by rw [← HN.out]; exact hk2)
      have hs := HTS.out k hk2
      rw [← hx, ← hy] at hb hs
      rw [← hx] at cx
      rw [← hy] at cy
      have t1 := HTB.out k
      have t2 := HTB.out (k + 1)
      have HS := Lib.hid hs
      have w1 : IntKind.i64.wrap (T k + y) = T k + y := by rw [IntKind.wrap_i64]; unfold Ra.M at hb; omega
      have w2 : IntKind.i64.wrap (T k + y - x) = T k + y - x := by rw [IntKind.wrap_i64]; unfold Ra.M at hb; omega
      have hki : (k : Int) < (n : Int) := by omega
      clear hx hy hb hs
      go_upto_region 5 with fail
      go_quiet (fail)
      clear w1 w2 y0 cx cy
      go_wp2_with fail
      go_roundw
      case rel => exact ⟨k + 1, by omega, by go_num, by rw [HS.out]; congr 1; omega, HC.out.drewN _⟩
      case measure => simp [intOf]; omega
    · obtain rfl : k = n := by omega
      have hd : decide ((k : Int) < (k : Int)) = false := decide_eq_false (by omega)
      go_wp2_with fail
      go_ret
      exact ⟨rfl, HC.out⟩
/-- No row up to k holds a number. -/
def NoneUp (L : List Ra.Row) (x : Int) (k : Nat) : Prop := ∀ j, j < k → ¬ ((L.getD j (0, 0)).1 ≤ x ∧ x < (L.getD j (0, 0)).2)
theorem NoneUp.all {L : List Ra.Row} {x : Int} (h : NoneUp L x L.length) : ¬ Ra.mem L x := by
  rintro ⟨r, hr, h1, h2⟩
  obtain ⟨k, hk, e⟩ := List.mem_iff_getElem.1 hr
  have := h k hk
  rw [List.getD_eq_getElem?_getD, List.getElem?_eq_getElem hk, Option.getD_some, e] at this
  exact this ⟨h1, h2⟩
theorem mem_at_row {L : List Ra.Row} {x : Int} {k : Nat} (hk : k < L.length) (h1 : (L.getD k (0, 0)).1 ≤ x) (h2 : x < (L.getD k (0, 0)).2) : Ra.mem L x :=
  ⟨L.getD k (0, 0), List.mem_of_getElem? (some_getD hk), h1, h2⟩
set_option maxHeartbeats 2000000 in
set_option maxRecDepth 100000 in
theorem rhas_any (o : Nat) (v : Value) (L : List Ra.Row) (x : Int) (w : World) (h : RbAt w o v L) (hn : L.length ≤ 2000000) :
    Calls Try.prog 29 #[.pointer (some ⟨o, 0, none⟩), .int .i64 x] w (GivesHas w L x) := by
  obtain ⟨n, hnn⟩ : ∃ n, n = L.length := ⟨_, rfl⟩
  have HN := Lib.hid hnn
  have H := Lib.hid h
  obtain ⟨A, c, hv⟩ := h.shape
  rw [← hnn] at hn hv
  subst hv
  clear h hnn
  go_enter Try.func29, Try.ntmps29
  go_wp2_with fail
  go_loopw [5] (fun i wr => ∃ k : Nat, k ≤ n ∧ i = .int .i64 (k : Int) ∧ Hid (NoneUp L x k) ∧ Chg Nowhere w wr) (fun i _ => n - (intOf i).toNat)
  case atStart => exact ⟨0, by omega, rfl, Lib.hid (fun j hj => by omega), Chg.refl _ _⟩
  case round =>
    obtain ⟨k, hk, rfl, HU, hC⟩ := hrel
    have HC := Lib.hid hC
    clear hC
    have y0 := (H.out.idle HC.out).cell0
    by_cases hk2 : k < n
    · have hd : decide ((k : Int) < (n : Int)) = true := decide_eq_true (by omega)
      obtain ⟨g, c', hv, hg, cx, cy⟩ := (H.out.idle HC.out).cells (k := k) (by rw [← HN.out]; exact hk2)
      simp only [Value.slice.injEq] at hv
      obtain ⟨rfl, -, rfl⟩ := hv
      obtain ⟨a, ha⟩ : ∃ x, x = (L.getD k (0, 0)).1 := ⟨_, rfl⟩
      obtain ⟨b, hb⟩ : ∃ x, x = (L.getD k (0, 0)).2 := ⟨_, rfl⟩
      rw [← ha] at cx
      rw [← hb] at cy
      have HE := Lib.hid (show a = (L.getD k (0, 0)).1 ∧ b = (L.getD k (0, 0)).2 from ⟨ha, hb⟩)
      have hki : (k : Int) < (n : Int) := by omega
      clear ha hb
      by_cases h1 : a ≤ x
      · by_cases h2 : x < b
        · have d1 : decide (a ≤ x) = true := decide_eq_true h1
          have d2 : decide (x < b) = true := decide_eq_true h2
          go_wp2_with fail
          go_ret
          exact ⟨true, rfl, ⟨fun _ => mem_at_row (k := k) (by rw [← HN.out]; exact hk2) (by rw [← HE.out.1]; exact h1) (by rw [← HE.out.2]; exact h2), fun _ => rfl⟩, HC.out⟩
        · have d1 : decide (a ≤ x) = true := decide_eq_true h1
          have d2 : decide (x < b) = false := decide_eq_false h2
          go_wp2_with fail
          go_roundw
          case rel => exact ⟨k + 1, by omega, by go_num, Lib.hid (fun j hj => by
            rcases (by omega : j < k ∨ j = k) with h | rfl
            · exact HU.out j h
            · rw [← HE.out.1, ← HE.out.2]; exact fun hh => h2 hh.2), HC.out⟩
          case measure => simp [intOf]; omega
      · have d1 : decide (a ≤ x) = false := decide_eq_false h1
        go_wp2_with fail
        go_roundw
        case rel => exact ⟨k + 1, by omega, by go_num, Lib.hid (fun j hj => by
          rcases (by omega : j < k ∨ j = k) with h | rfl
          · exact HU.out j h
          · rw [← HE.out.1, ← HE.out.2]; exact fun hh => h1 hh.1), HC.out⟩
        case measure => simp [intOf]; omega
    · obtain rfl : k = n := by omega
      have hd : decide ((k : Int) < (k : Int)) = false := decide_eq_false (by omega)
      have HNO := Lib.hid (show ¬ Ra.mem L x from NoneUp.all (by rw [← HN.out]; exact HU.out))
      go_wp2_with fail
      go_ret
      exact ⟨false, rfl, ⟨fun h => (by cases h), fun h => absurd h HNO.out⟩, HC.out⟩
end Go.Proofs.Ytlkbfacdaelbfaa
