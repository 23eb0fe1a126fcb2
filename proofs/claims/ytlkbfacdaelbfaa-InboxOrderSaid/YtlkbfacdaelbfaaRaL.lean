/-
  Package ranges: Cut (the walk).
-/
import Derived.Test.YtlkbfacdaelbfaaRaK
namespace Go.Proofs.Ytlkbfacdaelbfaa
open Go.RowKit
set_option linter.unusedVariables false

theorem own_shape {w : World} {base : Nat} {e : TypeId} {size : Nat} {v : Value} {n : Nat} {xs : List Value} (h : w.ownsRow base e size v n xs) : ∃ A N c, v = .slice A N c := by
  rcases h.2 with ⟨rfl, h0⟩ | ⟨g, cap, cur, rfl, _⟩
  · exact ⟨_, _, _, rfl⟩
  · exact ⟨_, _, _, rfl⟩
/-- append of one row to a row of one's own. -/
theorem append_row (base : Nat) (w : World) (v : Value) (L : List Ra.Row) (x y : Int) (ty : TypeId) (h : w.ownsRow base 33 2 v L.length (flat L)) (g : Nat) (hg : w.heap[g]? = some (.cells #[.int .i64 x, .int .i64 y] 33 (0, 0))) (hn : L.length ≤ 4000000) (hb : base ≤ w.heap.size) :
    ∃ A N c w', (Builtin.append_ #[30, 30] ty #[v, .slice (some ⟨g, 0, none⟩) 1 1]).run Try.prog w = .ok (.slice A N c) w' ∧ w'.ownsRow base 33 2 (.slice A N c) (L ++ [(x, y)]).length (flat (L ++ [(x, y)])) ∧ Chg (fun i => v.ownBlock = some i) w w' ∧ (∀ i, (Value.slice A N c).ownBlock = some i → v.ownBlock = some i ∨ w.heap.size ≤ i) := by
  obtain ⟨i0, hi, hz0, hz1, hz2⟩ := info_parts infoRng
  obtain ⟨v', w', hr, ho, hgr, -, hob⟩ := run_append_own_at (P := Try.prog) w base 30 ty 33 i0 (.agg #[.int .i64 0, .int .i64 0]) 2 16 undR hi hz0 hz1 hz2 rfl (by decide) v L.length (flat L) h ⟨g, 0, none⟩ 1 1 (flat [(x, y)]) rfl (fun j u hj => by
    rw [addr_add, Nat.zero_add, cell_blk hg]
    simpa [flat, rcells] using hj) (flat_one' _) (by unfold maxLen; omega) (by omega) hb
  obtain ⟨A, N, c, hs⟩ := own_shape ho
  subst hs
  refine ⟨A, N, c, w', hr, by rw [List.length_append, flat_append]; exact ho, (Chg.refl _ w).grown hgr (fun k hk => .inr hk), fun i hi => ?_⟩
  rcases hob with hob | hob
  · exact .inl (hob ▸ hi)
  · refine .inr ?_
    rw [hob] at hi
    simp only [Option.some.injEq] at hi
    omega

theorem Ra.left_len1 {f t : Int} (hft : f < t) : ∀ {L : List Ra.Row}, Ra.Good L → (Ra.left f t L).length ≤ L.length + 1
  | [], _ => by rw [Ra.left_nil]; exact Nat.zero_le _
  | r :: L, h => by
    rw [Ra.left_cons, List.length_append, List.length_cons]
    have ih := Ra.left_len1 hft h.tail
    by_cases h2 : r.1 < f ∧ t < r.2
    · have hk : Ra.left f t L = L := Ra.left_keep hft (fun s hs => (h.tail.row s hs).2.1) fun s hs => .inr (by have := h.head.2 s hs; omega)
      have : (Ra.left1 f t r).length ≤ 2 := by unfold Ra.left1; split <;> split <;> simp
      rw [hk]; omega
    · have : (Ra.left1 f t r).length ≤ 1 := by unfold Ra.left1; split <;> split <;> simp <;> omega
      omega
def GivesSub (w : World) (o : Nat) (v : Value) (L : List Ra.Row) (f t : Int) : Ending → World → Prop := fun e w' => ∃ L', e = .returned (.int .i64 (Ra.total L - Ra.total L')) ∧ Ra.Good L' ∧ (∀ n, Ra.mem L' n ↔ Ra.mem L n ∧ ¬ (max f 0 ≤ n ∧ n < min t Ra.M)) ∧ L'.length ≤ L.length + 1 ∧ Moved w o v L' w'
theorem Ra.Touch.cut {L : List Ra.Row} {f t : Int} {i j : Nat} (h : Ra.Touch L f t i j) (hG : Ra.Good L) (hft : f < t) : L.take i ++ Ra.left f t ((L.drop i).take (j - i)) ++ L.drop j = Ra.left f t L ∧ Ra.total ((L.drop i).take (j - i)) - Ra.total (Ra.left f t ((L.drop i).take (j - i))) = Ra.total L - Ra.total (Ra.left f t L) := by
  obtain ⟨pa, pb, pc⟩ := h.parts
  have hc := Ra.cut3 L h.ij
  have hG2 := hG
  rw [hc] at hG2
  have e := Ra.cut_parts hG2 hft (fun a ha => by have := pa a ha; omega) (fun c hc => by have := pc c hc; omega)
  rw [← hc] at e
  refine ⟨e, ?_⟩
  rw [← e]
  have : Ra.total L = Ra.total (L.take i) + Ra.total ((L.drop i).take (j - i)) + Ra.total (L.drop j) := by
    conv => lhs; rw [hc]
    rw [Ra.total_append, Ra.total_append]
  rw [this, Ra.total_append, Ra.total_append]
  omega
/-- What the loops have built. -/
structure CutIn (w : World) (l : Value) (K : List Ra.Row) (wr : World) : Prop where
  own : wr.ownsRow w.heap.size 33 2 l K.length (flat K)
  chg : Chg Nowhere w wr
theorem CutIn.nil {w wr : World} (h : Chg Nowhere w wr) : CutIn w (.slice none 0 0) [] wr := ⟨⟨rfl, .inl ⟨rfl, rfl⟩⟩, h⟩
theorem own_base0 {w : World} {base : Nat} {e : TypeId} {size : Nat} {v : Value} {n : Nat} {xs : List Value} (h : w.ownsRow base e size v n xs) : w.ownsRow 0 e size v n xs :=
  ⟨h.1, h.2.imp id fun ⟨g, cap, cur, a, _, c⟩ => ⟨g, cap, cur, a, Nat.zero_le _, c⟩⟩
theorem own_ge {w : World} {base : Nat} {e : TypeId} {size : Nat} {v : Value} {n : Nat} {xs : List Value} (h : w.ownsRow base e size v n xs) {i : Nat} (hi : v.ownBlock = some i) : base ≤ i := by
  rcases h.2 with ⟨rfl, _⟩ | ⟨g, cap, cur, rfl, hb, _⟩
  · cases hi
  · simp only [Value.ownBlock, Option.some.injEq] at hi; omega
theorem CutIn.same {w wr wx : World} {l : Value} {K : List Ra.Row} (h : CutIn w l K wr) (hc : Chg Nowhere wr wx) : CutIn w l K wx := ⟨own_chg h.own hc (fun _ _ => not_nowhere _), h.chg.then_none hc⟩
theorem CutIn.app {w wr : World} {l : Value} {K : List Ra.Row} (h : CutIn w l K wr) (hn : K.length ≤ 4000000) (x y : Int) (ty : TypeId) (g : Nat) (hg : wr.heap[g]? = some (.cells #[.int .i64 x, .int .i64 y] 33 (0, 0))) :
    ∃ l' w', (Builtin.append_ #[30, 30] ty #[l, .slice (some ⟨g, 0, none⟩) 1 1]).run Try.prog wr = .ok l' w' ∧ CutIn w l' (K ++ [(x, y)]) w' ∧ (∀ i, l'.ownBlock = some i → l.ownBlock = some i ∨ wr.heap.size ≤ i) ∧ Chg (fun i => l.ownBlock = some i) wr w' := by
  obtain ⟨A, N, c, w', hr, ho, hc, hob⟩ := append_row w.heap.size wr l K x y ty h.own g hg hn h.chg.size
  exact ⟨_, w', hr, ⟨ho, h.chg.trans hc fun i hi hs => absurd (own_ge h.own hs) (by omega)⟩, hob, hc⟩
/-- The parts of one row that the inner loop has laid. -/
def prt (p : Nat) (a m1 m2 b : Int) : List Ra.Row := (if 1 ≤ p ∧ a < m1 then [(a, m1)] else []) ++ (if 2 ≤ p ∧ m2 < b then [(m2, b)] else [])
theorem prt_len (p : Nat) (a m1 m2 b : Int) : (prt p a m1 m2 b).length ≤ 2 := by unfold prt; split <;> split <;> simp
structure Inn (w : World) (bb : Nat) (a m1 m2 b : Int) (K : List Ra.Row) (l : Value) (wr : World) : Prop where
  cut : CutIn w l K wr
  blk : wr.heap[bb]? = some (.cells #[.int .i64 a, .int .i64 m1, .int .i64 m2, .int .i64 b] 33 (0, 0))
  ne : ∀ q, l.ownBlock = some q → q ≠ bb
theorem Inn.cell {w : World} {bb : Nat} {a m1 m2 b : Int} {K : List Ra.Row} {l : Value} {wr : World} (h : Inn w bb a m1 m2 b K l wr) :
    wr.cell? ⟨bb, 0, none⟩ = some (.int .i64 a) ∧ wr.cell? ⟨bb, 1, none⟩ = some (.int .i64 m1) ∧ wr.cell? ⟨bb, 2, none⟩ = some (.int .i64 m2) ∧ wr.cell? ⟨bb, 3, none⟩ = some (.int .i64 b) := by
  refine ⟨?_, ?_, ?_, ?_⟩ <;> rw [cell_blk h.blk] <;> rfl
theorem Inn.idle {w : World} {bb : Nat} {a m1 m2 b : Int} {K : List Ra.Row} {l : Value} {wr wx : World} (h : Inn w bb a m1 m2 b K l wr) (hc : Chg Nowhere wr wx) : Inn w bb a m1 m2 b K l wx :=
  ⟨h.cut.same hc, hc.same h.blk, h.ne⟩
theorem Inn.app {w : World} {bb : Nat} {a m1 m2 b : Int} {K : List Ra.Row} {l : Value} {wr : World} (h : Inn w bb a m1 m2 b K l wr) (hn : K.length ≤ 4000000) (x y : Int) (ty : TypeId) (g : Nat) (hg : wr.heap[g]? = some (.cells #[.int .i64 x, .int .i64 y] 33 (0, 0))) :
    ∃ l' w', (Builtin.append_ #[30, 30] ty #[l, .slice (some ⟨g, 0, none⟩) 1 1]).run Try.prog wr = .ok l' w' ∧ Inn w bb a m1 m2 b (K ++ [(x, y)]) l' w' := by
  obtain ⟨l', w', h1, h2, h3, h4⟩ := h.cut.app hn x y ty g hg
  exact ⟨l', w', h1, h2, h4.keep h.blk (fun e => h.ne _ e rfl), fun q hq => by
    rcases h3 q hq with h5 | h5
    · exact h.ne q h5
    · have := lt_blk h.blk; omega⟩
/-- A row that was laid down twice: the range's own copy, the slice of one. -/
theorem two_new (w : World) (c c' : Obj) : ((w.alloc c).alloc c').heap[w.heap.size + 1]? = some c' := by
  have := alloc_new (w.alloc c) c'
  simpa using this
set_option maxHeartbeats 4000000 in
set_option maxRecDepth 100000 in
theorem cut_any (o : Nat) (v : Value) (L : List Ra.Row) (f t : Int) (w : World) (h : RaAt w o v L) (hG : Ra.Good L) (hn : L.length ≤ 1000000) :
    Calls Try.prog 23 #[.pointer (some ⟨o, 0, none⟩), .int .i64 f, .int .i64 t] w (GivesSub w o v L f t) := by
  obtain ⟨f0, hf0⟩ : ∃ x, x = max f 0 := ⟨_, rfl⟩
  obtain ⟨t0, ht0⟩ : ∃ x, x = min t Ra.M := ⟨_, rfl⟩
  have HI := Lib.hid (show ∀ w4, Calls Try.prog 72 #[.int .i64 f, .int .i64 t] w4 (Gives w4 (.tuple #[.int .i64 f0, .int .i64 t0])) from fun w4 => by rw [hf0, ht0]; exact inside_any f t w4)
  unfold GivesSub
  rw [← hf0, ← ht0]
  have F0 := Lib.hid (show 0 ≤ f0 ∧ t0 ≤ Ra.M by omega)
  clear hf0 ht0
  by_cases hft : f0 < t0
  · obtain ⟨n, hnn⟩ : ∃ n, n = L.length := ⟨_, rfl⟩
    have HT := Lib.hid (fun w4 (h4 : RaAt w4 o v L) => touched_any o v L f0 t0 w4 h4 hG (by omega))
    have H := Lib.hid h
    have HG := Lib.hid hG
    have HN := Lib.hid hnn
    have HNB := Lib.hid hn
    have hd : decide (t0 ≤ f0) = false := decide_eq_false (by omega)
    have hd2 : ¬ (t0 ≤ f0) := by omega
    clear h hG hnn hn
    go_enter Try.func23, Try.ntmps23
    go_upto_region 2 with (go_at_call 72; refine (HI.out _).mono ?_; rintro e w4 ⟨rfl, hC4⟩; have HC4 := Lib.hid hC4; clear hC4)
    go_upto_region 5 with (go_at_call 73; refine (HT.out _ (H.out.idle HC4.out)).mono ?_; rintro e w5 ⟨i, j, rfl, hT, hC5⟩; have HTO := Lib.hid hT; have HC5 := Lib.hid (HC4.out.then_none hC5); clear hC5 hT HC4)
    obtain ⟨B, hB⟩ : ∃ B, B = (L.drop i).take (j - i) := ⟨_, rfl⟩
    have HB := Lib.hid hB
    obtain ⟨T, hT⟩ : ∃ T, T = Ra.total B := ⟨_, rfl⟩
    have HTT := Lib.hid hT
    have HGB := Lib.hid (show Ra.Good B from by rw [hB]; exact (HG.out.drop i).take _)
    have hbl : B.length = j - i := by rw [hB, List.length_take, List.length_drop]; have := HTO.out.jn; have := HTO.out.ij; omega
    have HBL := Lib.hid hbl
    obtain ⟨D, hD⟩ : ∃ D, D = Ra.left f0 t0 B := ⟨_, rfl⟩
    have HD := Lib.hid hD
    obtain ⟨S, hS⟩ : ∃ T, T = Ra.total D := ⟨_, rfl⟩
    have HGD := Lib.hid (show Ra.Good D from by rw [hD]; exact Ra.left_good hft HGB.out)
    have HDL := Lib.hid (show D.length ≤ 1000001 by rw [hD]; have := Ra.left_len1 hft HGB.out; have := HNB.out; have := HTO.out.jn; omega)
    have HTB := Lib.hid (show (0 ≤ T ∧ T ≤ 4611686018427387904) ∧ 0 ≤ S ∧ S ≤ 4611686018427387904 from ⟨by rw [hT]; exact Ra.total_in HGB.out, by rw [hS]; exact Ra.total_in HGD.out⟩)
    have HM := Lib.hid (show ∀ w6 u, Rd w6 u 2 (j - i) (flat B) → Calls Try.prog 74 #[u] w6 (Gives w6 (.int .i64 T)) from fun w6 u hu => by
      rw [hT]; rw [← hbl] at hu; exact many_any u B w6 hu HGB.out (by have := HNB.out; have := HTO.out.jn; omega))
    have HM2 := Lib.hid (show ∀ w6 l, w6.ownsRow 0 33 2 l D.length (flat D) → Calls Try.prog 74 #[l] w6 (Gives w6 (.int .i64 S)) from fun w6 l hl => by
      rw [hS]; exact many_any l D w6 (Rd.of_owns hl) HGD.out (by have := HDL.out; omega))
    have H5 := Lib.hid (H.out.idle HC5.out)
    have HREP := Lib.hid (show ∀ w6 l, CutIn w l D w6 → Calls Try.prog 75 #[v, .int .i64 (i : Int), .int .i64 (j : Int), l] w6 (GivesRow w6 v (L.take i ++ D ++ L.drop j)) from fun w6 l h6 =>
      replace_any v L D i j _ _ (H.out.idle h6.chg).row HTO.out.ij HTO.out.jn (own_base0 h6.own) (by have := HNB.out; have := HDL.out; omega) (fun b hb e => by
        obtain ⟨cur, hh⟩ := own_blk H.out.row hb
        have := own_ge h6.own e
        have := lt_blk hh
        omega))
    have HEND := Lib.hid (show ∀ w6 l v' w8, CutIn w l D w6 → w8.ownsRow 0 33 2 v' (L.take i ++ D ++ L.drop j).length (flat (L.take i ++ D ++ L.drop j)) → Chg (fun b => v.ownBlock = some b) w6 w8 → (∀ b, v'.ownBlock = some b → v.ownBlock = some b ∨ w6.heap.size ≤ b) →
        (w8.cell? ⟨o, 0, none⟩ = some v ∧ w8.frozen? ⟨o, 0, none⟩ = false) ∧ (w8.setCell ⟨o, 0, none⟩ v').ownsRow 0 33 2 l D.length (flat D) ∧ ∀ w9, Chg Nowhere (w8.setCell ⟨o, 0, none⟩ v') w9 → (∃ L', Ending.returned (.int .i64 (T - S)) = .returned (.int .i64 (Ra.total L - Ra.total L')) ∧ Ra.Good L' ∧ (∀ n, Ra.mem L' n ↔ Ra.mem L n ∧ ¬ (f0 ≤ n ∧ n < t0)) ∧ L'.length ≤ L.length + 1 ∧ Moved w o v L' w9) from fun w6 l v' w8 h6 hv hc hn => by
      have hc2 : Chg (fun b => v.ownBlock = some b) w w8 := h6.chg.none_then hc
      have hob : ¬ (v.ownBlock = some o) := fun e => by
        obtain ⟨cur, hh⟩ := own_blk H.out.row e
        rw [H.out.blk] at hh
        simp only [Option.some.injEq, Obj.cells.injEq] at hh
        exact absurd hh.2.1 (by decide)
      have hb := hc2.keep H.out.blk hob
      obtain ⟨e1, e2⟩ := HTO.out.cut HG.out hft
      rw [← HB.out, ← HD.out] at e1 e2
      rw [← HTT.out, ← hS] at e2
      have hst := H.out.store hv hc2 fun b hb => by
        rcases hn b hb with h | h
        · exact .inl h
        · exact .inr (Nat.le_trans h6.chg.size h)
      refine ⟨⟨by rw [cell_blk hb]; rfl, frozen_blk hb⟩, own_chg (own_chg (own_base0 h6.own) hc fun b hb hs => ?_) ((Chg.refl (At o) w8).putAt) (fun b hb hs => ?_), fun w9 h9 => ⟨Ra.left f0 t0 L, by rw [e2], Ra.left_good hft HG.out, fun n => Ra.left_has hft L n, Ra.left_len1 hft HG.out, ?_⟩⟩
      · obtain ⟨cur, hh⟩ := own_blk H.out.row hs
        have := own_ge h6.own hb
        have := lt_blk hh
        omega
      · have := own_ge h6.own hb
        have hbo : b = o := hs
        have := lt_blk H.out.blk
        omega
      · obtain ⟨⟨v2, q1, q2⟩, q3⟩ := hst
        rw [e1] at q1
        exact ⟨⟨v2, q1.idle h9, q2⟩, q3.then_none h9⟩)
    clear hB hT hS hD hbl
    have y5 : w5.cell? ⟨o, 0, none⟩ = some v := H5.out.cell0
    have tb := HTB.out
    have w1 : IntKind.i64.wrap (T - S) = T - S := by rw [IntKind.wrap_i64]; omega
    clear tb
    rcases H.out.row.2 with ⟨hv, h0⟩ | ⟨g, c, cur, hv, -, -, hnc, -⟩
    · have hi0 : i = 0 := by have := HTO.out.ij; have := HTO.out.jn; omega
      have hj0 : j = 0 := by have := HTO.out.jn; omega
      subst hi0 hj0 hv
      have hB0 : B = [] := by rw [HB.out]; simp
      have hD0 : D = [] := by rw [HD.out, hB0]; rfl
      have HMM := Lib.hid (HM.out w5 (.slice none 0 0) (by rw [hB0]; exact Rd.nil w5 2))
      clear hd hd2
      go_upto_region 7 with (go_at_call 74; refine HMM.out.mono ?_; rintro e w6 ⟨rfl, hC6⟩; have HC6 := Lib.hid (HC5.out.then_none hC6); clear hC6)
      have y6 := (H.out.idle HC6.out).cell0
      clear y5
      go_wp2_with fail
      
      go_loopw [10, 47] (fun l i wr => l = .slice none 0 0 ∧ i = .int .i64 0 ∧ Chg Nowhere w wr) (fun _ _ _ => 0)
      case atStart => exact ⟨rfl, rfl, HC6.out⟩
      case round =>
        obtain ⟨rfl, rfl, hC⟩ := hrel
        have HCI := Lib.hid (show CutIn w (.slice none 0 0) D wr from by rw [hD0]; exact CutIn.nil hC)
        clear hC hB0 hD0 y6
        have y7 := (H.out.idle HCI.out.chg).cell0
        go_upto_region 18 with (go_at_call 75; refine (HREP.out _ _ HCI.out).mono ?_; rintro e w8 ⟨v', rfl, q1, q2, q3⟩; obtain ⟨A9, N9, c9, rfl⟩ := own_shape q1; have HE := HEND.out _ _ _ w8 HCI.out q1 q2 q3; obtain ⟨⟨z1, z2⟩, HR, HE⟩ := HE; have HE := Lib.hid HE; have HR := Lib.hid HR; clear q1 q2 q3)
        go_wp2_with (go_at_call 74; refine (HM2.out _ _ HR.out).mono ?_; rintro e w9 ⟨rfl, hC9⟩; have HC9 := Lib.hid hC9; clear hC9)
        go_ret
        exact HE.out _ HC9.out
    · rw [← HN.out] at hv hnc
      subst hv
      have hij := HTO.out.ij
      have hjn : j ≤ n := by rw [HN.out]; exact HTO.out.jn
      have hic : i ≤ c := by omega
      have hjc : j ≤ c := by omega
      have HPA := Lib.hid (fun wx (hx : Chg Nowhere w wx) => (H.out.idle hx).part hij HTO.out.jn)
      rcases (by omega : c = i ∨ ¬ (c = i)) with hci | hci
      · have hji : j = i := by omega
        have hni : n = i := by omega
        subst hji hni hci
        have hB0 : B = [] := by rw [HB.out]; simp
        have hD0 : D = [] := by rw [HD.out, hB0]; rfl
        have HMM := Lib.hid (HM.out w5 (.slice (some ⟨g, 0, none⟩) 0 0) (by rw [hB0, Nat.sub_self]; exact ⟨rfl, _, _, rfl, Nat.le_refl _, fun h => by omega⟩))
        clear hd hd2
        go_upto_region 7 with (go_at_call 74; refine HMM.out.mono ?_; rintro e w6 ⟨rfl, hC6⟩; have HC6 := Lib.hid (HC5.out.then_none hC6); clear hC6)
        have y6 := (H.out.idle HC6.out).cell0
        clear y5
        go_wp2_with fail
        
        go_loopw [10, 47] (fun l i wr => l = .slice none 0 0 ∧ i = .int .i64 0 ∧ Chg Nowhere w wr) (fun _ _ _ => 0)
        case atStart => exact ⟨rfl, rfl, HC6.out⟩
        case round =>
          obtain ⟨rfl, rfl, hC⟩ := hrel
          have HCI := Lib.hid (show CutIn w (.slice none 0 0) D wr from by rw [hD0]; exact CutIn.nil hC)
          clear hC hB0 hD0 y6
          have y7 := (H.out.idle HCI.out.chg).cell0
          go_upto_region 18 with (go_at_call 75; refine (HREP.out _ _ HCI.out).mono ?_; rintro e w8 ⟨v', rfl, q1, q2, q3⟩; obtain ⟨A9, N9, c9, rfl⟩ := own_shape q1; have HE := HEND.out _ _ _ w8 HCI.out q1 q2 q3; obtain ⟨⟨z1, z2⟩, HR, HE⟩ := HE; have HE := Lib.hid HE; have HR := Lib.hid HR; clear q1 q2 q3)
          go_wp2_with (go_at_call 74; refine (HM2.out _ _ HR.out).mono ?_; rintro e w9 ⟨rfl, hC9⟩; have HC9 := Lib.hid hC9; clear hC9)
          go_ret
          exact HE.out _ HC9.out
      · rcases (by omega : j = i ∨ i < j) with hji | hlt
        · subst hji
          have hB0 : B = [] := by rw [HB.out]; simp
          have hD0 : D = [] := by rw [HD.out, hB0]; rfl
          have HMM := Lib.hid (HM.out w5 (.slice (some ⟨g, j * 2, none⟩) 0 (c - j)) (by rw [HB.out]; have := HPA.out w5 HC5.out; rw [Nat.sub_self] at this ⊢; exact this))
          clear hd hd2
          go_upto_region 7 with (go_at_call 74; refine HMM.out.mono ?_; rintro e w6 ⟨rfl, hC6⟩; have HC6 := Lib.hid (HC5.out.then_none hC6); clear hC6)
          have y6 := (H.out.idle HC6.out).cell0
          clear y5
          go_wp2_with fail
          
          go_loopw [10, 47] (fun l i wr => l = .slice none 0 0 ∧ i = .int .i64 0 ∧ Chg Nowhere w wr) (fun _ _ _ => 0)
          case atStart => exact ⟨rfl, rfl, HC6.out⟩
          case round =>
            obtain ⟨rfl, rfl, hC⟩ := hrel
            have HCI := Lib.hid (show CutIn w (.slice none 0 0) D wr from by rw [hD0]; exact CutIn.nil hC)
            clear hC hB0 hD0 y6
            have y7 := (H.out.idle HCI.out.chg).cell0
            go_upto_region 18 with (go_at_call 75; refine (HREP.out _ _ HCI.out).mono ?_; rintro e w8 ⟨v', rfl, q1, q2, q3⟩; obtain ⟨A9, N9, c9, rfl⟩ := own_shape q1; have HE := HEND.out _ _ _ w8 HCI.out q1 q2 q3; obtain ⟨⟨z1, z2⟩, HR, HE⟩ := HE; have HE := Lib.hid HE; have HR := Lib.hid HR; clear q1 q2 q3)
            go_wp2_with (go_at_call 74; refine (HM2.out _ _ HR.out).mono ?_; rintro e w9 ⟨rfl, hC9⟩; have HC9 := Lib.hid hC9; clear hC9)
            go_ret
            exact HE.out _ HC9.out
        · have HMM := Lib.hid (HM.out w5 (.slice (some ⟨g, i * 2, none⟩) (j - i) (c - i)) (by rw [HB.out]; exact HPA.out w5 HC5.out))
          clear hd hd2
          go_upto_region 7 with (go_at_call 74; refine HMM.out.mono ?_; rintro e w6 ⟨rfl, hC6⟩; have HC6 := Lib.hid (HC5.out.then_none hC6); clear hC6)
          have y6 := (H.out.idle HC6.out).cell0
          clear y5
          go_wp2_with fail
          
          obtain ⟨m, hm⟩ : ∃ m, m = j - i := ⟨_, rfl⟩
          have HJM := Lib.hid (show j = i + m by omega)
          have HBL2 := Lib.hid (show B.length = m by rw [hm]; exact HBL.out)
          rw [← hm]
          clear hm
          go_loopw [10, 47] (fun l i wr => ∃ k : Nat, k ≤ m ∧ i = .int .i64 (k : Int) ∧ CutIn w l (Ra.left f0 t0 (B.take k)) wr) (fun _ i _ => m - (intOf i).toNat)
          case atStart => exact ⟨0, by omega, rfl, CutIn.nil HC6.out⟩
          case round =>
            obtain ⟨k, hk, rfl, hCI⟩ := hrel
            have HCK := Lib.hid hCI
            clear hCI
            by_cases hk2 : k < m
            · have hki : (k : Int) < (m : Int) := by omega
              have hkb : (k : Int) ≤ 4000000 := by have := HNB.out; have := HN.out; have := HJM.out; omega
              obtain ⟨a, ha⟩ : ∃ a, a = (L.getD (i + k) (0, 0)).1 := ⟨_, rfl⟩
              obtain ⟨b, hb⟩ : ∃ a, a = (L.getD (i + k) (0, 0)).2 := ⟨_, rfl⟩
              have hBk : B[k]? = some (a, b) := by
                rw [HB.out, HJM.out, Nat.add_sub_cancel_left, List.getElem?_take, if_pos (by omega), List.getElem?_drop, ha, hb]
                exact some_getD (by have := HN.out; have := HJM.out; omega)
              have HCE := Lib.hid (show ∀ wx, Chg Nowhere w wx → wx.cell? ⟨g, i * 2 + k * 2, none⟩ = some (.int .i64 a) ∧ wx.cell? ⟨g, i * 2 + k * 2 + 1, none⟩ = some (.int .i64 b) from fun wx hx => by
                obtain ⟨g1, c1, e1, -, d0, d1⟩ := (H.out.idle hx).cells (k := i + k) (by have := HN.out; have := HJM.out; omega)
                simp only [Value.slice.injEq, Option.some.injEq, Addr.mk.injEq] at e1
                rw [← e1.1.1, ← ha, Nat.add_mul] at d0
                rw [← e1.1.1, ← hb, Nat.add_mul] at d1
                exact ⟨d0, d1⟩)
              obtain ⟨x1, x2⟩ := HCE.out wr HCK.out.chg
              have HBK := Lib.hid hBk
              have HK2 := Lib.hid hk2
              obtain ⟨m1, hm1⟩ : ∃ x, x = min b f0 := ⟨_, rfl⟩
              obtain ⟨m2, hm2⟩ : ∃ x, x = max a t0 := ⟨_, rfl⟩
              have E1 := Lib.hid (show (if f0 < b then f0 else b) = m1 by rw [hm1]; split <;> omega)
              have E2 := Lib.hid (show (if a < t0 then t0 else a) = m2 by rw [hm2]; split <;> omega)
              have HPT := Lib.hid (show Ra.left1 f0 t0 (a, b) = (if a < m1 then [(a, m1)] else []) ++ (if m2 < b then [(m2, b)] else []) by rw [hm1, hm2]; rfl)
              clear ha hb hBk hm1 hm2 hk
              rcases (by omega : f0 < b ∨ ¬ (f0 < b)) with c1 | c1 <;> rcases (by omega : a < t0 ∨ ¬ (a < t0)) with c2 | c2
              · have HPT2 := Lib.hid (show Ra.left1 f0 t0 (a, b) = prt 2 a f0 t0 b by rw [HPT.out]; unfold prt; rw [show m1 = f0 by rw [← E1.out]; simp; try omega, show m2 = t0 by rw [← E2.out]; simp; try omega]; simp)
                go_wp2_with fail
                have HIN := Lib.hid (show Inn w (wr.heap.size + 1) a f0 t0 b (Ra.left f0 t0 (B.take k) ++ prt 0 a f0 t0 b) u10 ((wr.alloc (Obj.cells #[.int .i64 a, .int .i64 b] 33)).alloc (Obj.cells #[.int .i64 a, .int .i64 f0, .int .i64 t0, .int .i64 b] 33)) from
                  ⟨by rw [show prt 0 a f0 t0 b = [] by simp [prt], List.append_nil]; exact HCK.out.same (((Chg.refl Nowhere wr).alloc _).alloc _), two_new _ _ _, fun q hq e => by
                    obtain ⟨cur, hh⟩ := own_blk HCK.out.own hq
                    have := lt_blk hh
                    omega⟩)
                have HLK := Lib.hid (show (Ra.left f0 t0 (B.take k)).length ≤ 1000002 from by have := Ra.left_len1 hft (HGB.out.take k); rw [List.length_take] at this; have := HBL2.out; have := HNB.out; have := HN.out; have := HJM.out; omega)
                go_loopw [10, 67] (fun l i wq => ∃ p : Nat, p ≤ 2 ∧ i = .int .i64 (p : Int) ∧ Inn w (wr.heap.size + 1) a f0 t0 b (Ra.left f0 t0 (B.take k) ++ prt p a f0 t0 b) l wq) (fun _ i _ => 2 - (intOf i).toNat)
                case atStart => exact ⟨0, by omega, rfl, HIN.out⟩
                case round =>
                  obtain ⟨p, hp, rfl, hIn⟩ := hrel
                  have HI2 := Lib.hid hIn
                  obtain ⟨d0, d1, d2, d3⟩ := hIn.cell
                  clear hIn x1 x2 y6 HIN
                  rcases (by omega : p = 0 ∨ p = 1 ∨ p = 2) with rfl | rfl | rfl
                  · by_cases hxy : a < f0
                    · have hdx : decide (a < f0) = true := decide_eq_true hxy
                      go_wp2_with (at_builtin; obtain ⟨l', w', hr, hI3⟩ := (HI2.out.idle (((Chg.refl Nowhere _).alloc (.cells #[.int .i64 (a), .int .i64 (f0)] 33)).alloc (.cells #[.int .i64 (a), .int .i64 (f0)] 33))).app (by rw [List.length_append]; have := prt_len 0 a f0 t0 b; have := HLK.out; omega) (a) (f0) 30 _ (two_new wr _ _); have HI3 := Lib.hid hI3; clear hI3; refine Lib.wpList_append_run _ rfl _ _ 30 30 rfl _ _ rfl rfl l' w' hr ?_; clear hr)
                      go_roundw
                      case rel => exact ⟨1, by omega, rfl, by have := HI3.out; rw [List.append_assoc, show prt 0 a f0 t0 b ++ [(a, f0)] = prt 1 a f0 t0 b by simp [prt, hxy]] at this; exact this⟩
                      case measure => simp [intOf]
                    · have hdx : decide (a < f0) = false := decide_eq_false hxy
                      go_wp2_with fail
                      go_roundw
                      case rel => exact ⟨1, by omega, rfl, by rw [show prt 1 a f0 t0 b = prt 0 a f0 t0 b by simp [prt, hxy]]; exact HI2.out.idle ((Chg.refl Nowhere wr).alloc _)⟩
                      case measure => simp [intOf]
                  · by_cases hxy : t0 < b
                    · have hdx : decide (t0 < b) = true := decide_eq_true hxy
                      go_wp2_with (at_builtin; obtain ⟨l', w', hr, hI3⟩ := (HI2.out.idle (((Chg.refl Nowhere _).alloc (.cells #[.int .i64 (t0), .int .i64 (b)] 33)).alloc (.cells #[.int .i64 (t0), .int .i64 (b)] 33))).app (by rw [List.length_append]; have := prt_len 1 a f0 t0 b; have := HLK.out; omega) (t0) (b) 30 _ (two_new wr _ _); have HI3 := Lib.hid hI3; clear hI3; refine Lib.wpList_append_run _ rfl _ _ 30 30 rfl _ _ rfl rfl l' w' hr ?_; clear hr)
                      go_roundw
                      case rel => exact ⟨2, by omega, rfl, by have := HI3.out; rw [List.append_assoc, show prt 1 a f0 t0 b ++ [(t0, b)] = prt 2 a f0 t0 b by simp [prt, hxy]] at this; exact this⟩
                      case measure => simp [intOf]
                    · have hdx : decide (t0 < b) = false := decide_eq_false hxy
                      go_wp2_with fail
                      go_roundw
                      case rel => exact ⟨2, by omega, rfl, by rw [show prt 2 a f0 t0 b = prt 1 a f0 t0 b by simp [prt, hxy]]; exact HI2.out.idle ((Chg.refl Nowhere wr).alloc _)⟩
                      case measure => simp [intOf]
                  · go_wp2_with fail
                    go_roundw
                    case rel => exact ⟨k + 1, by have := HK2.out; omega, by go_num, by have := HI2.out.cut; rw [← HPT2.out] at this; rw [List.take_add_one, HBK.out, Ra.left_append]; simpa [Ra.left_cons, Ra.left_nil] using this⟩
                    case measure => have := HK2.out; simp [intOf]; omega
              · have HPT2 := Lib.hid (show Ra.left1 f0 t0 (a, b) = prt 2 a f0 a b by rw [HPT.out]; unfold prt; rw [show m1 = f0 by rw [← E1.out]; simp; try omega, show m2 = a by rw [← E2.out]; simp; try omega]; simp)
                go_wp2_with fail
                have HIN := Lib.hid (show Inn w (wr.heap.size + 1) a f0 a b (Ra.left f0 t0 (B.take k) ++ prt 0 a f0 a b) u10 ((wr.alloc (Obj.cells #[.int .i64 a, .int .i64 b] 33)).alloc (Obj.cells #[.int .i64 a, .int .i64 f0, .int .i64 a, .int .i64 b] 33)) from
                  ⟨by rw [show prt 0 a f0 a b = [] by simp [prt], List.append_nil]; exact HCK.out.same (((Chg.refl Nowhere wr).alloc _).alloc _), two_new _ _ _, fun q hq e => by
                    obtain ⟨cur, hh⟩ := own_blk HCK.out.own hq
                    have := lt_blk hh
                    omega⟩)
                have HLK := Lib.hid (show (Ra.left f0 t0 (B.take k)).length ≤ 1000002 from by have := Ra.left_len1 hft (HGB.out.take k); rw [List.length_take] at this; have := HBL2.out; have := HNB.out; have := HN.out; have := HJM.out; omega)
                go_loopw [10, 67] (fun l i wq => ∃ p : Nat, p ≤ 2 ∧ i = .int .i64 (p : Int) ∧ Inn w (wr.heap.size + 1) a f0 a b (Ra.left f0 t0 (B.take k) ++ prt p a f0 a b) l wq) (fun _ i _ => 2 - (intOf i).toNat)
                case atStart => exact ⟨0, by omega, rfl, HIN.out⟩
                case round =>
                  obtain ⟨p, hp, rfl, hIn⟩ := hrel
                  have HI2 := Lib.hid hIn
                  obtain ⟨d0, d1, d2, d3⟩ := hIn.cell
                  clear hIn x1 x2 y6 HIN
                  rcases (by omega : p = 0 ∨ p = 1 ∨ p = 2) with rfl | rfl | rfl
                  · by_cases hxy : a < f0
                    · exact absurd hxy (by omega)
                    · have hdx : decide (a < f0) = false := decide_eq_false hxy
                      go_wp2_with fail
                      go_roundw
                      case rel => exact ⟨1, by omega, rfl, by rw [show prt 1 a f0 a b = prt 0 a f0 a b by simp [prt, hxy]]; exact HI2.out.idle ((Chg.refl Nowhere wr).alloc _)⟩
                      case measure => simp [intOf]
                  · by_cases hxy : a < b
                    · have hdx : decide (a < b) = true := decide_eq_true hxy
                      go_wp2_with (at_builtin; obtain ⟨l', w', hr, hI3⟩ := (HI2.out.idle (((Chg.refl Nowhere _).alloc (.cells #[.int .i64 (a), .int .i64 (b)] 33)).alloc (.cells #[.int .i64 (a), .int .i64 (b)] 33))).app (by rw [List.length_append]; have := prt_len 1 a f0 a b; have := HLK.out; omega) (a) (b) 30 _ (two_new wr _ _); have HI3 := Lib.hid hI3; clear hI3; refine Lib.wpList_append_run _ rfl _ _ 30 30 rfl _ _ rfl rfl l' w' hr ?_; clear hr)
                      go_roundw
                      case rel => exact ⟨2, by omega, rfl, by have := HI3.out; rw [List.append_assoc, show prt 1 a f0 a b ++ [(a, b)] = prt 2 a f0 a b by simp [prt, hxy]] at this; exact this⟩
                      case measure => simp [intOf]
                    · have hdx : decide (a < b) = false := decide_eq_false hxy
                      go_wp2_with fail
                      go_roundw
                      case rel => exact ⟨2, by omega, rfl, by rw [show prt 2 a f0 a b = prt 1 a f0 a b by simp [prt, hxy]]; exact HI2.out.idle ((Chg.refl Nowhere wr).alloc _)⟩
                      case measure => simp [intOf]
                  · go_wp2_with fail
                    go_roundw
                    case rel => exact ⟨k + 1, by have := HK2.out; omega, by go_num, by have := HI2.out.cut; rw [← HPT2.out] at this; rw [List.take_add_one, HBK.out, Ra.left_append]; simpa [Ra.left_cons, Ra.left_nil] using this⟩
                    case measure => have := HK2.out; simp [intOf]; omega
              · have HPT2 := Lib.hid (show Ra.left1 f0 t0 (a, b) = prt 2 a b t0 b by rw [HPT.out]; unfold prt; rw [show m1 = b by rw [← E1.out]; simp; try omega, show m2 = t0 by rw [← E2.out]; simp; try omega]; simp)
                go_wp2_with fail
                have HIN := Lib.hid (show Inn w (wr.heap.size + 1) a b t0 b (Ra.left f0 t0 (B.take k) ++ prt 0 a b t0 b) u10 ((wr.alloc (Obj.cells #[.int .i64 a, .int .i64 b] 33)).alloc (Obj.cells #[.int .i64 a, .int .i64 b, .int .i64 t0, .int .i64 b] 33)) from
                  ⟨by rw [show prt 0 a b t0 b = [] by simp [prt], List.append_nil]; exact HCK.out.same (((Chg.refl Nowhere wr).alloc _).alloc _), two_new _ _ _, fun q hq e => by
                    obtain ⟨cur, hh⟩ := own_blk HCK.out.own hq
                    have := lt_blk hh
                    omega⟩)
                have HLK := Lib.hid (show (Ra.left f0 t0 (B.take k)).length ≤ 1000002 from by have := Ra.left_len1 hft (HGB.out.take k); rw [List.length_take] at this; have := HBL2.out; have := HNB.out; have := HN.out; have := HJM.out; omega)
                go_loopw [10, 67] (fun l i wq => ∃ p : Nat, p ≤ 2 ∧ i = .int .i64 (p : Int) ∧ Inn w (wr.heap.size + 1) a b t0 b (Ra.left f0 t0 (B.take k) ++ prt p a b t0 b) l wq) (fun _ i _ => 2 - (intOf i).toNat)
                case atStart => exact ⟨0, by omega, rfl, HIN.out⟩
                case round =>
                  obtain ⟨p, hp, rfl, hIn⟩ := hrel
                  have HI2 := Lib.hid hIn
                  obtain ⟨d0, d1, d2, d3⟩ := hIn.cell
                  clear hIn x1 x2 y6 HIN
                  rcases (by omega : p = 0 ∨ p = 1 ∨ p = 2) with rfl | rfl | rfl
                  · by_cases hxy : a < b
                    · have hdx : decide (a < b) = true := decide_eq_true hxy
                      go_wp2_with (at_builtin; obtain ⟨l', w', hr, hI3⟩ := (HI2.out.idle (((Chg.refl Nowhere _).alloc (.cells #[.int .i64 (a), .int .i64 (b)] 33)).alloc (.cells #[.int .i64 (a), .int .i64 (b)] 33))).app (by rw [List.length_append]; have := prt_len 0 a b t0 b; have := HLK.out; omega) (a) (b) 30 _ (two_new wr _ _); have HI3 := Lib.hid hI3; clear hI3; refine Lib.wpList_append_run _ rfl _ _ 30 30 rfl _ _ rfl rfl l' w' hr ?_; clear hr)
                      go_roundw
                      case rel => exact ⟨1, by omega, rfl, by have := HI3.out; rw [List.append_assoc, show prt 0 a b t0 b ++ [(a, b)] = prt 1 a b t0 b by simp [prt, hxy]] at this; exact this⟩
                      case measure => simp [intOf]
                    · have hdx : decide (a < b) = false := decide_eq_false hxy
                      go_wp2_with fail
                      go_roundw
                      case rel => exact ⟨1, by omega, rfl, by rw [show prt 1 a b t0 b = prt 0 a b t0 b by simp [prt, hxy]]; exact HI2.out.idle ((Chg.refl Nowhere wr).alloc _)⟩
                      case measure => simp [intOf]
                  · by_cases hxy : t0 < b
                    · exact absurd hxy (by omega)
                    · have hdx : decide (t0 < b) = false := decide_eq_false hxy
                      go_wp2_with fail
                      go_roundw
                      case rel => exact ⟨2, by omega, rfl, by rw [show prt 2 a b t0 b = prt 1 a b t0 b by simp [prt, hxy]]; exact HI2.out.idle ((Chg.refl Nowhere wr).alloc _)⟩
                      case measure => simp [intOf]
                  · go_wp2_with fail
                    go_roundw
                    case rel => exact ⟨k + 1, by have := HK2.out; omega, by go_num, by have := HI2.out.cut; rw [← HPT2.out] at this; rw [List.take_add_one, HBK.out, Ra.left_append]; simpa [Ra.left_cons, Ra.left_nil] using this⟩
                    case measure => have := HK2.out; simp [intOf]; omega
              · have HPT2 := Lib.hid (show Ra.left1 f0 t0 (a, b) = prt 2 a b a b by rw [HPT.out]; unfold prt; rw [show m1 = b by rw [← E1.out]; simp; try omega, show m2 = a by rw [← E2.out]; simp; try omega]; simp)
                go_wp2_with fail
                have HIN := Lib.hid (show Inn w (wr.heap.size + 1) a b a b (Ra.left f0 t0 (B.take k) ++ prt 0 a b a b) u10 ((wr.alloc (Obj.cells #[.int .i64 a, .int .i64 b] 33)).alloc (Obj.cells #[.int .i64 a, .int .i64 b, .int .i64 a, .int .i64 b] 33)) from
                  ⟨by rw [show prt 0 a b a b = [] by simp [prt], List.append_nil]; exact HCK.out.same (((Chg.refl Nowhere wr).alloc _).alloc _), two_new _ _ _, fun q hq e => by
                    obtain ⟨cur, hh⟩ := own_blk HCK.out.own hq
                    have := lt_blk hh
                    omega⟩)
                have HLK := Lib.hid (show (Ra.left f0 t0 (B.take k)).length ≤ 1000002 from by have := Ra.left_len1 hft (HGB.out.take k); rw [List.length_take] at this; have := HBL2.out; have := HNB.out; have := HN.out; have := HJM.out; omega)
                go_loopw [10, 67] (fun l i wq => ∃ p : Nat, p ≤ 2 ∧ i = .int .i64 (p : Int) ∧ Inn w (wr.heap.size + 1) a b a b (Ra.left f0 t0 (B.take k) ++ prt p a b a b) l wq) (fun _ i _ => 2 - (intOf i).toNat)
                case atStart => exact ⟨0, by omega, rfl, HIN.out⟩
                case round =>
                  obtain ⟨p, hp, rfl, hIn⟩ := hrel
                  have HI2 := Lib.hid hIn
                  obtain ⟨d0, d1, d2, d3⟩ := hIn.cell
                  clear hIn x1 x2 y6 HIN
                  rcases (by omega : p = 0 ∨ p = 1 ∨ p = 2) with rfl | rfl | rfl
                  · by_cases hxy : a < b
                    · exact absurd hxy (by omega)
                    · have hdx : decide (a < b) = false := decide_eq_false hxy
                      go_wp2_with fail
                      go_roundw
                      case rel => exact ⟨1, by omega, rfl, by rw [show prt 1 a b a b = prt 0 a b a b by simp [prt, hxy]]; exact HI2.out.idle ((Chg.refl Nowhere wr).alloc _)⟩
                      case measure => simp [intOf]
                  · by_cases hxy : a < b
                    · exact absurd hxy (by omega)
                    · have hdx : decide (a < b) = false := decide_eq_false hxy
                      go_wp2_with fail
                      go_roundw
                      case rel => exact ⟨2, by omega, rfl, by rw [show prt 2 a b a b = prt 1 a b a b by simp [prt, hxy]]; exact HI2.out.idle ((Chg.refl Nowhere wr).alloc _)⟩
                      case measure => simp [intOf]
                  · go_wp2_with fail
                    go_roundw
                    case rel => exact ⟨k + 1, by have := HK2.out; omega, by go_num, by have := HI2.out.cut; rw [← HPT2.out] at this; rw [List.take_add_one, HBK.out, Ra.left_append]; simpa [Ra.left_cons, Ra.left_nil] using this⟩
                    case measure => have := HK2.out; simp [intOf]; omega
            · obtain rfl : k = m := by omega
              have hki : ¬ ((k : Int) < (k : Int)) := by omega
              have HCI := Lib.hid (show CutIn w _ D wr from by have := HCK.out; rw [← HBL2.out, List.take_length, ← HD.out] at this; exact this)
              clear y6
              have y7 := (H.out.idle HCI.out.chg).cell0
              go_upto_region 18 with (go_at_call 75; refine (HREP.out _ _ HCI.out).mono ?_; rintro e w8 ⟨v', rfl, q1, q2, q3⟩; obtain ⟨A9, N9, c9, rfl⟩ := own_shape q1; have HE := HEND.out _ _ _ w8 HCI.out q1 q2 q3; obtain ⟨⟨z1, z2⟩, HR, HE⟩ := HE; have HE := Lib.hid HE; have HR := Lib.hid HR; clear q1 q2 q3)
              go_wp2_with (go_at_call 74; refine (HM2.out _ _ HR.out).mono ?_; rintro e w9 ⟨rfl, hC9⟩; have HC9 := Lib.hid hC9; clear hC9)
              go_ret
              exact HE.out _ HC9.out
  · have hd : decide (t0 ≤ f0) = true := decide_eq_true (by omega)
    have hd2 : t0 ≤ f0 := by omega
    have HE := Lib.hid (show ∀ w4, Chg Nowhere w w4 → ∃ L', Ending.returned (.int .i64 0) = .returned (.int .i64 (Ra.total L - Ra.total L')) ∧ Ra.Good L' ∧ (∀ n, Ra.mem L' n ↔ Ra.mem L n ∧ ¬ (f0 ≤ n ∧ n < t0)) ∧ L'.length ≤ L.length + 1 ∧ Moved w o v L' w4 from fun w4 h4 =>
      ⟨L, by rw [Int.sub_self], hG, fun n => ⟨fun h => ⟨h, by omega⟩, fun h => h.1⟩, by omega, ⟨v, h.idle h4, fun i hi => .inl hi⟩, h4.mono fun _ _ h => h.elim⟩)
    clear h hG
    go_enter Try.func23, Try.ntmps23
    go_upto_region 2 with (go_at_call 72; refine (HI.out _).mono ?_; rintro e w4 ⟨rfl, hC4⟩; have HC4 := Lib.hid hC4; clear hC4)
    go_wp2_with fail
    go_ret
    exact HE.out _ HC4.out
end Go.Proofs.Ytlkbfacdaelbfaa
