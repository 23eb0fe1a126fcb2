/-
  WindowOrder, walked: it returns true.
-/
import Derived.Test.YtiijnhgafadokaaWinOrdPure
namespace Go.Proofs.Ytiijnhgafadokaa
open Go.RowKit Wins
set_option linter.unusedVariables false

def IntOk (z : Int) : Prop := -9223372036854775808 ≤ z ∧ z ≤ 9223372036854775807
def hasArr (u : Nat → Bool) : Array Value := ((List.range 1024).map fun i => Value.bool (u i)).toArray
theorem hasArr_get (u : Nat → Bool) {i : Nat} (hi : i < 1024) : (hasArr u)[i]? = some (.bool (u i)) := by
  simp [hasArr, hi]
theorem hasArr_set (u : Nat → Bool) {k : Nat} (hk : k < 1024) : (hasArr u).setIfInBounds k (.bool true) = hasArr (upd u k) := by
  apply Array.ext_getElem?
  intro i
  rw [Array.getElem?_setIfInBounds]
  by_cases hi : i < 1024
  · rw [hasArr_get _ hi, hasArr_get _ hi, upd]
    by_cases e : k = i
    · subst e; simp [hasArr, hi]
    · rw [if_neg e, if_neg (fun h => e h.symm)]
  · have h1 : (hasArr u)[i]? = .none := by simp [hasArr]; omega
    have h2 : (hasArr (upd u k))[i]? = .none := by simp [hasArr]; omega
    rw [h1, h2, if_neg (by omega)]
theorem hasArr_new : hasArr (fun _ => false) = Try.zeroCells51 := by kernel_rfl

theorem hasArr_one (u : Nat → Bool) : (hasArr u).all (·.oneCell') = true := by
  rw [Array.all_eq_true_iff_forall_mem]
  intro x hx
  simp only [hasArr, List.mem_toArray, List.mem_map] at hx
  obtain ⟨i, _, rfl⟩ := hx
  rfl
theorem zeros_store (w : World) : (storeCells ⟨w.heap.size, 0, none⟩ Try.zeroCells51.toList 0).run Try.prog (w.alloc (.cells Try.zeroCells51 51)) = .ok () (w.alloc (.cells Try.zeroCells51 51)) :=
  run_storeCells_new (P := Try.prog) w 51 Try.zeroCells51 Try.zeroCells51 (by rw [Try.zeroCells51_size]; kernel_rfl) rfl (by rw [← hasArr_new]; exact hasArr_one _)

/-- Block b the window, block c what was marked. -/
structure Oo (w0 : World) (b c : Nat) (W : Win) (u : Nat → Bool) (w : World) : Prop where
  win : WinAt w b W
  arr : w.heap[c]? = some (.cells (hasArr u) 51 (0,0))
  chg : Chg Nowhere w0 w
  ne : b ≠ c
  newb : w0.heap.size ≤ b
  newc : w0.heap.size ≤ c
theorem Oo.step {w0 : World} {b c : Nat} {T T' : Win} {u : Nat → Bool} {w w' : World} (h : Oo w0 b c T u w) (hc : Chg (At b) w w') (ht : WinAt w' b T') : Oo w0 b c T' u w' :=
  ⟨ht, hc.keep h.arr (fun e => h.ne e.symm), h.chg.trans hc (fun i hi e => by have : i = b := e; have := h.newb; omega), h.ne, h.newb, h.newc⟩
theorem Oo.idle {w0 : World} {b c : Nat} {T : Win} {u : Nat → Bool} {w w' : World} (h : Oo w0 b c T u w) (hc : Chg Nowhere w w') : Oo w0 b c T u w' :=
  ⟨h.win.chg hc (not_nowhere _), hc.same h.arr, h.chg.trans' hc, h.ne, h.newb, h.newc⟩
theorem Oo.mark {w0 : World} {b c : Nat} {T : Win} {u : Nat → Bool} {w : World} (h : Oo w0 b c T u w) {k : Nat} (hk : k < 1024) : Oo w0 b c T (upd u k) (w.setCell ⟨c, k, .none⟩ (.bool true)) :=
  ⟨h.win.keep (set_other _ h.ne), by rw [set_blk _ h.arr, hasArr_set u hk], h.chg.put (.inr h.newc), h.ne, h.newb, h.newc⟩
theorem Oo.cell {w0 : World} {b c : Nat} {T : Win} {u : Nat → Bool} {w : World} (h : Oo w0 b c T u w) {k : Nat} (hk : k < 1024) : w.cell? ⟨c, k, .none⟩ = some (.bool (u k)) := by
  rw [cell_blk h.arr, hasArr_get u hk]

theorem pop_none : ∀ n, pop (fun _ => false) n = 0
  | 0 => rfl
  | n + 1 => by rw [pop, pop_none n]; rfl

theorem tot_nonneg {p : Int → Bool} (L : List (Int × Int)) (h : Good p L) : 0 ≤ tot L := by
  induction L with
  | nil => exact Int.le_refl 0
  | cons r L ih =>
    have := ih (fun q hq => h q (List.mem_cons_of_mem _ hq))
    have := (h r (List.mem_cons_self ..)).1
    rw [tot]; omega
theorem tot_take {p : Int → Bool} (L : List (Int × Int)) (h : Good p L) {i : Nat} {r : Int × Int} (hr : L[i]? = some r) :
    0 ≤ tot (L.take i) ∧ tot (L.take (i + 1)) = tot (L.take i) + (r.2 - r.1) ∧ tot (L.take i) + (r.2 - r.1) ≤ tot L := by
  have e : tot (L.take (i + 1)) = tot (L.take i) + (r.2 - r.1) := by
    rw [List.take_add_one, hr, tot_append]; simp [tot]
  refine ⟨tot_nonneg (p := p) _ fun q hq => h q (List.mem_of_mem_take hq), e, ?_⟩
  have h1 : tot (L.take (i + 1) ++ L.drop (i + 1)) = _ := tot_append _ _
  rw [List.take_append_drop] at h1
  have h2 := tot_nonneg (p := p) (L.drop (i + 1)) fun q hq => h q (List.mem_of_mem_drop hq)
  omega
theorem under_in {a : Nat} {u : Nat → Bool} {t x : Int} (h : under a u t x = true) : ∃ j : Nat, j < 1024 ∧ x = (a : Int) + j ∧ u j = true ∧ x < t := by
  unfold under ord at h
  simp only [Bool.and_eq_true, decide_eq_true_eq] at h
  obtain ⟨⟨h1, h2⟩, h3⟩ := h
  exact ⟨(x - a).toNat, by omega, by omega, h2, h3⟩

theorem fold_ix (z : Int) (h : IntOk z) : ∃ k : Nat, k < 1024 ∧ (z < 0 → -(z + 1).tmod 1024 = (k : Int)) ∧ (0 ≤ z → z % 1024 = (k : Int)) := by
  unfold IntOk at h
  rcases (by omega : z < 0 ∨ 0 ≤ z) with h0 | h0
  · obtain ⟨y, hy⟩ : ∃ y : Nat, z + 1 = -(y : Int) := ⟨(-(z + 1)).toNat, by omega⟩
    refine ⟨y % 1024, by omega, fun _ => ?_, fun _ => by omega⟩
    rw [hy, Int.neg_tmod, Int.neg_neg, Int.tmod_eq_emod_of_nonneg (by omega)]
    omega
  · exact ⟨(z % 1024).toNat, by omega, fun _ => by omega, fun _ => by omega⟩

set_option maxHeartbeats 3200000 in
set_option maxRecDepth 100000 in
theorem orderW_walk (f : Int) (A : Option Addr) (cap : Nat) (zs : List {z : Int // IntOk z}) (w : World) (hf : IntOk f) (hcap : zs.length ≤ 9223372036854775807)
    (hz : 0 < zs.length → ∃ g o, A = some ⟨g, o, none⟩ ∧ g < w.heap.size ∧ ∀ (i : Nat) z, zs[i]? = some z → w.cell? ⟨g, o + i, none⟩ = some (.int .i64 z.1)) :
    Calls Try.prog 8 #[.int .i64 f, .slice A zs.length cap] w (ShownWTo w) := by
  have HZ := Lib.hid hz; clear hz
  unfold IntOk at hf
  go_enter Try.func8, Try.ntmps8
  go_wp2_with fail
  refine (shownW_any _).mono ?_
  rintro e w1 ⟨rfl, hC1⟩
  have HC1 := Lib.hid hC1
  clear hC1
  go_wp2_with fail
  refine (newW_any _).mono ?_
  rintro e w2 ⟨b, rfl, hW, hC, hb⟩
  have H := Lib.hid (show Wb w b Wins.new w2 from ⟨hW, HC1.out.trans' hC, Nat.le_trans HC1.out.size hb⟩)
  clear hW hC hb HC1
  by_cases hout : f < 0 ∨ 281474976708655 < f
  · rcases (by omega : f < 0 ∨ 0 ≤ f) with h0 | h0
    · clear hout
      go_wp2_with fail
      go_ret
      exact ⟨rfl, H.out.chg⟩
    · have h1 : 281474976708655 < f := by omega
      clear hout
      go_wp2_with fail
      go_ret
      exact ⟨rfl, H.out.chg⟩
  · obtain ⟨a, rfl⟩ : ∃ a : Nat, f = (a : Int) := ⟨f.toNat, by omega⟩
    have ha : (a : Int) ≤ 281474976708655 := by omega
    clear hout hf
    have hlt := H.out.win.lt
    have hs1 := H.out.new
    have HO := Lib.hid (show Oo w b w2.heap.size Wins.new (fun _ => false) (w2.alloc (.cells Try.zeroCells51 51)) from
      ⟨H.out.win.chg ((Chg.refl Nowhere _).alloc _) (not_nowhere _), by rw [hasArr_new]; exact alloc_new _ _, H.out.chg.alloc _, by omega, by omega, by omega⟩)
    clear H
    have hst := zeros_store w2
    go_wp2_with fail
    clear hst
    go_loopw [8, 9, 10] (fun n t i wr => ∃ (k N : Nat) (x : Int) (W : Win) (u : Nat → Bool), k ≤ zs.length ∧ k ≤ 200 ∧ i = .int .i64 k ∧ n = .int .i64 N ∧ t = .int .i64 x ∧ Hid (x = (W.next : Int) - 1) ∧ Hid (N = pop u 1024) ∧ OrdWin W a u ∧ Oo w b w2.heap.size W u wr) (fun _ _ i _ => 200 - (intOf i).toNat)
    case atStart => exact ⟨0, 0, -1, _, _, by omega, by omega, rfl, rfl, rfl, Lib.hid rfl, Lib.hid (pop_none 1024).symm, ordWin_new a, HO.out⟩
    case round => as_aux_lemma =>
      obtain ⟨k, N, x, W, u, hk, hk2, rfl, rfl, rfl, X1, X2, hI, hO⟩ := hrel
      replace HO := Lib.hid hO
      have HI := Lib.hid hI
      have hN : N ≤ 1024 := by rw [X2.out]; exact pop_le _ _
      have hx0 : -1 ≤ x := by rw [X1.out]; omega
      have hx1 : x ≤ 281474976710656 := by have := hO.win.le; rw [X1.out]; omega
      clear hO hI
      by_cases hend : k < zs.length ∧ k < 200
      · obtain ⟨hk3, hk4⟩ := hend
        obtain ⟨g, o, rfl, hg, hcell⟩ := HZ.out (by omega)
        obtain ⟨⟨z, zok⟩, hzk⟩ : ∃ z, zs[k]? = some z := ⟨_, List.getElem?_eq_getElem hk3⟩
        have c : wr.cell? ⟨g, o + k, none⟩ = some (.int .i64 z) := (HO.out.chg.cell (p := ⟨g, o + k, none⟩) hg (not_nowhere _)).trans (hcell k _ hzk)
        obtain ⟨j, hj, e1, e2⟩ := fold_ix z zok
        have z0 := zok.1
        have z1 := zok.2
        clear hcell hzk
        have HC := Lib.hid (HI.out.chk hj (by omega))
        have HS := Lib.hid (HI.out.step hj (by omega))
        have CU := Lib.hid (HS.out.1.count)
        have PU := Lib.hid (pop_upd u j 1024)
        by_cases hneg : z < 0
        all_goals
          first | (have e := e1 hneg) | (have e := e2 (by omega))
          clear e1 e2 zok
          have HNX := Lib.hid (show ((marks W ((a : Int) + j)).next : Int) - 1 = max x ((a : Int) + j) by rw [HS.out.2, X1.out]; omega)
          rcases (by omega : x < (a : Int) + j ∨ x = (a : Int) + j ∨ (a : Int) + j < x) with hxa | rfl | hxa
          all_goals
            first
            | (have T := Lib.hid (HNX.out.trans (show max _ ((a : Int) + j) = (a : Int) + j by omega)))
            | (have T := Lib.hid (HNX.out.trans (show max x ((a : Int) + j) = x by omega)))
            clear HNX
            cases hu : u j with
            | false => as_aux_lemma =>
              rw [hu, if_neg (by decide)] at HC
              have CN := Lib.hid (show cnt (marks W ((a : Int) + j)).m 16 = (N : Int) + 1 by
                rw [CU.out, PU.out, ← X2.out, if_pos ⟨hj, hu⟩]; rfl)
              have PN := Lib.hid (show N + 1 = pop (upd u j) 1024 by rw [PU.out, ← X2.out, if_pos ⟨hj, hu⟩])
              clear CU PU
              go_wp2_with fail
              refine (mark_any _ _ _ _ HO.out.win).mono ?_
              rw [HC.out]
              rintro e w5 ⟨rfl, hC, hW⟩
              have HO5 := Lib.hid (HO.out.step hC hW)
              clear hC hW c
              have c5 := HO5.out.cell hj
              rw [hu] at c5
              have f5 : w5.frozen? ⟨w2.heap.size, j, none⟩ = false := frozen_blk HO5.out.arr
              have HM := Lib.hid (HO5.out.mark hj)
              go_wp2_with fail
              refine (top_any _ _ _ HM.out.win).mono ?_
              rw [T.out]
              rintro e w' ⟨rfl, rfl⟩
              go_wp2_with fail
              refine (count_any _ _ _ HM.out.win).mono ?_
              rw [CN.out]
              rintro e w' ⟨rfl, rfl⟩
              go_wp2_with fail
              go_roundw
              case rel => exact ⟨k + 1, N + 1, _, _, _, by omega, by omega, by go_num, by go_num, rfl, Lib.hid T.out.symm, PN, HS.out.1, HM.out⟩
              case measure => simp [intOf]; omega
            | true => as_aux_lemma =>
              rw [hu, if_pos rfl] at HC
              have CN := Lib.hid (show cnt (marks W ((a : Int) + j)).m 16 = (N : Int) by
                rw [CU.out, PU.out, ← X2.out, if_neg (by rw [hu]; simp), Nat.add_zero])
              have PN := Lib.hid (show N = pop (upd u j) 1024 by rw [PU.out, ← X2.out, if_neg (by rw [hu]; simp), Nat.add_zero])
              clear CU PU
              go_wp2_with fail
              refine (mark_any _ _ _ _ HO.out.win).mono ?_
              rw [HC.out]
              rintro e w5 ⟨rfl, hC, hW⟩
              have HO5 := Lib.hid (HO.out.step hC hW)
              clear hC hW c
              have c5 := HO5.out.cell hj
              rw [hu] at c5
              have f5 : w5.frozen? ⟨w2.heap.size, j, none⟩ = false := frozen_blk HO5.out.arr
              have HM := Lib.hid (HO5.out.mark hj)
              go_wp2_with fail
              refine (top_any _ _ _ HM.out.win).mono ?_
              rw [T.out]
              rintro e w' ⟨rfl, rfl⟩
              go_wp2_with fail
              refine (count_any _ _ _ HM.out.win).mono ?_
              rw [CN.out]
              rintro e w' ⟨rfl, rfl⟩
              go_wp2_with fail
              go_roundw
              case rel => exact ⟨k + 1, N, _, _, _, by omega, by omega, by go_num, rfl, rfl, Lib.hid T.out.symm, PN, HS.out.1, HM.out⟩
              case measure => simp [intOf]; omega
      · have hcase : k = zs.length ∨ k < zs.length ∧ k = 200 := by omega
        have TD := Lib.hid HI.out.told
        clear hend
        rcases hcase with rfl | ⟨hkl2, rfl⟩
        all_goals as_aux_lemma =>
          go_wp2_with fail
          refine (below_any _ _ _ _ HO.out.win).mono ?_
          rintro e wx ⟨v, rfl, hB, hC⟩
          replace HO := Lib.hid (HO.out.idle hC)
          clear hC
          obtain ⟨l, hl⟩ : ∃ l, l = below W 1024 := ⟨_, rfl⟩
          rw [← hl] at hB
          rw [← hl, ← X1.out, ← X2.out] at TD
          clear hl X2
          have hl1 := TD.out.2.2
          have HG := Lib.hid TD.out.1
          have HT := Lib.hid TD.out.2.1
          clear TD
          obtain ⟨_, A, cp, rfl, _, hA⟩ := Rd.of_owns hB
          have HA := Lib.hid hA
          clear hA hB
          have TN := Lib.hid (tot_nonneg _ HG.out)
          go_wp2_with fail
          go_loopw [14, 15] (fun tt ii wr => ∃ (i : Nat) (y : Int), i ≤ l.length ∧ ii = .int .i64 i ∧ tt = .int .i64 y ∧ Hid (y = tot (l.take i)) ∧ wr = wx) (fun _ ii _ => 1024 - (intOf ii).toNat)
          case atStart => exact ⟨0, 0, by omega, rfl, rfl, Lib.hid rfl, rfl⟩
          case round =>
            obtain ⟨i, y, hi, rfl, rfl, Y, rfl⟩ := hrel
            by_cases hi2 : i < l.length
            · obtain ⟨r, hr⟩ : ∃ r, l[i]? = some r := ⟨_, List.getElem?_eq_getElem hi2⟩
              obtain ⟨g, o, rfl, hg, hcell⟩ := HA.out (by omega)
              have c0 := (hcell (i * 2) (by rw [flat_len]; omega)).trans (flat_get _ _ _ hr).1
              have c1 : wr.cell? ⟨g, o + i * 2 + 1, none⟩ = _ := (hcell (i * 2 + 1) (by rw [flat_len]; omega)).trans (flat_get _ _ _ hr).2
              obtain ⟨y0, y1, y2⟩ := tot_take _ HG.out hr
              have Y1 := Lib.hid y1
              clear y1
              rw [← Y.out] at y0 y2
              rw [← Y.out] at Y1
              have y3 := HT.out
              obtain ⟨hr0, hr1⟩ := HG.out r (List.mem_of_getElem? hr)
              have HR := Lib.hid hr1
              obtain ⟨r1, r2⟩ := r
              simp only at c0 c1 y2 hr0
              clear hr1 hcell hr
              have hy2 : y + (r2 - r1) ≤ 1024 := by omega
              clear y3 y2
              go_wp2_with fail
              go_loopw [14, 16] (fun tt xx wq => ∃ (x1 y1 : Int), xx = .int .i64 x1 ∧ tt = .int .i64 y1 ∧ r1 ≤ x1 ∧ x1 ≤ r2 ∧ y1 = y + (x1 - r1) ∧ wq = wr) (fun _ xx _ => (r2 - intOf xx).toNat)
              case atStart => exact ⟨r1, y, rfl, rfl, by omega, by omega, by omega, rfl⟩
              case round =>
                obtain ⟨x1, y1, rfl, rfl, hx1, hx2, hy1, rfl⟩ := hrel
                by_cases hx3 : x1 < r2
                · obtain ⟨j, hj, rfl, hu, hxt⟩ := under_in (HR.out x1 hx1 hx3)
                  have hc := HO.out.cell hj
                  rw [hu] at hc
                  go_wp2_with fail
                  go_roundw
                  case rel => exact ⟨(a : Int) + j + 1, _, rfl, rfl, by omega, by omega, by omega, by first | trivial | rfl⟩
                  case measure => simp [intOf]; omega
                · obtain rfl : x1 = r2 := by omega
                  go_wp2_with fail
                  go_roundw
                  case rel => exact ⟨i + 1, _, by omega, by go_num, rfl, Lib.hid (by rw [Y1.out]; first | omega | (simp only; omega)), by first | trivial | rfl⟩
                  case measure => simp [intOf]; omega
            · obtain rfl : i = l.length := by omega
              have Y1 := Lib.hid (show y = max 0 ((N : Int) - 1) by rw [Y.out, List.take_length, HT.out])
              clear Y HT
              rcases (by omega : N = 0 ∨ N = 1 ∨ 2 ≤ N) with rfl | rfl | hN2
              · obtain rfl : y = 0 := by rw [Y1.out]; rfl
                go_wp2_with fail
                go_ret
                exact ⟨rfl, HO.out.chg⟩
              · obtain rfl : y = 0 := by rw [Y1.out]; rfl
                go_wp2_with fail
                go_ret
                exact ⟨rfl, HO.out.chg⟩
              · obtain rfl : y = (N : Int) - 1 := by rw [Y1.out]; omega
                go_wp2_with fail
                go_ret
                exact ⟨rfl, HO.out.chg⟩
def intRb (z : {z : Int // IntOk z}) : List Value := [.int .i64 z.1]
theorem orderW_walk' (f : Int) (s : Option Addr) (cap : Nat) (zs : List {z : Int // IntOk z}) (w : World) (hf : IntOk f) (hcap : zs.length ≤ cap) (hm : cap ≤ maxLen)
    (hc : 0 < zs.length → ∃ g o, s = some ⟨g, o, none⟩ ∧ g < w.heap.size ∧ ∀ (i : Nat) z, zs[i]? = some z → ∀ (j : Nat) u, (intRb z)[j]? = some u → w.cell? ⟨g, o + (i * 1 + j), none⟩ = some u) :
    Calls Try.prog 8 #[.int .i64 f, .slice s zs.length cap] w (ShownWTo w) := by
  refine orderW_walk f s cap zs w hf (by unfold maxLen at hm; omega) fun h0 => ?_
  obtain ⟨g, o, rfl, hg, hcell⟩ := hc h0
  refine ⟨g, o, rfl, hg, fun i z hz => ?_⟩
  have := hcell i z hz 0 _ rfl
  rw [Nat.mul_one, Nat.add_zero] at this
  exact this
end Go.Proofs.Ytiijnhgafadokaa
