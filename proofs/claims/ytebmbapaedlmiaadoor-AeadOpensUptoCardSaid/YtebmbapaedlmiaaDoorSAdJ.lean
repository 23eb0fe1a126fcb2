/-
  The document's numbers: reduce (the walk).
-/
import Derived.Test.YtebmbapaedlmiaaDoorSAdF
import Derived.Deep.DeepCutAuto
namespace Go.Proofs.YtebmbapaedlmiaaDoor
open Go.RowKit Ae
set_option linter.unusedVariables false

/-- What the walk of reduce keeps. -/
structure RedW (w wr : World) (D : List Nat) : Prop where
  r : wr.heap[w.heap.size]? = some (.cells (bs (List.replicate 17 0)) 58 (0, 0))
  d : wr.heap[w.heap.size + 1]? = some (.cells (ia D) 3 (0, 0))
  c : Chg Nowhere w wr
theorem RedW.chg {w wr w2 : World} {D : List Nat} (h : RedW w wr D) (hc : Chg Nowhere wr w2) : RedW w w2 D := ⟨hc.same h.r, hc.same h.d, h.c.then_none hc⟩
theorem RedW.other {w wr : World} {D : List Nat} (h : RedW w wr D) {b : Nat} (hb : w.heap.size + 1 < b) (o : Nat) (v : Value) : RedW w (wr.setCell ⟨b, o, none⟩ v) D :=
  ⟨(set_other _ (by show w.heap.size ≠ b; omega)).trans h.r, (set_other _ (by show w.heap.size + 1 ≠ b; omega)).trans h.d, h.c.put (.inr (by omega))⟩
theorem RedW.put {w wr : World} {D : List Nat} (h : RedW w wr D) (i x : Nat) : RedW w (wr.setCell ⟨w.heap.size + 1, i, none⟩ (.int .i64 (x : Int))) (D.set i x) :=
  ⟨(set_other _ (by simp)).trans h.r, (set_blk _ h.d).trans (by rw [ia_set]), h.c.put (.inr (by omega))⟩
/-- What a block of numbers tells, read as digits. -/
def mval (w : World) (g : Nat) : Nat := match w.heap[g]? with
  | some (.cells cs _ _) => dval (cs.toList.map fun v => (intOf v).toNat)
  | _ => 0
theorem mval_of {w : World} {g : Nat} {D : List Nat} {t : TypeId} (h : w.heap[g]? = some (.cells (ia D) t (0, 0))) : mval w g = dval D := by
  unfold mval
  rw [h]
  simp [ia, il, List.map_map, Function.comp_def, intOf]
theorem i64_and_nat (a b : Nat) (ha : a < 4611686018427387904) (hb : b < 4611686018427387904) : bits .and .i64 (a : Int) (b : Int) = ((a &&& b : Nat) : Int) := by
  show IntKind.i64.wrap (((BitVec.ofInt 64 (a : Int) &&& BitVec.ofInt 64 (b : Int)).toNat : Nat) : Int) = _
  rw [BitVec.ofInt_natCast, BitVec.ofInt_natCast, BitVec.toNat_and, BitVec.toNat_ofNat, BitVec.toNat_ofNat, Nat.mod_eq_of_lt (by omega), Nat.mod_eq_of_lt (by omega)]
  have h : a &&& b ≤ a := Nat.and_le_left
  rw [IntKind.wrap_i64]
  omega
theorem and1_i64 (x : Nat) (hx : x < 4611686018427387904) : bits .and .i64 (x : Int) 1 = ((x % 2 : Nat) : Int) := by
  have e : (1 : Int) = ((1 : Nat) : Int) := rfl
  rw [e, i64_and_nat x 1 hx (by decide), Nat.and_one_is_mod]
set_option maxHeartbeats 16000000 in
set_option maxRecDepth 100000 in
theorem reduce_any (t : List Nat) (ht : (t.length = 11 ∧ Upto 36028797018963968 t) ∨ (t.length = 6 ∧ Upto 288230376151711744 t)) (g0 : Nat) (w : World) (h0 : w.heap[g0]? = some (.cells (ia t) 3 (0, 0))) :
    Calls Tryd.prog 50 #[.slice (some ⟨g0, 0, none⟩) t.length t.length] w (Gives w (.agg (bs (bytesOf 17 (dval t % q))))) := by
  obtain ⟨V, hV⟩ : ∃ V, V = dval t % q := ⟨_, rfl⟩
  rw [← hV]
  have HV := Lib.hid hV.symm
  have HVQ := Lib.hid (show V < q by rw [hV]; exact Nat.mod_lt _ (by decide +kernel))
  have HTK := Lib.hid (show (t.length = 11 ∧ Upto 36028797018963968 t) ∨ (t.length = 6 ∧ Upto 288230376151711744 t) ∨ (t.length = 5 ∧ Upto 2305843009213693952 t) from ht.elim .inl (fun h => .inr (.inl h)))
  have hlt := lt_blk h0
  have hmk5 : ∀ w, (Instr.makeSlice 46 (.int .i64 5) (.int .i64 5)).run Tryd.prog w = .ok (.slice (some ⟨w.heap.size, 0, none⟩) 5 5) (w.alloc (.cells (ia (List.replicate 5 0)) 3)) := make_i 5 (by decide)
  have HW0 := Lib.hid (show RedW w ((w.alloc (.cells (bs (List.replicate 17 0)) 58)).alloc (.cells (ia (List.replicate 5 0)) 3)) (List.replicate 5 0) from ⟨alloc_old (alloc_new _ _), new_1 _ _ _, (((Chg.refl _ _).alloc _).alloc _)⟩)
  have HT0 := Lib.hid (alloc_old (o := .cells (ia (List.replicate 5 0)) 3) (alloc_old (o := .cells (bs (List.replicate 17 0)) 58) h0))
  clear hV ht h0
  go_enter Tryd.func50, Tryd.ntmps50
  go_wp2_with fail
  clear hmk5
  go_loopw [0] (fun v wr => ∃ (T : List Nat) (g : Nat), v = .slice (some ⟨g, 0, none⟩) T.length T.length ∧ g ≠ w.heap.size ∧ g ≠ w.heap.size + 1 ∧ wr.heap[g]? = some (.cells (ia T) 3 (0, 0)) ∧ RedW w wr (List.replicate 5 0) ∧ Hid (dval T % q = V) ∧ Hid ((T.length = 11 ∧ Upto 36028797018963968 T) ∨ (T.length = 6 ∧ Upto 288230376151711744 T) ∨ (T.length = 5 ∧ Upto 2305843009213693952 T))) (fun v _ => slen v)
  case atStart => exact ⟨t, g0, rfl, by omega, by omega, HT0.out, HW0.out, HV, HTK⟩
  case round =>
    obtain ⟨T, g, rfl, hg1, hg2, hT, hW, HTV, HK⟩ := hrel
    clear HW0 HT0 HV HTK hlt
    have HT := Lib.hid hT
    have HW := Lib.hid hW
    clear hT hW
    rcases HK.out with ⟨hlen, hup⟩ | ⟨hlen, hup⟩ | ⟨hlen, hup⟩
    · clear HK
      have hn : T.length = 11 := hlen
      obtain ⟨U, hU⟩ : ∃ U, U = foldK T T.length := ⟨_, rfl⟩
      have hUl : U.length = 6 := by rw [hU, foldK_len, hn]; rfl
      have HUK := Lib.hid (show (U.length = 11 ∧ Upto 36028797018963968 U) ∨ (U.length = 6 ∧ Upto 288230376151711744 U) ∨ (U.length = 5 ∧ Upto 2305843009213693952 U) from (by rw [hU]; exact .inr (.inl ⟨by rw [← hU]; exact hUl, fun x hx => Nat.le_trans (foldK_upto hup _ x hx) (by decide)⟩)))
      have HUV := Lib.hid (show dval U % q = V by rw [hU, fold11 hn]; exact HTV.out)
      have HUE := Lib.hid hU
      have HTU := Lib.hid (show Upto 288230376151711744 T from fun x hx => Nat.le_trans (hup x hx) (by decide))
      have HN := Lib.hid hn
      have hmk : ∀ w, (Instr.makeSlice 46 (.int .i64 6) (.int .i64 6)).run Tryd.prog w = .ok (.slice (some ⟨w.heap.size, 0, none⟩) 6 6) (w.alloc (.cells (ia (List.replicate 6 0)) 3)) := make_i 6 (by decide)
      rw [hn]
      clear hup hlen hU hn
      go_wp2_with fail
      have HG0 := Lib.hid (show (wr.alloc (.cells (ia (List.replicate 6 0)) 3)).heap[wr.heap.size]? = some (.cells (ia (foldK T 0)) 3 (0, 0)) by rw [foldK_zero, HN.out]; exact alloc_new _ _)
      have HT0 := Lib.hid (alloc_old (o := .cells (ia (List.replicate 6 0)) 3) HT.out)
      have HW0 := Lib.hid (HW.out.chg ((Chg.refl Nowhere wr).alloc (.cells (ia (List.replicate 6 0)) 3)))
      have HGD := Lib.hid (show wr.heap.size ≠ g ∧ w.heap.size + 1 < wr.heap.size from (by have a1 := lt_blk HT.out; have a2 := lt_blk HW.out.d; omega))
      show Code.wp _ _ _ _ (wr.alloc (.cells (ia (List.replicate 6 0)) 3))
      generalize wr.alloc (.cells (ia (List.replicate 6 0)) 3) = w2 at HG0 HT0 HW0 ⊢
      generalize wr.heap.size = gu at HG0 HGD ⊢
      go_loopw [5] (fun i wq => ∃ k : Nat, k ≤ 11 ∧ i = .int .i64 k ∧ wq.heap[gu]? = some (.cells (ia (foldK T k)) 3 (0, 0)) ∧ wq.heap[g]? = some (.cells (ia T) 3 (0, 0)) ∧ RedW w wq (List.replicate 5 0)) (fun i _ => 11 - (intOf i).toNat)
      case atStart => exact ⟨0, by omega, rfl, HG0.out, HT0.out, HW0.out⟩
      case round =>
        obtain ⟨k, hk, rfl, hG, hT, hW⟩ := hrel
        clear HT HW HG0 HT0 HW0
        have HGr := Lib.hid hG
        have HT := Lib.hid hT
        have HW := Lib.hid hW
        clear hG hT hW
        by_cases hk2 : k < 11
        · have hdk : decide ((k : Int) < 11) = true := decide_eq_true (by omega)
          obtain ⟨b, hb⟩ : ∃ b, b = T.getD k 0 := ⟨_, rfl⟩
          have hbl : b ≤ 288230376151711744 := by rw [hb]; exact HTU.out.at k
          have ct : wr.cell? ⟨g, k, none⟩ = some (.int .i64 (b : Int)) := (cell_blk HT.out (o := k)).trans (ia_get (by rw [hb]; exact some_getD (by rw [HN.out]; exact hk2)))
          rcases (by omega : k < 5 ∨ 5 ≤ k) with h5 | h5
          · have hd5 : decide ((k : Int) < 5) = true := decide_eq_true (by omega)
            obtain ⟨a, ha⟩ : ∃ a, a = (foldK T k).getD k 0 := ⟨_, rfl⟩
            have hal : a ≤ 6 * 288230376151711744 := by rw [ha]; exact (foldK_upto HTU.out k).at k
            have cu : wr.cell? ⟨gu, k, none⟩ = some (.int .i64 (a : Int)) := (cell_blk HGr.out (o := k)).trans (ia_get (by rw [ha]; exact some_getD (by rw [foldK_len]; omega)))
            have fo : wr.frozen? ⟨gu, k, none⟩ = false := frozen_blk HGr.out
            obtain ⟨z, hz⟩ : ∃ z, z = a + b := ⟨_, rfl⟩
            have hs : (a : Int) + (b : Int) = (z : Int) := by omega
            have hzl : z < 4611686018427387904 := by omega
            have HS := Lib.hid (show (foldK T k).set k z = foldK T (k + 1) by rw [hz, ha, hb]; exact foldK_low T h5)
            clear hb ha hz
            go_wp2_with fail
            go_region
            go_wp2_with fail
            go_roundw
            case rel => exact ⟨k + 1, by omega, by go_num, (set_blk _ HGr.out).trans (by rw [ia_set, HS.out]), (set_other _ (Ne.symm HGD.out.1)).trans HT.out, (HW.out.other (by have := HGD.out; omega) _ _).chg ((Chg.refl Nowhere _).drew)⟩
            case measure => simp [intOf]; omega
          · have hd5 : decide ((k : Int) < 5) = false := decide_eq_false (by omega)
            obtain ⟨j, hj⟩ : ∃ j, j = k - 5 := ⟨_, rfl⟩
            have hjs : (k : Int) - 5 = (j : Int) := by omega
            have hj6 : j < 6 := by omega
            obtain ⟨a, ha⟩ : ∃ a, a = (foldK T k).getD j 0 := ⟨_, rfl⟩
            have hal : a ≤ 6 * 288230376151711744 := by rw [ha]; exact (foldK_upto HTU.out k).at j
            have cu : wr.cell? ⟨gu, j, none⟩ = some (.int .i64 (a : Int)) := (cell_blk HGr.out (o := j)).trans (ia_get (by rw [ha]; exact some_getD (by rw [foldK_len, HN.out]; omega)))
            have fo : wr.frozen? ⟨gu, j, none⟩ = false := frozen_blk HGr.out
            obtain ⟨b5, hb5⟩ : ∃ z, z = 5 * b := ⟨_, rfl⟩
            have hb5l : b5 ≤ 5 * 288230376151711744 := by omega
            have hs5 : 5 * (b : Int) = (b5 : Int) := by omega
            obtain ⟨z, hz⟩ : ∃ z, z = a + b5 := ⟨_, rfl⟩
            have hs : (a : Int) + (b5 : Int) = (z : Int) := by omega
            have hzl : z < 4611686018427387904 := by omega
            have HS := Lib.hid (show (foldK T k).set j z = foldK T (k + 1) by rw [hz, hb5, ha, hb, hj]; exact foldK_high T h5 (by rw [HN.out]; exact hk2))
            clear hb ha hz hb5 hj
            go_wp2_with fail
            go_region
            go_wp2_with fail
            go_roundw
            case rel => exact ⟨k + 1, by omega, by go_num, (set_blk _ HGr.out).trans (by rw [ia_set, HS.out]), (set_other _ (Ne.symm HGD.out.1)).trans HT.out, (HW.out.other (by have := HGD.out; omega) _ _).chg ((Chg.refl Nowhere _).drew)⟩
            case measure => simp [intOf]; omega
        · have HF := Lib.hid (show foldK T k = U by rw [HUE.out, HN.out, show k = 11 by omega])
          rw [HF.out] at HGr
          have hUl2 := hUl
          go_wp2_with fail
          go_roundw
          case rel => exact ⟨U, gu, by rw [hUl], by have := HGD.out; omega, by have := HGD.out; omega, HGr.out, HW.out, HUV, HUK⟩
          case measure => simp [slen]
    · clear HK
      have hn : T.length = 6 := hlen
      obtain ⟨U, hU⟩ : ∃ U, U = foldK T T.length := ⟨_, rfl⟩
      have hUl : U.length = 5 := by rw [hU, foldK_len, hn]; rfl
      have HUK := Lib.hid (show (U.length = 11 ∧ Upto 36028797018963968 U) ∨ (U.length = 6 ∧ Upto 288230376151711744 U) ∨ (U.length = 5 ∧ Upto 2305843009213693952 U) from (by rw [hU]; exact .inr (.inr ⟨by rw [← hU]; exact hUl, fun x hx => Nat.le_trans (foldK_upto hup _ x hx) (by decide)⟩)))
      have HUV := Lib.hid (show dval U % q = V by rw [hU, fold6 hn]; exact HTV.out)
      have HUE := Lib.hid hU
      have HTU := Lib.hid (show Upto 288230376151711744 T from fun x hx => Nat.le_trans (hup x hx) (by decide))
      have HN := Lib.hid hn
      have hmk : ∀ w, (Instr.makeSlice 46 (.int .i64 5) (.int .i64 5)).run Tryd.prog w = .ok (.slice (some ⟨w.heap.size, 0, none⟩) 5 5) (w.alloc (.cells (ia (List.replicate 5 0)) 3)) := make_i 5 (by decide)
      rw [hn]
      clear hup hlen hU hn
      go_wp2_with fail
      have HG0 := Lib.hid (show (wr.alloc (.cells (ia (List.replicate 5 0)) 3)).heap[wr.heap.size]? = some (.cells (ia (foldK T 0)) 3 (0, 0)) by rw [foldK_zero, HN.out]; exact alloc_new _ _)
      have HT0 := Lib.hid (alloc_old (o := .cells (ia (List.replicate 5 0)) 3) HT.out)
      have HW0 := Lib.hid (HW.out.chg ((Chg.refl Nowhere wr).alloc (.cells (ia (List.replicate 5 0)) 3)))
      have HGD := Lib.hid (show wr.heap.size ≠ g ∧ w.heap.size + 1 < wr.heap.size from (by have a1 := lt_blk HT.out; have a2 := lt_blk HW.out.d; omega))
      show Code.wp _ _ _ _ (wr.alloc (.cells (ia (List.replicate 5 0)) 3))
      generalize wr.alloc (.cells (ia (List.replicate 5 0)) 3) = w2 at HG0 HT0 HW0 ⊢
      generalize wr.heap.size = gu at HG0 HGD ⊢
      go_loopw [5] (fun i wq => ∃ k : Nat, k ≤ 6 ∧ i = .int .i64 k ∧ wq.heap[gu]? = some (.cells (ia (foldK T k)) 3 (0, 0)) ∧ wq.heap[g]? = some (.cells (ia T) 3 (0, 0)) ∧ RedW w wq (List.replicate 5 0)) (fun i _ => 6 - (intOf i).toNat)
      case atStart => exact ⟨0, by omega, rfl, HG0.out, HT0.out, HW0.out⟩
      case round =>
        obtain ⟨k, hk, rfl, hG, hT, hW⟩ := hrel
        clear HT HW HG0 HT0 HW0
        have HGr := Lib.hid hG
        have HT := Lib.hid hT
        have HW := Lib.hid hW
        clear hG hT hW
        by_cases hk2 : k < 6
        · have hdk : decide ((k : Int) < 6) = true := decide_eq_true (by omega)
          obtain ⟨b, hb⟩ : ∃ b, b = T.getD k 0 := ⟨_, rfl⟩
          have hbl : b ≤ 288230376151711744 := by rw [hb]; exact HTU.out.at k
          have ct : wr.cell? ⟨g, k, none⟩ = some (.int .i64 (b : Int)) := (cell_blk HT.out (o := k)).trans (ia_get (by rw [hb]; exact some_getD (by rw [HN.out]; exact hk2)))
          rcases (by omega : k < 5 ∨ 5 ≤ k) with h5 | h5
          · have hd5 : decide ((k : Int) < 5) = true := decide_eq_true (by omega)
            obtain ⟨a, ha⟩ : ∃ a, a = (foldK T k).getD k 0 := ⟨_, rfl⟩
            have hal : a ≤ 6 * 288230376151711744 := by rw [ha]; exact (foldK_upto HTU.out k).at k
            have cu : wr.cell? ⟨gu, k, none⟩ = some (.int .i64 (a : Int)) := (cell_blk HGr.out (o := k)).trans (ia_get (by rw [ha]; exact some_getD (by rw [foldK_len]; omega)))
            have fo : wr.frozen? ⟨gu, k, none⟩ = false := frozen_blk HGr.out
            obtain ⟨z, hz⟩ : ∃ z, z = a + b := ⟨_, rfl⟩
            have hs : (a : Int) + (b : Int) = (z : Int) := by omega
            have hzl : z < 4611686018427387904 := by omega
            have HS := Lib.hid (show (foldK T k).set k z = foldK T (k + 1) by rw [hz, ha, hb]; exact foldK_low T h5)
            clear hb ha hz
            go_wp2_with fail
            go_region
            go_wp2_with fail
            go_roundw
            case rel => exact ⟨k + 1, by omega, by go_num, (set_blk _ HGr.out).trans (by rw [ia_set, HS.out]), (set_other _ (Ne.symm HGD.out.1)).trans HT.out, (HW.out.other (by have := HGD.out; omega) _ _).chg ((Chg.refl Nowhere _).drew)⟩
            case measure => simp [intOf]; omega
          · have hd5 : decide ((k : Int) < 5) = false := decide_eq_false (by omega)
            obtain ⟨j, hj⟩ : ∃ j, j = k - 5 := ⟨_, rfl⟩
            have hjs : (k : Int) - 5 = (j : Int) := by omega
            have hj6 : j < 5 := by omega
            obtain ⟨a, ha⟩ : ∃ a, a = (foldK T k).getD j 0 := ⟨_, rfl⟩
            have hal : a ≤ 6 * 288230376151711744 := by rw [ha]; exact (foldK_upto HTU.out k).at j
            have cu : wr.cell? ⟨gu, j, none⟩ = some (.int .i64 (a : Int)) := (cell_blk HGr.out (o := j)).trans (ia_get (by rw [ha]; exact some_getD (by rw [foldK_len, HN.out]; omega)))
            have fo : wr.frozen? ⟨gu, j, none⟩ = false := frozen_blk HGr.out
            obtain ⟨b5, hb5⟩ : ∃ z, z = 5 * b := ⟨_, rfl⟩
            have hb5l : b5 ≤ 5 * 288230376151711744 := by omega
            have hs5 : 5 * (b : Int) = (b5 : Int) := by omega
            obtain ⟨z, hz⟩ : ∃ z, z = a + b5 := ⟨_, rfl⟩
            have hs : (a : Int) + (b5 : Int) = (z : Int) := by omega
            have hzl : z < 4611686018427387904 := by omega
            have HS := Lib.hid (show (foldK T k).set j z = foldK T (k + 1) by rw [hz, hb5, ha, hb, hj]; exact foldK_high T h5 (by rw [HN.out]; exact hk2))
            clear hb ha hz hb5 hj
            go_wp2_with fail
            go_region
            go_wp2_with fail
            go_roundw
            case rel => exact ⟨k + 1, by omega, by go_num, (set_blk _ HGr.out).trans (by rw [ia_set, HS.out]), (set_other _ (Ne.symm HGD.out.1)).trans HT.out, (HW.out.other (by have := HGD.out; omega) _ _).chg ((Chg.refl Nowhere _).drew)⟩
            case measure => simp [intOf]; omega
        · have HF := Lib.hid (show foldK T k = U by rw [HUE.out, HN.out, show k = 6 by omega])
          rw [HF.out] at HGr
          have hUl2 := hUl
          go_wp2_with fail
          go_roundw
          case rel => exact ⟨U, gu, by rw [hUl], by have := HGD.out; omega, by have := HGD.out; omega, HGr.out, HW.out, HUV, HUK⟩
          case measure => simp [slen]
    · clear HK
      have hn : T.length = 5 := hlen
      have HN := Lib.hid hn
      have HTU := Lib.hid hup
      rw [hn]
      clear hup hlen hn
      have HW0 := Lib.hid (show RedW w wr (fillTo 0 T 0) by rw [fill_zero, HN.out]; exact HW.out)
      go_wp2_with fail
      go_loopw [6] (fun i wq => ∃ k : Nat, k ≤ 5 ∧ i = .int .i64 k ∧ wq.heap[g]? = some (.cells (ia T) 3 (0, 0)) ∧ RedW w wq (fillTo 0 T k)) (fun i _ => 5 - (intOf i).toNat)
      case atStart => exact ⟨0, by omega, rfl, HT.out, HW0.out⟩
      case round =>
        obtain ⟨k, hk, rfl, hT, hW⟩ := hrel
        clear HT HW HW0
        have HT := Lib.hid hT
        have HW := Lib.hid hW
        clear hT hW
        by_cases hk2 : k < 5
        · have hdk : decide ((k : Int) < 5) = true := decide_eq_true (by omega)
          obtain ⟨b, hb⟩ : ∃ b, b = T.getD k 0 := ⟨_, rfl⟩
          have HB := Lib.hid (show T[k]? = some b by rw [hb]; exact some_getD (by rw [HN.out]; exact hk2))
          have ct : wr.cell? ⟨g, k, none⟩ = some (.int .i64 (b : Int)) := (cell_blk HT.out (o := k)).trans (ia_get HB.out)
          obtain ⟨z, hz⟩ := fill_getD T (k := k) (by rw [HN.out]; exact hk2)
          have cd := (cell_blk HW.out.d (o := k)).trans (ia_get hz)
          have fo : wr.frozen? ⟨w.heap.size + 1, k, none⟩ = false := frozen_blk HW.out.d
          clear hb hz
          go_wp2_with fail
          go_roundw
          case rel => exact ⟨k + 1, by omega, by go_num, (set_other _ (by exact hg2)).trans HT.out, (by have := HW.out.put k b; rwa [fill_set 0 T HB.out] at this)⟩
          case measure => simp [intOf]; omega
        · have HF := Lib.hid (show fillTo 0 T k = T from fill_all 0 T (by rw [HN.out]; omega))
          rw [HF.out] at HW
          clear HT
          go_wp2_with fail
          go_loopw [7] (fun r wq => ∃ (D : List Nat) (R : Nat), r = .int .i64 (R : Int) ∧ R ≤ 68719476736 ∧ RedW w wq D ∧ Hid (D.length = 5 ∧ Upto 2305843009213693952 D ∧ (R = 0 → ∀ x ∈ D, x < 67108864) ∧ dval D % q = V)) (fun r wq => 2 * mval wq (w.heap.size + 1) + min 1 (intOf r).toNat)
          case atStart => exact ⟨T, 1, rfl, by omega, HW.out, Lib.hid ⟨HN.out, HTU.out, fun h => by omega, HTV.out⟩⟩
          case round =>
            obtain ⟨D, R, rfl, hR, hW, HD⟩ := hrel
            clear HW HTU HN HTV HF
            have HW := Lib.hid hW
            have HMV := Lib.hid (mval_of hW.d)
            clear hW
            by_cases hR0 : R = 0
            · subst hR0
              have HD5 := Lib.hid HD.out.1
              have HDS := Lib.hid (HD.out.2.2.1 rfl)
              have HDG := Lib.hid (show ∀ i, D.getD i 0 < 67108864 from fun i => by
                rw [List.getD_eq_getElem?_getD]
                cases hi : D[i]? with
                | none => simp
                | some x => exact HDS.out x (List.mem_of_getElem? hi))
              have HLD := Lib.hid (show (lastD D).length = 5 ∧ (∀ x ∈ lastD D, x < 67108864) ∧ dval (lastD D) = V by
                have := lastD_ok HD5.out HDS.out
                rw [HD.out.2.2.2] at this
                exact this)
              obtain ⟨d0, hd0⟩ : ∃ d, d = D.getD 0 0 := ⟨_, rfl⟩
              have cd0 : wr.cell? ⟨w.heap.size + 1, 0, none⟩ = some (.int .i64 (d0 : Int)) := (cell_blk HW.out.d (o := 0)).trans (ia_get (by rw [hd0]; exact some_getD (by rw [HD5.out]; decide)))
              have hdl0 : d0 < 67108864 := by rw [hd0]; exact HDG.out 0
              obtain ⟨d1, hd1⟩ : ∃ d, d = D.getD 1 0 := ⟨_, rfl⟩
              have cd1 : wr.cell? ⟨w.heap.size + 1, 1, none⟩ = some (.int .i64 (d1 : Int)) := (cell_blk HW.out.d (o := 1)).trans (ia_get (by rw [hd1]; exact some_getD (by rw [HD5.out]; decide)))
              have hdl1 : d1 < 67108864 := by rw [hd1]; exact HDG.out 1
              obtain ⟨d2, hd2⟩ : ∃ d, d = D.getD 2 0 := ⟨_, rfl⟩
              have cd2 : wr.cell? ⟨w.heap.size + 1, 2, none⟩ = some (.int .i64 (d2 : Int)) := (cell_blk HW.out.d (o := 2)).trans (ia_get (by rw [hd2]; exact some_getD (by rw [HD5.out]; decide)))
              have hdl2 : d2 < 67108864 := by rw [hd2]; exact HDG.out 2
              obtain ⟨d3, hd3⟩ : ∃ d, d = D.getD 3 0 := ⟨_, rfl⟩
              have cd3 : wr.cell? ⟨w.heap.size + 1, 3, none⟩ = some (.int .i64 (d3 : Int)) := (cell_blk HW.out.d (o := 3)).trans (ia_get (by rw [hd3]; exact some_getD (by rw [HD5.out]; decide)))
              have hdl3 : d3 < 67108864 := by rw [hd3]; exact HDG.out 3
              obtain ⟨d4, hd4⟩ : ∃ d, d = D.getD 4 0 := ⟨_, rfl⟩
              have cd4 : wr.cell? ⟨w.heap.size + 1, 4, none⟩ = some (.int .i64 (d4 : Int)) := (cell_blk HW.out.d (o := 4)).trans (ia_get (by rw [hd4]; exact some_getD (by rw [HD5.out]; decide)))
              have hdl4 : d4 < 67108864 := by rw [hd4]; exact HDG.out 4
              obtain ⟨b, hb⟩ : ∃ b, b = lastB D := ⟨_, rfl⟩
              have HBD := Lib.hid (show b = decide (d4 = 67108863 ∧ d3 = 67108863 ∧ d2 = 67108863 ∧ d1 = 67108863 ∧ 67108859 ≤ d0) by rw [hb, hd0, hd1, hd2, hd3, hd4]; rfl)
              have HLE := Lib.hid (show lastD D = if b then [d0 - 67108859, 0, 0, 0, 0] else D by rw [hb, hd0]; rfl)
              clear hb hd0 hd1 hd2 hd3 hd4 HMV hR
              go_upto_region 25 with fail
              go_cut [123] (fun t wx => t = .bool b ∧ wx = wr)
              case first => as_aux_lemma =>
                have hb := HBD.out
                clear HBD HLE HLD
                by_cases c4 : d4 = 67108863
                · have q4 : ((d4 : Int) == 67108863) = true := by simp; omega
                  by_cases c3 : d3 = 67108863
                  · have q3 : ((d3 : Int) == 67108863) = true := by simp; omega
                    by_cases c2 : d2 = 67108863
                    · have q2 : ((d2 : Int) == 67108863) = true := by simp; omega
                      by_cases c1 : d1 = 67108863
                      · have q1 : ((d1 : Int) == 67108863) = true := by simp; omega
                        by_cases c0 : 67108859 ≤ d0
                        · have q0 : decide ((67108859 : Int) ≤ (d0 : Int)) = true := decide_eq_true (by omega)
                          have hb2 : b = true := by rw [hb]; exact decide_eq_true ⟨c4, c3, c2, c1, c0⟩
                          clear hb c4 c3 c2 c1 c0
                          subst hb2
                          go_wp2_with fail
                          go_meet
                          exact ⟨rfl, rfl⟩
                        · have q0 : decide ((67108859 : Int) ≤ (d0 : Int)) = false := decide_eq_false (by omega)
                          have hb2 : b = false := by rw [hb]; exact decide_eq_false (fun h => c0 h.2.2.2.2)
                          clear hb c4 c3 c2 c1 c0
                          subst hb2
                          go_wp2_with fail
                          go_meet
                          exact ⟨rfl, rfl⟩
                      · have q1 : ((d1 : Int) == 67108863) = false := by simp; omega
                        have hb2 : b = false := by rw [hb]; exact decide_eq_false (fun h => c1 h.2.2.2.1)
                        clear hb c4 c3 c2 c1
                        subst hb2
                        go_wp2_with fail
                        go_meet
                        exact ⟨rfl, rfl⟩
                    · have q2 : ((d2 : Int) == 67108863) = false := by simp; omega
                      have hb2 : b = false := by rw [hb]; exact decide_eq_false (fun h => c2 h.2.2.1)
                      clear hb c4 c3 c2
                      subst hb2
                      go_wp2_with fail
                      go_meet
                      exact ⟨rfl, rfl⟩
                  · have q3 : ((d3 : Int) == 67108863) = false := by simp; omega
                    have hb2 : b = false := by rw [hb]; exact decide_eq_false (fun h => c3 h.2.1)
                    clear hb c4 c3
                    subst hb2
                    go_wp2_with fail
                    go_meet
                    exact ⟨rfl, rfl⟩
                · have q4 : ((d4 : Int) == 67108863) = false := by simp; omega
                  have hb2 : b = false := by rw [hb]; exact decide_eq_false (fun h => c4 h.1)
                  clear hb c4
                  subst hb2
                  go_wp2_with fail
                  go_meet
                  exact ⟨rfl, rfl⟩
              case rest =>
                obtain ⟨rfl, rfl⟩ := hcut
                go_upto_if 123 with fail
                go_cut [3, 123] (fun v t wx => ∃ (g : Nat) (E : List Nat), v = .slice (some ⟨g, 0, none⟩) 5 5 ∧ wx.heap[g]? = some (.cells (ia E) 3 (0, 0)) ∧ E = lastD D ∧ wx.heap[w.heap.size]? = some (.cells (bs (List.replicate 17 0)) 58 (0, 0)) ∧ Chg Nowhere w wx)
                case first =>
                  cases b with
                  | false =>
                    have hE := HLE.out
                    rw [if_neg (by decide)] at hE
                    go_wp2_with fail
                    go_meet
                    exact ⟨w.heap.size + 1, D, rfl, HW.out.d, hE.symm, HW.out.r, HW.out.c⟩
                  | true =>
                    have HE := Lib.hid (show lastD D = [d0 - 67108859, 0, 0, 0, 0] by have hE := HLE.out; rwa [if_pos rfl] at hE)
                    have h0 : 67108859 ≤ d0 := (of_decide_eq_true HBD.out.symm).2.2.2.2
                    obtain ⟨z, hz⟩ : ∃ z, z = d0 - 67108859 := ⟨_, rfl⟩
                    have hz2 : (d0 : Int) - 67108859 = (z : Int) := by omega
                    have hzl : z < 67108864 := by omega
                    rw [← hz] at HE
                    clear hz h0
                    go_wp2_with fail
                    go_meet
                    exact ⟨_, [z, 0, 0, 0, 0], rfl, alloc_new _ _, HE.out.symm, alloc_old HW.out.r, HW.out.c.alloc _⟩
                case rest =>
                  obtain ⟨gE, E, rfl, hE, hEL, hr, hC⟩ := hcut
                  rw [← hEL] at HLD
                  have HEr := Lib.hid hE
                  have HRr := Lib.hid hr
                  have HC := Lib.hid hC
                  clear hE hEL hr hC HW HBD HLE HD HDS HDG HD5
                  clear cd0 cd1 cd2 cd3 cd4
                  have HVB := Lib.hid (show ∀ k, k < 130 → E.getD (k / 26) 0 / 2 ^ (k % 26) % 2 = V / 2 ^ k % 2 from fun k hk => by
                    rw [← HLD.out.2.2]
                    exact bit_dval HLD.out.2.1 (by rw [HLD.out.1]; omega))
                  have HEG := Lib.hid (show ∀ i, E.getD i 0 < 67108864 from fun i => by
                    rw [List.getD_eq_getElem?_getD]
                    cases hi : E[i]? with
                    | none => simp
                    | some x => exact HLD.out.2.1 x (List.mem_of_getElem? hi))
                  have HE5 := Lib.hid HLD.out.1
                  have HI17 := Lib.hid (show InfoArr 58 (bs (List.replicate 17 0)).size by rw [bs_size]; exact info17)
                  have HO0 := Lib.hid (show ((wc.alloc (.cells (bs (List.replicate 17 0)) 58)).setRow wc.heap.size (bs (List.replicate 17 0))).heap[wc.heap.size]? = some (.cells (bs (bytesOf 17 (V % 2 ^ 0))) 58 (0, 0)) by rw [bytes_none]; exact row_blk (alloc_new _ _))
                  have HE0 := Lib.hid (row_other (b := wc.heap.size) (cs := bs (List.replicate 17 0)) (alloc_old (o := .cells (bs (List.replicate 17 0)) 58) HEr.out) (by have := lt_blk HEr.out; omega))
                  have HR0 := Lib.hid (row_other (b := wc.heap.size) (cs := bs (List.replicate 17 0)) (alloc_old (o := .cells (bs (List.replicate 17 0)) 58) HRr.out) (by have := lt_blk HRr.out; omega))
                  have HC0 := Lib.hid ((HC.out.alloc (.cells (bs (List.replicate 17 0)) 58)).putRow (b := wc.heap.size) (cs := bs (List.replicate 17 0)) (.inr HC.out.size))
                  have HGG := Lib.hid (show gE ≠ wc.heap.size ∧ w.heap.size < wc.heap.size from ⟨by have := lt_blk HEr.out; omega, lt_blk HRr.out⟩)
                  clear HEr HRr HC
                  go_upto_region 28 with (refine wpList_store_row rfl 58 (Operand.tmp 9) (Operand.tmp 129) rfl wc.heap.size (bs (List.replicate 17 0)) rfl rfl 58 (bs (List.replicate 17 0)) (alloc_new _ _) HI17.out rfl (bs_one _) ?_)
                  simp only [Act.put]
                  show Code.wp _ _ _ _ ((wc.alloc (.cells (bs (List.replicate 17 0)) 58)).setRow wc.heap.size (bs (List.replicate 17 0)))
                  generalize (wc.alloc (.cells (bs (List.replicate 17 0)) 58)).setRow wc.heap.size (bs (List.replicate 17 0)) = w7 at HO0 HE0 HR0 HC0 ⊢
                  generalize wc.heap.size = go at HO0 HGG ⊢
                  go_wp2_with fail
                  go_loopw [10] (fun i wq => ∃ k : Nat, k ≤ 130 ∧ i = .int .i64 k ∧ wq.heap[gE]? = some (.cells (ia E) 3 (0, 0)) ∧ wq.heap[go]? = some (.cells (bs (bytesOf 17 (V % 2 ^ k))) 58 (0, 0)) ∧ wq.heap[w.heap.size]? = some (.cells (bs (List.replicate 17 0)) 58 (0, 0)) ∧ Chg Nowhere w wq) (fun i _ => 130 - (intOf i).toNat)
                  case atStart => exact ⟨0, by omega, rfl, HE0.out, HO0.out, HR0.out, HC0.out⟩
                  case round =>
                    obtain ⟨k, hk, rfl, hE, hO, hr, hC⟩ := hrel
                    clear HE0 HO0 HR0 HC0
                    have HEr := Lib.hid hE
                    have HO := Lib.hid hO
                    have HRr := Lib.hid hr
                    have HC := Lib.hid hC
                    clear hE hO hr hC
                    by_cases hk2 : k < 130
                    · have hdk : decide ((k : Int) < 130) = true := decide_eq_true (by omega)
                      obtain ⟨p, hp⟩ : ∃ p, p = k / 26 := ⟨_, rfl⟩
                      obtain ⟨r, hr⟩ : ∃ r, r = k % 26 := ⟨_, rfl⟩
                      obtain ⟨j, hj⟩ : ∃ j, j = k / 8 := ⟨_, rfl⟩
                      obtain ⟨s, hs⟩ : ∃ s, s = k % 8 := ⟨_, rfl⟩
                      have hp5 : p < 5 := by omega
                      have hr26 : r < 26 := by omega
                      have hj17 : j < 17 := by omega
                      have hs8 : s < 8 := by omega
                      have i1 : (k : Int) / 26 = (p : Int) := by omega
                      have i2 : (k : Int) % 26 = (r : Int) := by omega
                      have i3 : (k : Int) / 8 = (j : Int) := by omega
                      have i4 : (k : Int) % 8 = (s : Int) := by omega
                      obtain ⟨a, ha⟩ : ∃ a, a = dgw 8 V k j := ⟨_, rfl⟩
                      have hal : a < 256 := by rw [ha]; exact Nat.mod_lt _ (by decide)
                      obtain ⟨e, he⟩ : ∃ e, e = E.getD p 0 := ⟨_, rfl⟩
                      have hel : e < 67108864 := by rw [he]; exact HEG.out p
                      have ca : wr.cell? ⟨go, j, none⟩ = some (.int .u8 (a : Int)) := (cell_blk HO.out (o := j)).trans (bs_get (by rw [ha]; exact bytes_dgw V k j hj17))
                      have ce : wr.cell? ⟨gE, p, none⟩ = some (.int .i64 (e : Int)) := (cell_blk HEr.out (o := p)).trans (ia_get (by rw [he]; exact some_getD (by rw [HE5.out]; exact hp5)))
                      have fo : wr.frozen? ⟨go, j, none⟩ = false := frozen_blk HO.out
                      obtain ⟨f, hf⟩ : ∃ f, f = e / 2 ^ r := ⟨_, rfl⟩
                      have hfl : f < 67108864 := by rw [hf]; exact Nat.lt_of_le_of_lt (Nat.div_le_self _ _) hel
                      have e1 : (e : Int) / 2 ^ r = (f : Int) := by rw [hf]; simp
                      obtain ⟨t, ht⟩ : ∃ t, t = f % 2 := ⟨_, rfl⟩
                      have ht2 : t < 2 := by omega
                      have e2 : bits .and .i64 (f : Int) 1 = (t : Int) := by rw [ht]; exact and1_i64 f (by omega)
                      obtain ⟨u, hu⟩ : ∃ u, u = t * 2 ^ s := ⟨_, rfl⟩
                      have hul : u < 256 := by
                        rw [hu]
                        have : 2 ^ s ≤ 2 ^ 7 := Nat.pow_le_pow_right (by decide) (by omega)
                        rcases (by omega : t = 0 ∨ t = 1) with rfl | rfl <;> omega
                      have e3 : (t : Int) * 2 ^ s = (u : Int) := by rw [hu]; simp
                      have e4 : bits .or .u8 (a : Int) (u : Int) = ((a ||| u : Nat) : Int) := u8_or_nat a u hal hul
                      obtain ⟨z, hz⟩ : ∃ z, z = a ||| u := ⟨_, rfl⟩
                      have hzl : z < 256 := by rw [hz]; exact Nat.or_lt_two_pow (n := 8) hal hul
                      have HS := Lib.hid (show (bytesOf 17 (V % 2 ^ k)).set j z = bytesOf 17 (V % 2 ^ (k + 1)) by
                        rw [← bytes_bit V k (by omega), ← HVB.out k hk2, hz, hu, ht, hf, he, ha, hp, hr, hj, hs])
                      rw [← hz] at e4
                      clear hp hr hj hs ha he hf ht hu hz
                      go_wp2_with fail
                      go_region
                      go_wp2_with fail
                      go_roundw
                      case rel => exact ⟨k + 1, by omega, by go_num, (set_other _ HGG.out.1).trans HEr.out, (set_blk _ HO.out).trans (by rw [bs_set, HS.out]), (set_other _ (by have := HGG.out.2; show w.heap.size ≠ go; omega)).trans HRr.out, (HC.out.put (.inr (by have := HGG.out.2; omega))).drew⟩
                      case measure => simp [intOf]; omega
                    · have HF := Lib.hid (show bytesOf 17 (V % 2 ^ k) = bytesOf 17 V by
                        rw [show k = 130 by omega]
                        exact bytes_full (Nat.lt_trans HVQ.out (by decide +kernel)))
                      rw [HF.out] at HO
                      have HIO := Lib.hid (show InfoArr 58 (bs (bytesOf 17 V)).size by rw [bs_size, bytesOf_len]; exact info17)
                      go_wp2_with (first | (refine wpList_load_row rfl 58 (Operand.tmp 9) rfl go rfl 58 _ (0, 0) _ HO.out Tryd.underlying58 rfl HIO.out ?_) | (refine wpList_store_row rfl 58 (Operand.tmp 2) (Operand.tmp 155) rfl w.heap.size _ rfl rfl 58 _ HRr.out HIO.out (by rw [bs_size, bs_size, bytesOf_len]; rfl) (bs_one _) ?_))
                      refine bodyPost_ret (results_cell_row rfl _ _ w.heap.size _ _ (0, 0) _ rfl (row_blk HRr.out) Tryd.underlying58 rfl HIO.out) rfl ⟨rfl, HC.out.putRow (.inr (Nat.le_refl _))⟩
            · have hdr : decide ((0 : Int) < (R : Int)) = true := decide_eq_true (by omega)
              have HR1 := Lib.hid hR0
              go_wp2_with fail
              have HD5 := Lib.hid HD.out.1
              have HDU := Lib.hid HD.out.2.1
              have HDV := Lib.hid HD.out.2.2.2
              have HW0 := Lib.hid (show RedW w wr (cst D 0).2 from HW.out)
              go_loopw [7, 8] (fun r i wq => ∃ k : Nat, k ≤ 5 ∧ i = .int .i64 k ∧ r = .int .i64 ((cst D k).1 : Int) ∧ RedW w wq (cst D k).2) (fun _ i _ => 5 - (intOf i).toNat)
              case atStart => exact ⟨0, by omega, rfl, rfl, HW0.out⟩
              case round =>
                obtain ⟨k, hk, rfl, rfl, hW⟩ := hrel
                clear HW HW0
                have HW := Lib.hid hW
                clear hW
                by_cases hk2 : k < 5
                · have hdk : decide ((k : Int) < 5) = true := decide_eq_true (by omega)
                  have HST := Lib.hid (show cst D (k + 1) = ((((cst D k).1 + (cst D k).2.getD k 0) / 67108864), (cst D k).2.set k (((cst D k).1 + (cst D k).2.getD k 0) % 67108864)) from rfl)
                  obtain ⟨r, hr⟩ : ∃ r, r = (cst D k).1 := ⟨_, rfl⟩
                  obtain ⟨b, hb⟩ : ∃ b, b = (cst D k).2.getD k 0 := ⟨_, rfl⟩
                  have hrl : r ≤ 68719476736 := by rw [hr]; exact cst_bound HDU.out k
                  have hbl : b ≤ 2305843009213693952 := by rw [hb, cst_rest D k k (Nat.le_refl _)]; exact HDU.out.at k
                  have cd : wr.cell? ⟨w.heap.size + 1, k, none⟩ = some (.int .i64 (b : Int)) := (cell_blk HW.out.d (o := k)).trans (ia_get (by rw [hb]; exact some_getD (by rw [cst_len, HD5.out]; exact hk2)))
                  have fo : wr.frozen? ⟨w.heap.size + 1, k, none⟩ = false := frozen_blk HW.out.d
                  rw [← hr, ← hb] at HST
                  rw [← hr]
                  obtain ⟨s, hs⟩ : ∃ s, s = r + b := ⟨_, rfl⟩
                  have hs2 : (r : Int) + (b : Int) = (s : Int) := by omega
                  have hsl : s < 4611686018427387904 := by omega
                  obtain ⟨u, hu⟩ : ∃ u, u = s % 67108864 := ⟨_, rfl⟩
                  have hu2 : (s : Int) % 67108864 = (u : Int) := by omega
                  obtain ⟨v, hv⟩ : ∃ v, v = s / 67108864 := ⟨_, rfl⟩
                  have hv2 : (s : Int) / 67108864 = (v : Int) := by omega
                  rw [← hs, ← hu, ← hv] at HST
                  obtain ⟨Y, hY⟩ : ∃ Y, Y = (cst D k).2 := ⟨_, rfl⟩
                  rw [← hY] at HST HW
                  clear hr hb hs hu hv hY
                  go_wp2_with fail
                  go_roundw
                  case rel => exact ⟨k + 1, by omega, by go_num, (by rw [HST.out]), (by rw [HST.out]; exact HW.out.put k u)⟩
                  case measure => simp [intOf]; omega
                · have HF := Lib.hid (show k = 5 by omega)
                  rw [HF.out] at HW ⊢
                  have HPV := Lib.hid (pass_val HD5.out)
                  have HPS := Lib.hid (fun hr => pass_small HD5.out hr)
                  have HPU := Lib.hid (pass_upto HD5.out HDU.out)
                  have HPL := Lib.hid (show (pass D).length = 5 by rw [pass_len]; exact HD5.out)
                  have HPE := Lib.hid (show pass D = (cst D 5).2.set 0 ((cst D 5).2.getD 0 0 + 5 * (cst D 5).1) from rfl)
                  have hrl : (cst D 5).1 ≤ 68719476736 := cst_bound HDU.out 5
                  have HYL := Lib.hid (show (cst D 5).2.length = 5 by rw [cst_len]; exact HD5.out)
                  have hbl : (cst D 5).2.getD 0 0 < 67108864 := by
                    have h5 := HD5.out
                    match D, h5 with
                    | [a, b, c, d, e], _ =>
                      obtain ⟨s1, s2, s3, s4, -, -, -, -, he⟩ := cst_five a b c d e
                      rw [he]
                      exact Nat.mod_lt _ (by decide)
                  obtain ⟨r, hr⟩ : ∃ r, r = (cst D 5).1 := ⟨_, rfl⟩
                  obtain ⟨Y, hY⟩ : ∃ Y, Y = (cst D 5).2 := ⟨_, rfl⟩
                  rw [← hr] at HPV HPS HPE hrl ⊢
                  rw [← hY] at HPE hbl HW HYL
                  obtain ⟨b, hb⟩ : ∃ b, b = Y.getD 0 0 := ⟨_, rfl⟩
                  have cd : wr.cell? ⟨w.heap.size + 1, 0, none⟩ = some (.int .i64 (b : Int)) := (cell_blk HW.out.d (o := 0)).trans (ia_get (by rw [hb]; exact some_getD (by rw [HYL.out]; decide)))
                  have fo : wr.frozen? ⟨w.heap.size + 1, 0, none⟩ = false := frozen_blk HW.out.d
                  rw [← hb] at HPE hbl
                  obtain ⟨r5, hr5⟩ : ∃ s, s = 5 * r := ⟨_, rfl⟩
                  have hr52 : 5 * (r : Int) = (r5 : Int) := by omega
                  have hr5l : r5 ≤ 343597383680 := by omega
                  obtain ⟨z, hz⟩ : ∃ s, s = b + r5 := ⟨_, rfl⟩
                  have hz2 : (b : Int) + (r5 : Int) = (z : Int) := by omega
                  have hzl : z < 4611686018427387904 := by omega
                  rw [← hr5, ← hz] at HPE
                  have HWP := Lib.hid (show RedW w (wr.setCell ⟨w.heap.size + 1, 0, none⟩ (.int .i64 (z : Int))) (pass D) by rw [HPE.out]; exact HW.out.put 0 z)
                  have HMP := Lib.hid (mval_of HWP.out.d)
                  have HQV := Lib.hid (show dval (pass D) % q = V by
                    have h1 := HPV.out
                    have h2 := HDV.out
                    rw [← h1, Nat.add_mul_mod_self_left] at h2
                    exact h2)
                  clear hb hr5 hz hr hY
                  have hkk : (k : Int) = 5 := by have := HF.out; omega
                  go_wp2_with fail
                  go_roundw
                  case rel => exact ⟨pass D, r, rfl, hrl, HWP.out, Lib.hid ⟨HPL.out, HPU.out, HPS.out, HQV.out⟩⟩
                  case measure =>
                    rw [HMP.out, HMV.out]
                    have h1 := HPV.out
                    have hq : 1 ≤ q := by decide +kernel
                    have h3 : r ≤ q * r := Nat.le_mul_of_pos_left _ hq
                    have h4 := HR1.out
                    simp [intOf]
                    omega
end Go.Proofs.YtebmbapaedlmiaaDoor
