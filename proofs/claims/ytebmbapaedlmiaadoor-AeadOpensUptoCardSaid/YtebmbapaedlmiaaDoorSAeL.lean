/-
  Package clamp: Trim, Block (the walks).
-/
import Derived.Test.YtebmbapaedlmiaaDoorSAeK
import Derived.Laws.CopyOwn
namespace Go.Proofs.YtebmbapaedlmiaaDoor
open Go.RowKit Ae
set_option linter.unusedVariables false

def trimA (k : Nat) (l : List Nat) : List Nat := itr (fun j l => l.set (3 + 4 * j) (l.getD (3 + 4 * j) 0 &&& 15)) k l
def trimB (k : Nat) (l : List Nat) : List Nat := itr (fun j l => l.set (4 + 4 * j) (l.getD (4 + 4 * j) 0 &&& 252)) k l
/-- A tag without the bits that a number to multiply by has not. -/
def trimL (l : List Nat) : List Nat := trimB 3 (trimA 4 l)
theorem trimA_len (l : List Nat) : ∀ k, (trimA k l).length = l.length
  | 0 => rfl
  | k + 1 => by show (List.set _ _ _).length = _; rw [List.length_set]; exact trimA_len l k
theorem trimB_len (l : List Nat) : ∀ k, (trimB k l).length = l.length
  | 0 => rfl
  | k + 1 => by show (List.set _ _ _).length = _; rw [List.length_set]; exact trimB_len l k
theorem Ae.Byt.getD {l : List Nat} (h : Byt l) (i : Nat) : l.getD i 0 < 256 := by
  rw [List.getD_eq_getElem?_getD]
  cases hi : l[i]? with
  | none => simp
  | some x => exact h x (List.mem_of_getElem? hi)
theorem Ae.Byt.set {l : List Nat} (h : Byt l) (i : Nat) {x : Nat} (hx : x < 256) : Byt (l.set i x) := fun y hy => by
  rcases List.mem_or_eq_of_mem_set hy with h1 | rfl
  · exact h y h1
  · exact hx
theorem trimA_byt {l : List Nat} (h : Byt l) : ∀ k, Byt (trimA k l)
  | 0 => h
  | k + 1 => (trimA_byt h k).set _ (Nat.lt_of_le_of_lt Nat.and_le_left ((trimA_byt h k).getD _))
theorem trimB_byt {l : List Nat} (h : Byt l) : ∀ k, Byt (trimB k l)
  | 0 => h
  | k + 1 => (trimB_byt h k).set _ (Nat.lt_of_le_of_lt Nat.and_le_left ((trimB_byt h k).getD _))
theorem trimL_len (l : List Nat) : (trimL l).length = l.length := by rw [trimL, trimB_len, trimA_len]
theorem trimL_byt {l : List Nat} (h : Byt l) : Byt (trimL l) := trimB_byt (trimA_byt h 4) 3

set_option maxHeartbeats 1600000 in
set_option maxRecDepth 100000 in
theorem trim_any (l : List Nat) (hl : l.length = 16) (hb : Byt l) (w : World) :
    Calls Tryd.prog 30 #[.agg (bs l)] w (Gives w (.agg (bs (trimL l)))) := by
  have HL := Lib.hid hl
  have HB := Lib.hid hb
  clear hl hb
  go_enter Tryd.func30, Tryd.ntmps30
  go_wp2_with fail
  have HX0 := Lib.hid (show ((w.alloc (.cells (bs l) 36)).alloc (.cells (bs (List.replicate 16 0)) 36)).heap[w.heap.size]? = some (.cells (bs (trimA 0 l)) 36 (0, 0)) from alloc_old (alloc_new _ _))
  have HR0 := Lib.hid (show ((w.alloc (.cells (bs l) 36)).alloc (.cells (bs (List.replicate 16 0)) 36)).heap[w.heap.size + 1]? = some (.cells (bs (List.replicate 16 0)) 36 (0, 0)) from new_1 _ _ _)
  have HC0 := Lib.hid (((Chg.refl Nowhere w).alloc (.cells (bs l) 36)).alloc (.cells (bs (List.replicate 16 0)) 36))
  go_loopw [3] (fun i wr => ∃ k : Nat, k ≤ 4 ∧ i = .int .i64 ((3 + 4 * k : Nat) : Int) ∧ wr.heap[w.heap.size]? = some (.cells (bs (trimA k l)) 36 (0, 0)) ∧ wr.heap[w.heap.size + 1]? = some (.cells (bs (List.replicate 16 0)) 36 (0, 0)) ∧ Chg Nowhere w wr) (fun i _ => 40 - (intOf i).toNat)
  case atStart => exact ⟨0, by omega, rfl, HX0.out, HR0.out, HC0.out⟩
  case round =>
    obtain ⟨k, hk, rfl, hX, hR, hC⟩ := hrel
    clear HX0 HR0 HC0
    have HX := Lib.hid hX
    have HR := Lib.hid hR
    have HC := Lib.hid hC
    clear hX hR hC
    by_cases hk2 : k < 4
    · obtain ⟨b, hbk⟩ : ∃ b, b = (trimA k l).getD (3 + 4 * k) 0 := ⟨_, rfl⟩
      have hb8 : b < 256 := by rw [hbk]; exact (trimA_byt HB.out k).getD _
      have cx : wr.cell? ⟨w.heap.size, 3 + 4 * k, none⟩ = some (.int .u8 (b : Int)) := (cell_blk HX.out (o := 3 + 4 * k)).trans (bs_get (by rw [hbk, List.getD_eq_getElem?_getD, List.getElem?_eq_getElem (by rw [trimA_len, HL.out]; omega)]; rfl))
      have fx : wr.frozen? ⟨w.heap.size, 3 + 4 * k, none⟩ = false := frozen_blk HX.out
      have E := Lib.hid (u8_and_nat b 15 hb8 (by decide))
      have HN := Lib.hid (show (trimA k l).set (3 + 4 * k) (b &&& 15) = trimA (k + 1) l by rw [hbk]; rfl)
      obtain ⟨i, hi⟩ : ∃ i, i = 3 + 4 * k := ⟨_, rfl⟩
      rw [← hi] at cx fx HN ⊢
      have hi2 : i < 16 := by omega
      have HI := Lib.hid hi
      clear hbk hi
      go_wp2_with fail
      have E2 : (b : Int) % 16 = ((b &&& 15 : Nat) : Int) := by rw [nat_mask4]; simp
      rw [E2]
      go_roundw
      case rel => exact ⟨k + 1, by omega, by rw [HI.out]; go_num, (set_blk _ HX.out).trans (by rw [bs_set, HN.out]), (set_other _ (by simp <;> omega)).trans HR.out, HC.out.put (.inr (by omega))⟩
      case measure => have := HI.out; simp [intOf]; omega
    · have HK := Lib.hid (show trimA k l = trimB 0 (trimA 4 l) by rw [show k = 4 by omega]; rfl)
      rw [HK.out] at HX
      obtain ⟨m, hm⟩ : ∃ m, m = trimA 4 l := ⟨_, rfl⟩
      rw [← hm] at HX
      have HM := Lib.hid hm
      have HML := Lib.hid (show m.length = 16 by rw [hm, trimA_len, HL.out])
      have HMB := Lib.hid (show Byt m by rw [hm]; exact trimA_byt HB.out 4)
      clear hm
      go_wp2_with fail
      go_loopw [4] (fun i wr => ∃ k : Nat, k ≤ 3 ∧ i = .int .i64 ((4 + 4 * k : Nat) : Int) ∧ wr.heap[w.heap.size]? = some (.cells (bs (trimB k m)) 36 (0, 0)) ∧ wr.heap[w.heap.size + 1]? = some (.cells (bs (List.replicate 16 0)) 36 (0, 0)) ∧ Chg Nowhere w wr) (fun i _ => 40 - (intOf i).toNat)
      case atStart => exact ⟨0, by omega, rfl, HX.out, HR.out, HC.out⟩
      case round =>
        obtain ⟨j, hj, rfl, hX, hR, hC⟩ := hrel
        clear HX HR HC
        have HX := Lib.hid hX
        have HR := Lib.hid hR
        have HC := Lib.hid hC
        clear hX hR hC
        by_cases hj2 : j < 3
        · obtain ⟨b, hbk⟩ : ∃ b, b = (trimB j m).getD (4 + 4 * j) 0 := ⟨_, rfl⟩
          have hb8 : b < 256 := by rw [hbk]; exact (trimB_byt HMB.out j).getD _
          have cx : wr.cell? ⟨w.heap.size, 4 + 4 * j, none⟩ = some (.int .u8 (b : Int)) := (cell_blk HX.out (o := 4 + 4 * j)).trans (bs_get (by rw [hbk, List.getD_eq_getElem?_getD, List.getElem?_eq_getElem (by rw [trimB_len, HML.out]; omega)]; rfl))
          have fx : wr.frozen? ⟨w.heap.size, 4 + 4 * j, none⟩ = false := frozen_blk HX.out
          have E := Lib.hid (u8_and_nat b 252 hb8 (by decide))
          have HN := Lib.hid (show (trimB j m).set (4 + 4 * j) (b &&& 252) = trimB (j + 1) m by rw [hbk]; rfl)
          obtain ⟨i, hi⟩ : ∃ i, i = 4 + 4 * j := ⟨_, rfl⟩
          rw [← hi] at cx fx HN ⊢
          have hi2 : i < 16 := by omega
          have HI := Lib.hid hi
          clear hbk hi
          go_wp2_with fail
          have E2 : bits .and .u8 (b : Int) 252 = ((b &&& 252 : Nat) : Int) := E.out
          rw [E2]
          go_roundw
          case rel => exact ⟨j + 1, by omega, by rw [HI.out]; go_num, (set_blk _ HX.out).trans (by rw [bs_set, HN.out]), (set_other _ (by simp <;> omega)).trans HR.out, HC.out.put (.inr (by omega))⟩
          case measure => have := HI.out; simp [intOf]; omega
        · have HT := Lib.hid (show trimB j m = trimL l by rw [show j = 3 by omega, HM.out]; rfl)
          rw [HT.out] at HX
          have HIT := Lib.hid (show InfoArr 36 (bs (trimL l)).size by rw [bs_size, trimL_len, HL.out]; exact info16)
          go_wp2_with (first | (refine wpList_load_row rfl 36 (Operand.tmp 1) rfl w.heap.size rfl 36 _ (0, 0) _ HX.out Tryd.underlying36 rfl HIT.out ?_) | (refine wpList_store_row rfl 36 (Operand.tmp 2) (Operand.tmp 23) rfl (w.heap.size + 1) _ rfl rfl 36 _ HR.out HIT.out (by rw [bs_size, bs_size, trimL_len, HL.out]; rfl) (bs_one _) ?_))
          refine bodyPost_ret (results_cell_row rfl _ _ (w.heap.size + 1) _ _ (0, 0) _ rfl (row_blk HR.out) Tryd.underlying36 rfl HIT.out) rfl ⟨rfl, HC.out.putRow (.inr (by omega))⟩
end Go.Proofs.YtebmbapaedlmiaaDoor
