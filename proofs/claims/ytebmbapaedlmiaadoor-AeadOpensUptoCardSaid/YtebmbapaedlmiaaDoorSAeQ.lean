/-
  Package chacha: Block (the walk).
-/
import Derived.Test.YtebmbapaedlmiaaDoorSAeG
import Derived.Test.YtebmbapaedlmiaaDoorSAeH
namespace Go.Proofs.YtebmbapaedlmiaaDoor
open Go.RowKit Ae
set_option linter.unusedVariables false

theorem getD_of {l : List Nat} {i b : Nat} (h : l[i]? = some b) : l.getD i 0 = b := by rw [List.getD_eq_getElem?_getD, h]; rfl
theorem some_getD {l : List Nat} {i : Nat} (h : i < l.length) : l[i]? = some (l.getD i 0) := by rw [List.getD_eq_getElem?_getD, List.getElem?_eq_getElem h]; rfl
theorem Ae.Byt.at {l : List Nat} (h : Byt l) (i : Nat) : l.getD i 0 < 256 := by
  rw [List.getD_eq_getElem?_getD]
  cases hi : l[i]? with
  | none => simp
  | some x => exact h x (List.mem_of_getElem? hi)
theorem fill_getD (T : List Nat) {k : Nat} (h : k < T.length) : ∃ v, (fillTo 0 T k)[k]? = some v := ⟨_, fill_get 0 T h⟩

theorem sl_k (g j : Nat) (hj : j < 8) (w : World) : (Instr.sliceAt 23 (.pointer (some ⟨g, 0, none⟩)) (some (.int .i64 (4 * (j : Int)))) none none).run Tryd.prog w = .ok (.slice (some ⟨g, 4 * j, none⟩) (32 - 4 * j) (32 - 4 * j)) w := by
  rcases (by omega : j = 0 ∨ j = 1 ∨ j = 2 ∨ j = 3 ∨ j = 4 ∨ j = 5 ∨ j = 6 ∨ j = 7) with rfl | rfl | rfl | rfl | rfl | rfl | rfl | rfl <;> go_simp
theorem sl_n (g j : Nat) (hj : j < 3) (w : World) : (Instr.sliceAt 25 (.pointer (some ⟨g, 0, none⟩)) (some (.int .i64 (4 * (j : Int)))) none none).run Tryd.prog w = .ok (.slice (some ⟨g, 4 * j, none⟩) (12 - 4 * j) (12 - 4 * j)) w := by
  rcases (by omega : j = 0 ∨ j = 1 ∨ j = 2) with rfl | rfl | rfl <;> go_simp
theorem enters_quarter : Enters Tryd.prog 29 := enters_of Tryd.func29 (by kernel_rfl) rfl
theorem four_parts {a b c d : Value} {A B C D : Value} (h1 : [a] = [A]) (h2 : [b] = [B]) (h3 : [c] = [C]) (h4 : [d] = [D]) : [(0, a), (1, b), (2, c), (3, d)] = [((0 : Nat), A), (1, B), (2, C), (3, D)] := by
  rw [List.head_eq_of_cons_eq h1, List.head_eq_of_cons_eq h2, List.head_eq_of_cons_eq h3, List.head_eq_of_cons_eq h4]
theorem byte_of (v k : Nat) : (v : Int) / 2 ^ (8 * k) % 256 = ((v / 256 ^ k % 256 : Nat) : Int) := by
  have e : (256 : Nat) ^ k = 2 ^ (8 * k) := by rw [Nat.pow_mul]
  rw [e]; simp
/-- What the walk of a block keeps: the key, the nonce, the result's place, the state that it begins with. -/
structure ChaW (w wr : World) (key nonce L : List Nat) : Prop where
  k : wr.heap[w.heap.size]? = some (.cells (bs key) 23 (0, 0))
  n : wr.heap[w.heap.size + 1]? = some (.cells (bs nonce) 25 (0, 0))
  r : wr.heap[w.heap.size + 1 + 1]? = some (.cells (bs (List.replicate 64 0)) 43 (0, 0))
  s : wr.heap[w.heap.size + 1 + 1 + 1]? = some (.cells (ws L) 53 (0, 0))
  c : Chg Nowhere w wr
theorem ChaW.chg {w wr w2 : World} {key nonce L : List Nat} (h : ChaW w wr key nonce L) (hc : Chg Nowhere wr w2) : ChaW w w2 key nonce L :=
  ⟨hc.same h.k, hc.same h.n, hc.same h.r, hc.same h.s, h.c.then_none hc⟩
theorem ChaW.put {w wr : World} {key nonce L : List Nat} (h : ChaW w wr key nonce L) (i b : Nat) : ChaW w (wr.setCell ⟨w.heap.size + 1 + 1 + 1, i, none⟩ (.int .u32 (b : Int))) key nonce (L.set i b) :=
  ⟨(set_other _ (by show w.heap.size ≠ w.heap.size + 1 + 1 + 1; omega)).trans h.k, (set_other _ (by show w.heap.size + 1 ≠ w.heap.size + 1 + 1 + 1; omega)).trans h.n, (set_other _ (by show w.heap.size + 1 + 1 ≠ w.heap.size + 1 + 1 + 1; omega)).trans h.r, (set_blk _ h.s).trans (by rw [ws_set]), h.c.put (.inr (by omega))⟩
/-- .. the same but for a block that lies elsewhere. -/
theorem ChaW.other {w wr : World} {key nonce L : List Nat} (h : ChaW w wr key nonce L) {b : Nat} (hb : w.heap.size + 1 + 1 + 1 < b) (o : Nat) (v : Value) : ChaW w (wr.setCell ⟨b, o, none⟩ v) key nonce L :=
  ⟨(set_other _ (by show w.heap.size ≠ b; omega)).trans h.k, (set_other _ (by show w.heap.size + 1 ≠ b; omega)).trans h.n, (set_other _ (by show w.heap.size + 1 + 1 ≠ b; omega)).trans h.r, (set_other _ (by show w.heap.size + 1 + 1 + 1 ≠ b; omega)).trans h.s, h.c.put (.inr (by omega))⟩
theorem ChaW.row {w wr : World} {key nonce L : List Nat} (h : ChaW w wr key nonce L) {b : Nat} (hb : w.heap.size + 1 + 1 + 1 < b) (cs : Array Value) : ChaW w (wr.setRow b cs) key nonce L :=
  ⟨row_other h.k (by omega), row_other h.n (by omega), row_other h.r (by omega), row_other h.s (by omega), h.c.putRow (.inr (by omega))⟩
theorem chaW0 (w : World) (key nonce : List Nat) : ChaW w ((((w.alloc (.cells (bs key) 23)).alloc (.cells (bs nonce) 25)).alloc (.cells (bs (List.replicate 64 0)) 43)).alloc (.cells (ws (List.replicate 16 0)) 53)) key nonce (List.replicate 16 0) :=
  ⟨alloc_old (alloc_old (alloc_old (alloc_new _ _))), alloc_old (alloc_old (new_1 _ _ _)), alloc_old (new_2 _ _ _ _), new_3 _ _ _ _ _, ((((Chg.refl _ _).alloc _).alloc _).alloc _).alloc _⟩
set_option maxHeartbeats 16000000 in
set_option maxRecDepth 100000 in
theorem chablock_any (key nonce : List Nat) (ctr : Nat) (hk : key.length = 32) (hkb : Byt key) (hn : nonce.length = 12) (hnb : Byt nonce) (hc : ctr < 4294967296) (w : World) (hg : Glob w) :
    Calls Tryd.prog 19 #[.agg (bs key), .int .u32 (ctr : Int), .agg (bs nonce)] w (Gives w (.agg (bs (block key ctr nonce)))) := by
  have HK := Lib.hid hk
  have HKB := Lib.hid hkb
  have HN := Lib.hid hn
  have HNB := Lib.hid hnb
  have HG := Lib.hid hg
  have hg3 := hg.size
  obtain ⟨ST, hST⟩ : ∃ ST, ST = startW key ctr nonce := ⟨_, rfl⟩
  have HSL := Lib.hid (show ST.length = 16 by rw [hST, startW_len])
  have HSW := Lib.hid (show W32 ST by rw [hST]; exact startW_w32 hkb hnb hc)
  have HST := Lib.hid hST
  have hu4 := Tryd.underlying51
  have HHD := Lib.hid (show (((w.alloc (.cells (bs key) 23)).alloc (.cells (bs nonce) 25)).alloc (.cells (bs (List.replicate 64 0)) 43)).rangeAt 0 0 (ws headW).toList from fun j v hj => by
    rw [Nat.zero_add]
    exact (hg.chg ((((Chg.refl _ _).alloc _).alloc _).alloc _)).head j v hj)
  clear hk hkb hn hnb hg hST
  go_enter Tryd.func19, Tryd.ntmps19
  go_wp2_with (refine wpList_load_mid rfl 51 (Operand.global 0) rfl 0 0 rfl (ws headW).toList _ (rangeAt_chg HHD.out ((Chg.refl _ _).alloc _)) hu4 rfl info4 ?_)
  have HW0 := Lib.hid (chaW0 w key nonce)
  have HF0 := Lib.hid (show fillTo 0 ST 0 = List.replicate 16 0 by rw [fill_zero, HSL.out])
  rw [← HF0.out] at HW0
  go_loopw [23] (fun i wr => ∃ k : Nat, k ≤ 4 ∧ i = .int .i64 k ∧ ChaW w wr key nonce (fillTo 0 ST k)) (fun i _ => 4 - (intOf i).toNat)
  case atStart => exact ⟨0, by omega, rfl, by have := HW0.out; rw [HF0.out] at this ⊢; exact this⟩
  case round =>
    obtain ⟨k, hk, rfl, hW⟩ := hrel
    clear HW0 HF0
    have HW := Lib.hid hW
    clear hW
    by_cases hk2 : k < 4
    · have hix := at_head hk2
      obtain ⟨b, hb⟩ : ∃ b, b = headW.getD k 0 := ⟨_, rfl⟩
      have HB := Lib.hid (show ST[k]? = some b by rw [HST.out, hb]; exact startW_head _ _ _ hk2)
      rw [← hb] at hix
      clear hb
      obtain ⟨v, hv⟩ := fill_getD ST (k := k) (by rw [HSL.out]; omega)
      have cs := (cell_blk HW.out.s (o := k)).trans (ws_get hv)
      have fs : wr.frozen? ⟨w.heap.size + 1 + 1 + 1, k, none⟩ = false := frozen_blk HW.out.s
      clear hv
      go_wp2_with fail
      go_roundw
      case rel => exact ⟨k + 1, by omega, by go_num, by have := HW.out.put k b; rwa [fill_set 0 ST HB.out] at this⟩
      case measure => simp [intOf]; omega
    · have HF4 := Lib.hid (show fillTo 0 ST k = fillTo 0 ST (4 + 0) by rw [show k = 4 by omega])
      rw [HF4.out] at HW
      go_wp2_with fail
      go_loopw [31] (fun i wr => ∃ k : Nat, k ≤ 8 ∧ i = .int .i64 k ∧ ChaW w wr key nonce (fillTo 0 ST (4 + k))) (fun i _ => 8 - (intOf i).toNat)
      case atStart => exact ⟨0, by omega, rfl, HW.out⟩
      case round =>
        obtain ⟨j, hj, rfl, hW⟩ := hrel
        clear HW HF4
        have HW := Lib.hid hW
        clear hW
        by_cases hj2 : j < 8
        · have hkc : ∀ o, o < 32 → wr.cell? ⟨w.heap.size, o, none⟩ = some (.int .u8 ((key.getD o 0 : Nat) : Int)) := fun o ho => (cell_blk HW.out.k (o := o)).trans (bs_get (some_getD (by rw [HK.out]; exact ho)))
          have HCW := Lib.hid (word_any w.heap.size (4 * j) (32 - 4 * j) (32 - 4 * j) (key.getD (4 * j) 0) (key.getD (4 * j + 1) 0) (key.getD (4 * j + 2) 0) (key.getD (4 * j + 3) 0) wr (by omega) (by omega) (HKB.out.at _) (HKB.out.at _) (HKB.out.at _) (HKB.out.at _) (hkc _ (by omega)) (hkc _ (by omega)) (hkc _ (by omega)) (hkc _ (by omega)))
          have HB := Lib.hid (show ST[4 + j]? = some (word4 key (4 * j)) by rw [HST.out]; exact startW_key _ _ _ hj2)
          have HWV := Lib.hid (show key.getD (4 * j) 0 + 256 * key.getD (4 * j + 1) 0 + 65536 * key.getD (4 * j + 2) 0 + 16777216 * key.getD (4 * j + 3) 0 = word4 key (4 * j) from rfl)
          clear hkc
          have hsl := sl_k w.heap.size j hj2
          obtain ⟨v, hv⟩ := fill_getD ST (k := 4 + j) (by rw [HSL.out]; omega)
          have cs := (cell_blk HW.out.s (o := 4 + j)).trans (ws_get hv)
          have hs2 : w.heap.size + 1 + 1 + 1 < wr.heap.size := lt_blk HW.out.s
          clear hv
          go_wp2_with (go_at_call 28; refine HCW.out.mono ?_; rw [HWV.out]; rintro e w2 ⟨rfl, hC2⟩; have HW2 := Lib.hid (HW.out.chg hC2); have cs2 := (hC2.cell (p := ⟨w.heap.size + 1 + 1 + 1, 4 + j, none⟩) hs2 (not_nowhere _)).trans cs; have fs2 : w2.frozen? ⟨w.heap.size + 1 + 1 + 1, 4 + j, none⟩ = false := frozen_blk HW2.out.s; clear hC2)
          go_roundw
          case rel => exact ⟨j + 1, by omega, by go_num, by have := HW2.out.put (4 + j) (word4 key (4 * j)); rwa [fill_set 0 ST HB.out] at this⟩
          case measure => simp [intOf]; omega
        · have HF12 := Lib.hid (show fillTo 0 ST (4 + j) = fillTo 0 ST 12 by rw [show j = 8 by omega])
          rw [HF12.out] at HW
          obtain ⟨v, hv⟩ := fill_getD ST (k := 12) (by rw [HSL.out]; omega)
          have cs := (cell_blk HW.out.s (o := 12)).trans (ws_get hv)
          have fs : wr.frozen? ⟨w.heap.size + 1 + 1 + 1, 12, none⟩ = false := frozen_blk HW.out.s
          have HW13 := Lib.hid (show ChaW w (wr.setCell ⟨w.heap.size + 1 + 1 + 1, 12, none⟩ (.int .u32 (ctr : Int))) key nonce (fillTo 0 ST (13 + 0)) by
            have := HW.out.put 12 ctr
            rwa [fill_set 0 ST (by rw [HST.out]; exact startW_ctr _ _ _)] at this)
          clear hv
          go_wp2_with fail
          go_loopw [44] (fun i wr => ∃ k : Nat, k ≤ 3 ∧ i = .int .i64 k ∧ ChaW w wr key nonce (fillTo 0 ST (13 + k))) (fun i _ => 3 - (intOf i).toNat)
          case atStart => exact ⟨0, by omega, rfl, HW13.out⟩
          case round =>
            obtain ⟨i, hi, rfl, hW⟩ := hrel
            clear HW HF12 HW13 cs fs
            have HW := Lib.hid hW
            clear hW
            by_cases hi2 : i < 3
            · have hkc : ∀ o, o < 12 → wr.cell? ⟨w.heap.size + 1, o, none⟩ = some (.int .u8 ((nonce.getD o 0 : Nat) : Int)) := fun o ho => (cell_blk HW.out.n (o := o)).trans (bs_get (some_getD (by rw [HN.out]; exact ho)))
              have HCW := Lib.hid (word_any (w.heap.size + 1) (4 * i) (12 - 4 * i) (12 - 4 * i) (nonce.getD (4 * i) 0) (nonce.getD (4 * i + 1) 0) (nonce.getD (4 * i + 2) 0) (nonce.getD (4 * i + 3) 0) wr (by omega) (by omega) (HNB.out.at _) (HNB.out.at _) (HNB.out.at _) (HNB.out.at _) (hkc _ (by omega)) (hkc _ (by omega)) (hkc _ (by omega)) (hkc _ (by omega)))
              have HB := Lib.hid (show ST[13 + i]? = some (word4 nonce (4 * i)) by rw [HST.out]; exact startW_nonce _ _ _ hi2)
              have HWV := Lib.hid (show nonce.getD (4 * i) 0 + 256 * nonce.getD (4 * i + 1) 0 + 65536 * nonce.getD (4 * i + 2) 0 + 16777216 * nonce.getD (4 * i + 3) 0 = word4 nonce (4 * i) from rfl)
              clear hkc
              have hsl := sl_n (w.heap.size + 1) i hi2
              obtain ⟨v, hv⟩ := fill_getD ST (k := 13 + i) (by rw [HSL.out]; omega)
              have cs := (cell_blk HW.out.s (o := 13 + i)).trans (ws_get hv)
              have hs2 : w.heap.size + 1 + 1 + 1 < wr.heap.size := lt_blk HW.out.s
              clear hv
              go_wp2_with (go_at_call 28; refine HCW.out.mono ?_; rw [HWV.out]; rintro e w2 ⟨rfl, hC2⟩; have HW2 := Lib.hid (HW.out.chg hC2); have cs2 := (hC2.cell (p := ⟨w.heap.size + 1 + 1 + 1, 13 + i, none⟩) hs2 (not_nowhere _)).trans cs; have fs2 : w2.frozen? ⟨w.heap.size + 1 + 1 + 1, 13 + i, none⟩ = false := frozen_blk HW2.out.s; clear hC2)
              go_roundw
              case rel => exact ⟨i + 1, by omega, by go_num, by have := HW2.out.put (13 + i) (word4 nonce (4 * i)); rwa [fill_set 0 ST HB.out] at this⟩
              case measure => simp [intOf]; omega
            · have HF16 := Lib.hid (show fillTo 0 ST (13 + i) = ST by rw [fill_all 0 ST (by rw [HSL.out]; omega)])
              rw [HF16.out] at HW
              clear HF16
              have HIS := Lib.hid (show InfoArr 53 (ws ST).size by rw [ws_size, HSL.out]; exact info16w)
              have hs2 : w.heap.size + 1 + 1 + 1 < wr.heap.size := lt_blk HW.out.s
              obtain ⟨W1, rfl⟩ : ∃ W1, W1 = wr := ⟨_, rfl⟩
              go_wp2_with (first | (refine wpList_load_row rfl 53 (Operand.tmp 7) rfl (w.heap.size + 1 + 1 + 1) rfl 53 _ (0, 0) _ HW.out.s Tryd.underlying53 rfl HIS.out ?_) | (refine wpList_store_row rfl 53 (Operand.tmp 12) (Operand.tmp 55) rfl W1.heap.size _ rfl rfl 53 (ws (List.replicate 16 0)) (alloc_new _ _) HIS.out (by rw [ws_size, ws_size, HSL.out]; rfl) (ws_one _) ?_))
              have HX0 := Lib.hid (show ((W1.alloc (.cells (ws (List.replicate 16 0)) 53)).setRow W1.heap.size (ws ST)).heap[W1.heap.size]? = some (.cells (ws (itr (fun _ x => itr quart 8 x) 0 ST)) 53 (0, 0)) from row_blk (alloc_new _ _))
              have HW0 := Lib.hid ((HW.out.chg ((Chg.refl _ _).alloc (.cells (ws (List.replicate 16 0)) 53))).row (b := W1.heap.size) hs2 (ws ST))
              have hu55 := Tryd.underlying55
              have hi55 : (Tryd.prog.info? 55).map (·.size) = some roundCells.length := by kernel_rfl
              go_loopw [56] (fun i wr => ∃ n : Nat, n ≤ 10 ∧ i = .int .i64 n ∧ ChaW w wr key nonce ST ∧ wr.heap[W1.heap.size]? = some (.cells (ws (itr (fun _ x => itr quart 8 x) n ST)) 53 (0, 0))) (fun i _ => 10 - (intOf i).toNat)
              case atStart => exact ⟨0, by omega, rfl, HW0.out, HX0.out⟩
              case round =>
                obtain ⟨n, hn, rfl, hW, hX⟩ := hrel
                clear HW HW0 HX0
                have HW := Lib.hid hW
                have HX := Lib.hid hX
                clear hW hX
                obtain ⟨X, hXe⟩ : ∃ X, X = itr (fun _ x => itr quart 8 x) n ST := ⟨_, rfl⟩
                rw [← hXe] at HX
                have HXL := Lib.hid (show X.length = 16 by rw [hXe, rnds_len, HSL.out])
                have HXW := Lib.hid (show W32 X by rw [hXe]; exact rnds_w32 HSW.out n)
                have HXE := Lib.hid hXe
                clear hXe
                by_cases hn2 : n < 10
                · have HRA := Lib.hid (show wr.rangeAt 1 0 roundCells from fun j v hj => by
                    rw [Nat.zero_add]
                    exact (HG.out.chg HW.out.c).round j v hj)
                  go_wp2_with (refine wpList_load_mid rfl 55 (Operand.global 1) rfl 1 0 rfl roundCells _ HRA.out hu55 rfl hi55 ?_)
                  go_loopw [59] (fun i wr => ∃ k : Nat, k ≤ 8 ∧ i = .int .i64 k ∧ ChaW w wr key nonce ST ∧ wr.heap[W1.heap.size]? = some (.cells (ws (itr quart k X)) 53 (0, 0))) (fun i _ => 8 - (intOf i).toNat)
                  case atStart => exact ⟨0, by omega, rfl, HW.out, HX.out⟩
                  case round =>
                    obtain ⟨k, hk, rfl, hW, hX⟩ := hrel
                    clear HW HX HRA
                    have HW := Lib.hid hW
                    have HX := Lib.hid hX
                    clear hW hX
                    obtain ⟨Y, hYe⟩ : ∃ Y, Y = itr quart k X := ⟨_, rfl⟩
                    rw [← hYe] at HX
                    have HYL := Lib.hid (show Y.length = 16 by rw [hYe, rnd_len, HXL.out])
                    have HYW := Lib.hid (show W32 Y by rw [hYe]; exact rnd_w32 HXW.out k)
                    have HYE := Lib.hid hYe
                    clear hYe
                    by_cases hk2 : k < 8
                    · have hix := at_round hk2
                      go_wp2_with fail
                      have hsX := lt_blk HX.out
                      have UP := Lib.hid (alloc_new wr (.cells #[.int .i64 (place k 0 : Int), .int .i64 (place k 1 : Int), .int .i64 (place k 2 : Int), .int .i64 (place k 3 : Int)] 54))
                      have UX := Lib.hid (alloc_old (o := (.cells #[.int .i64 (place k 0 : Int), .int .i64 (place k 1 : Int), .int .i64 (place k 2 : Int), .int .i64 (place k 3 : Int)] 54)) HX.out)
                      have UW := Lib.hid (HW.out.chg ((Chg.refl _ _).alloc (.cells #[.int .i64 (place k 0 : Int), .int .i64 (place k 1 : Int), .int .i64 (place k 2 : Int), .int .i64 (place k 3 : Int)] 54)))
                      refine wp_region_calm0 19 [62, 63, 64, 65, 66, 67, 68, 69, 70, 71, 72, 73, 74, 75, 76, 77, 78, 79, 15] [15] [⟨[62], fun v _ => v = [.pointer (some ⟨wr.heap.size, 0, none⟩)]⟩, ⟨[63], fun v _ => v = [.int .i64 (place k 0 : Int)]⟩, ⟨[64], fun v _ => v = [.pointer (some ⟨W1.heap.size, place k 0, none⟩)]⟩, ⟨[65], fun v _ => v = [.int .u32 ((Y.getD (place k 0) 0 : Nat) : Int)]⟩, ⟨[66], fun v _ => v = [.pointer (some ⟨wr.heap.size, 1, none⟩)]⟩, ⟨[67], fun v _ => v = [.int .i64 (place k 1 : Int)]⟩, ⟨[68], fun v _ => v = [.pointer (some ⟨W1.heap.size, place k 1, none⟩)]⟩, ⟨[69], fun v _ => v = [.int .u32 ((Y.getD (place k 1) 0 : Nat) : Int)]⟩, ⟨[70], fun v _ => v = [.pointer (some ⟨wr.heap.size, 2, none⟩)]⟩, ⟨[71], fun v _ => v = [.int .i64 (place k 2 : Int)]⟩, ⟨[72], fun v _ => v = [.pointer (some ⟨W1.heap.size, place k 2, none⟩)]⟩, ⟨[73], fun v _ => v = [.int .u32 ((Y.getD (place k 2) 0 : Nat) : Int)]⟩, ⟨[74], fun v _ => v = [.pointer (some ⟨wr.heap.size, 3, none⟩)]⟩, ⟨[75], fun v _ => v = [.int .i64 (place k 3 : Int)]⟩, ⟨[76], fun v _ => v = [.pointer (some ⟨W1.heap.size, place k 3, none⟩)]⟩, ⟨[77], fun v _ => v = [.int .u32 ((Y.getD (place k 3) 0 : Nat) : Int)]⟩, ⟨[78], fun v _ => v = [.agg #[.int .u32 ((Y.getD (place k 0) 0 : Nat) : Int), .int .u32 ((Y.getD (place k 1) 0 : Nat) : Int), .int .u32 ((Y.getD (place k 2) 0 : Nat) : Int), .int .u32 ((Y.getD (place k 3) 0 : Nat) : Int)]]⟩, ⟨[79], fun v _ => v = [.agg (ws (quR k Y))]⟩, ⟨[15], IsNew (wr.heap.size + 1) 51 (ws [0, 0, 0, 0])⟩] (Chg Nowhere) (by kernel_rfl) (by kernel_rfl) (by kernel_rfl) (Chg.refl _) Chg.trans' Chg.size (by decide) (Chg.refl Nowhere _).drew ?_ ?_ ?_
                      · exact ⟨fun _ _ _ _ h => h, fun _ _ _ _ h => h, fun _ _ _ _ h => h, fun _ _ _ _ h => h, fun _ _ _ _ h => h, fun _ _ _ _ h => h, fun _ _ _ _ h => h, fun _ _ _ _ h => h, fun _ _ _ _ h => h, fun _ _ _ _ h => h, fun _ _ _ _ h => h, fun _ _ _ _ h => h, fun _ _ _ _ h => h, fun _ _ _ _ h => h, fun _ _ _ _ h => h, fun _ _ _ _ h => h, fun _ _ _ _ h => h, fun _ _ _ _ h => h, fun _ _ _ hR h => IsNew.chg h hR, trivial⟩
                      · simp only [List.take_succ_cons, List.take_zero]
                        refine Steps.cons ?_ (Steps.cons ?_ (Steps.cons ?_ (Steps.cons ?_ (Steps.cons ?_ (Steps.cons ?_ (Steps.cons ?_ (Steps.cons ?_ (Steps.cons ?_ (Steps.cons ?_ (Steps.cons ?_ (Steps.cons ?_ (Steps.cons ?_ (Steps.cons ?_ (Steps.cons ?_ (Steps.cons ?_ (Steps.cons ?_ (Steps.cons ?_ (Steps.cons ?_ Steps.nil))))))))))))))))))
                        · intro x w' hR hd K Q' hK
                          exact wp_index_addr rfl rfl rfl (ia54 wr.heap.size 0 (by decide) _) (hK _ _ (Chg.refl _ _) rfl (fun d h1 h2 => by cases h1; simp at h2))
                        · intro x w' hR hd K Q' hK
                          exact wp_load_one rfl (List.head_eq_of_cons_eq (hd 0 (by kernel_rfl))) (ld3 _ _ _ _ ((cell_blk (hR.same UP.out) (o := 0)).trans rfl)) (hK _ _ (Chg.refl _ _) rfl (fun d h1 h2 => by cases h1; simp at h2))
                        · intro x w' hR hd K Q' hK
                          exact wp_index_addr rfl rfl (List.head_eq_of_cons_eq (hd 1 (by kernel_rfl))) (ia53 W1.heap.size (place k 0) (by have := place_lt hk2 (show 0 < 4 by decide); omega) _) (hK _ _ (Chg.refl _ _) rfl (fun d h1 h2 => by cases h1; simp at h2))
                        · intro x w' hR hd K Q' hK
                          exact wp_load_one rfl (List.head_eq_of_cons_eq (hd 2 (by kernel_rfl))) (ld39 _ _ _ _ ((cell_blk (hR.same UX.out) (o := place k 0)).trans (ws_get (some_getD (by rw [HYL.out]; exact place_lt hk2 (by decide)))))) (hK _ _ (Chg.refl _ _) rfl (fun d h1 h2 => by cases h1; simp at h2))
                        · intro x w' hR hd K Q' hK
                          exact wp_index_addr rfl rfl rfl (ia54 wr.heap.size 1 (by decide) _) (hK _ _ (Chg.refl _ _) rfl (fun d h1 h2 => by cases h1; simp at h2))
                        · intro x w' hR hd K Q' hK
                          exact wp_load_one rfl (List.head_eq_of_cons_eq (hd 4 (by kernel_rfl))) (ld3 _ _ _ _ ((cell_blk (hR.same UP.out) (o := 1)).trans rfl)) (hK _ _ (Chg.refl _ _) rfl (fun d h1 h2 => by cases h1; simp at h2))
                        · intro x w' hR hd K Q' hK
                          exact wp_index_addr rfl rfl (List.head_eq_of_cons_eq (hd 5 (by kernel_rfl))) (ia53 W1.heap.size (place k 1) (by have := place_lt hk2 (show 1 < 4 by decide); omega) _) (hK _ _ (Chg.refl _ _) rfl (fun d h1 h2 => by cases h1; simp at h2))
                        · intro x w' hR hd K Q' hK
                          exact wp_load_one rfl (List.head_eq_of_cons_eq (hd 6 (by kernel_rfl))) (ld39 _ _ _ _ ((cell_blk (hR.same UX.out) (o := place k 1)).trans (ws_get (some_getD (by rw [HYL.out]; exact place_lt hk2 (by decide)))))) (hK _ _ (Chg.refl _ _) rfl (fun d h1 h2 => by cases h1; simp at h2))
                        · intro x w' hR hd K Q' hK
                          exact wp_index_addr rfl rfl rfl (ia54 wr.heap.size 2 (by decide) _) (hK _ _ (Chg.refl _ _) rfl (fun d h1 h2 => by cases h1; simp at h2))
                        · intro x w' hR hd K Q' hK
                          exact wp_load_one rfl (List.head_eq_of_cons_eq (hd 8 (by kernel_rfl))) (ld3 _ _ _ _ ((cell_blk (hR.same UP.out) (o := 2)).trans rfl)) (hK _ _ (Chg.refl _ _) rfl (fun d h1 h2 => by cases h1; simp at h2))
                        · intro x w' hR hd K Q' hK
                          exact wp_index_addr rfl rfl (List.head_eq_of_cons_eq (hd 9 (by kernel_rfl))) (ia53 W1.heap.size (place k 2) (by have := place_lt hk2 (show 2 < 4 by decide); omega) _) (hK _ _ (Chg.refl _ _) rfl (fun d h1 h2 => by cases h1; simp at h2))
                        · intro x w' hR hd K Q' hK
                          exact wp_load_one rfl (List.head_eq_of_cons_eq (hd 10 (by kernel_rfl))) (ld39 _ _ _ _ ((cell_blk (hR.same UX.out) (o := place k 2)).trans (ws_get (some_getD (by rw [HYL.out]; exact place_lt hk2 (by decide)))))) (hK _ _ (Chg.refl _ _) rfl (fun d h1 h2 => by cases h1; simp at h2))
                        · intro x w' hR hd K Q' hK
                          exact wp_index_addr rfl rfl rfl (ia54 wr.heap.size 3 (by decide) _) (hK _ _ (Chg.refl _ _) rfl (fun d h1 h2 => by cases h1; simp at h2))
                        · intro x w' hR hd K Q' hK
                          exact wp_load_one rfl (List.head_eq_of_cons_eq (hd 12 (by kernel_rfl))) (ld3 _ _ _ _ ((cell_blk (hR.same UP.out) (o := 3)).trans rfl)) (hK _ _ (Chg.refl _ _) rfl (fun d h1 h2 => by cases h1; simp at h2))
                        · intro x w' hR hd K Q' hK
                          exact wp_index_addr rfl rfl (List.head_eq_of_cons_eq (hd 13 (by kernel_rfl))) (ia53 W1.heap.size (place k 3) (by have := place_lt hk2 (show 3 < 4 by decide); omega) _) (hK _ _ (Chg.refl _ _) rfl (fun d h1 h2 => by cases h1; simp at h2))
                        · intro x w' hR hd K Q' hK
                          exact wp_load_one rfl (List.head_eq_of_cons_eq (hd 14 (by kernel_rfl))) (ld39 _ _ _ _ ((cell_blk (hR.same UX.out) (o := place k 3)).trans (ws_get (some_getD (by rw [HYL.out]; exact place_lt hk2 (by decide)))))) (hK _ _ (Chg.refl _ _) rfl (fun d h1 h2 => by cases h1; simp at h2))
                        · intro x w' hR hd K Q' hK
                          exact wp_build_op rfl (four_parts (hd 3 (by kernel_rfl)) (hd 7 (by kernel_rfl)) (hd 11 (by kernel_rfl)) (hd 15 (by kernel_rfl))) (bd51 _ _ _ _ _) (hK _ _ (Chg.refl _ _) rfl (fun d h1 h2 => by cases h1; simp at h2))
                        · intro x w' hR hd K Q' hK
                          exact wp_call_fn rfl enters_quarter [.agg (ws [Y.getD (place k 0) 0, Y.getD (place k 1) 0, Y.getD (place k 2) 0, Y.getD (place k 3) 0])] (hd 16 (by kernel_rfl)) ((quarter_any _ _ _ _ (HYW.out.get _) (HYW.out.get _) (HYW.out.get _) (HYW.out.get _) _).mono fun e w3 ⟨he, hC3⟩ => ⟨_, he, hK _ _ hC3 rfl (fun d h1 h2 => by cases h1; simp at h2)⟩)
                        · intro x w' hR hd K Q' hK
                          exact wp_alloc_op rfl Tryd.zeroValue51 (hK _ _ ((Chg.refl _ _).alloc _) ⟨_, rfl, Nat.le_trans (Nat.le_of_eq (sz1 wr (.cells #[.int .i64 (place k 0 : Int), .int .i64 (place k 1 : Int), .int .i64 (place k 2 : Int), .int .i64 (place k 3 : Int)] 54)).symm) hR.size, alloc_new _ _⟩ (fun _ _ _ => ⟨_, rfl, Nat.le_refl _, by simp⟩))
                      · intro x w' hR hV hap
                        have e79 : x 79 = .agg (ws (quR k Y)) := List.head_eq_of_cons_eq (hV 17 (by decide))
                        obtain ⟨b15, h15, B15, C15⟩ := hV 18 (by decide)
                        have e15 : x 15 = .pointer (some ⟨b15, 0, none⟩) := List.head_eq_of_cons_eq h15
                        have HC15 := Lib.hid C15
                        have VP := Lib.hid (hR.same UP.out)
                        have VX := Lib.hid (hR.same UX.out)
                        have VW := Lib.hid (UW.out.chg hR)
                        clear hV hap h15 C15 hR
                        set_option linter.unusedSimpArgs false in
                        simp only [puts, putsL, List.contains_cons, List.contains_nil, Nat.reduceBEq, Bool.or_true, Bool.true_or, Bool.or_false, Bool.false_eq_true, if_true, if_false, Nat.reduceAdd, List.drop_succ_cons, List.drop_zero, e15, e79]
                        generalize x 62 = x62
                        generalize x 63 = x63
                        generalize x 64 = x64
                        generalize x 65 = x65
                        generalize x 66 = x66
                        generalize x 67 = x67
                        generalize x 68 = x68
                        generalize x 69 = x69
                        generalize x 70 = x70
                        generalize x 71 = x71
                        generalize x 72 = x72
                        generalize x 73 = x73
                        generalize x 74 = x74
                        generalize x 75 = x75
                        generalize x 76 = x76
                        generalize x 77 = x77
                        generalize x 78 = x78
                        clear e15 e79
                        have hIQ : (Tryd.prog.info? 51).map (·.size) = some (ws (quR k Y)).size := info4
                        have hIP : (Tryd.prog.info? 54).map (·.size) = some 4 := by kernel_rfl
                        go_wp2_with (first | (refine wpList_store_row rfl 51 (Operand.tmp 15) (Operand.tmp 79) rfl b15 _ rfl rfl 51 _ HC15.out hIQ rfl (ws_one _) ?_) | (refine wpList_load_row rfl 54 (Operand.tmp 14) rfl wr.heap.size rfl 54 #[.int .i64 (place k 0 : Int), .int .i64 (place k 1 : Int), .int .i64 (place k 2 : Int), .int .i64 (place k 3 : Int)] (0, 0) _ (row_other VP.out (by omega)) Tryd.underlying54 rfl hIP ?_))
                        have HY0 := Lib.hid (show (w'.setRow b15 (ws (quR k Y))).heap[W1.heap.size]? = some (.cells (ws (quS k 0 Y)) 53 (0, 0)) from row_other VX.out (by omega))
                        have HQ0 := Lib.hid (show (w'.setRow b15 (ws (quR k Y))).heap[b15]? = some (.cells (ws (quR k Y)) 51 (0, 0)) from row_blk HC15.out)
                        have hsW := lt_blk HW.out.s
                        have HV0 := Lib.hid (VW.out.row (b := b15) (by omega) (ws (quR k Y)))
                        go_loopw [81] (fun i wq => ∃ j : Nat, j ≤ 4 ∧ i = .int .i64 j ∧ ChaW w wq key nonce ST ∧ wq.heap[W1.heap.size]? = some (.cells (ws (quS k j Y)) 53 (0, 0)) ∧ wq.heap[b15]? = some (.cells (ws (quR k Y)) 51 (0, 0))) (fun i _ => 4 - (intOf i).toNat)
                        case atStart => exact ⟨0, by omega, rfl, HV0.out, HY0.out, HQ0.out⟩
                        case round =>
                          obtain ⟨j, hj, rfl, hW, hX, hQ⟩ := hrel
                          clear HY0 HQ0 HV0
                          have GW := Lib.hid hW
                          have GX := Lib.hid hX
                          have GQ := Lib.hid hQ
                          clear hW hX hQ
                          by_cases hj2 : j < 4
                          · have hip := at_place hk2 hj2
                            obtain ⟨p, hp⟩ : ∃ p, p = place k j := ⟨_, rfl⟩
                            have hp16 : p < 16 := by rw [hp]; exact place_lt hk2 hj2
                            have HS := Lib.hid (show (quS k j Y).set p ((quR k Y).getD j 0) = quS k (j + 1) Y by rw [hp]; rfl)
                            rw [← hp] at hip
                            clear hp
                            obtain ⟨z, hz⟩ : ∃ z, z = (quR k Y).getD j 0 := ⟨_, rfl⟩
                            rw [← hz] at HS
                            have cq : wr.cell? ⟨b15, j, none⟩ = some (.int .u32 (z : Int)) := (cell_blk GQ.out (o := j)).trans (ws_get (by rw [hz]; exact some_getD hj2))
                            obtain ⟨v, hv⟩ : ∃ v, (quS k j Y)[p]? = some v := ⟨_, List.getElem?_eq_getElem (by rw [quS_len, HYL.out]; exact hp16)⟩
                            have cx := (cell_blk GX.out (o := p)).trans (ws_get hv)
                            have fx : wr.frozen? ⟨W1.heap.size, p, none⟩ = false := frozen_blk GX.out
                            clear hz hv
                            go_wp2_with fail
                            go_roundw
                            case rel => exact ⟨j + 1, by omega, by go_num, GW.out.other hs2 _ _, (set_blk _ GX.out).trans (by rw [ws_set, HS.out]), (set_other _ (by simp <;> omega)).trans GQ.out⟩
                            case measure => simp [intOf]; omega
                          · have HS := Lib.hid (show quS k j Y = itr quart (k + 1) X by
                              rw [show j = 4 by omega, ← quart_eq, HYE.out]; rfl)
                            rw [HS.out] at GX
                            go_wp2_with fail
                            go_roundw
                            case rel => first | exact ⟨k + 1, by omega, by go_num, GW.out, GX.out⟩ | ((repeat apply Exists.intro); refine ⟨?_, rfl⟩; exact ⟨k + 1, by omega, by go_num, GW.out, GX.out⟩)
                            case measure => simp [intOf]; omega
                    · have HQ := Lib.hid (show Y = itr (fun _ x => itr quart 8 x) (n + 1) ST by rw [rnds_succ, ← HXE.out, HYE.out, show k = 8 by omega])
                      rw [HQ.out] at HX
                      go_wp2_with fail
                      go_roundw
                      case rel => exact ⟨n + 1, by omega, by go_num, HW.out, HX.out⟩
                      case measure => simp [intOf]; omega
                · have hn10 : n = n := rfl
                  clear hn10
                  obtain ⟨OUT, hO⟩ : ∃ OUT, OUT = block key ctr nonce := ⟨_, rfl⟩
                  have HOL := Lib.hid (show OUT.length = 64 by rw [hO, block_len])
                  have HOE := Lib.hid hO
                  obtain ⟨BW, hBW⟩ : ∃ BW, BW = blockW key ctr nonce := ⟨_, rfl⟩
                  have HBO := Lib.hid (show ∀ (i k x : Nat), BW[i]? = some x → k < 4 → OUT[4 * i + k]? = some (x / 256 ^ k % 256) from fun i k x h hk => by rw [hO]; rw [hBW] at h; exact block_get h hk)
                  have HBWE := Lib.hid hBW
                  clear hBW
                  clear hO
                  have hsS := lt_blk HW.out.s
                  have hsX := lt_blk HX.out
                  obtain ⟨W5, rfl⟩ : ∃ W5, W5 = wr := ⟨_, rfl⟩
                  have HO0 := Lib.hid (show (W5.alloc (.cells (bs (List.replicate 64 0)) 43)).heap[W5.heap.size]? = some (.cells (bs (fillTo 0 OUT (4 * 0))) 43 (0, 0)) by rw [Nat.mul_zero, fill_zero, HOL.out]; exact alloc_new _ _)
                  have HW0 := Lib.hid (HW.out.chg ((Chg.refl _ _).alloc (.cells (bs (List.replicate 64 0)) 43)))
                  have HX0 := Lib.hid (alloc_old (o := .cells (bs (List.replicate 64 0)) 43) HX.out)
                  go_wp2_with fail
                  go_loopw [93] (fun i wr => ∃ m : Nat, m ≤ 16 ∧ i = .int .i64 m ∧ ChaW w wr key nonce ST ∧ wr.heap[W1.heap.size]? = some (.cells (ws X) 53 (0, 0)) ∧ wr.heap[W5.heap.size]? = some (.cells (bs (fillTo 0 OUT (4 * m))) 43 (0, 0))) (fun i _ => 16 - (intOf i).toNat)
                  case atStart => exact ⟨0, by omega, rfl, HW0.out, HX0.out, HO0.out⟩
                  case round =>
                    obtain ⟨m, hm, rfl, hW, hX, hO⟩ := hrel
                    clear HW HX HW0 HX0 HO0
                    have HW := Lib.hid hW
                    have HX := Lib.hid hX
                    have HO := Lib.hid hO
                    clear hW hX hO
                    by_cases hm2 : m < 16
                    · obtain ⟨a, ha⟩ : ∃ a, a = X.getD m 0 := ⟨_, rfl⟩
                      obtain ⟨b, hb⟩ : ∃ b, b = ST.getD m 0 := ⟨_, rfl⟩
                      have ca : wr.cell? ⟨W1.heap.size, m, none⟩ = some (.int .u32 (a : Int)) := (cell_blk HX.out (o := m)).trans (ws_get (by rw [ha]; exact some_getD (by rw [HXL.out]; exact hm2)))
                      have cb : wr.cell? ⟨w.heap.size + 1 + 1 + 1, m, none⟩ = some (.int .u32 (b : Int)) := (cell_blk HW.out.s (o := m)).trans (ws_get (by rw [hb]; exact some_getD (by rw [HSL.out]; exact hm2)))
                      obtain ⟨v, hv, hve, Ev⟩ := add_nm a b
                      have HBW := Lib.hid (show BW[m]? = some v from HBWE.out ▸ blockW_get' hm2 (by omega) HST.out HXE.out ha hb hve)
                      have HO0 := Lib.hid (show wr.heap[W5.heap.size]? = some (.cells (bs (fillTo 0 OUT (4 * m + 0))) 43 (0, 0)) from HO.out)
                      clear ha hb hve hv
                      go_wp2_with fail
                      go_quiet (fail)
                      go_wp2_with fail
                      go_loopw [103] (fun i wr => ∃ k : Nat, k ≤ 4 ∧ i = .int .i64 k ∧ ChaW w wr key nonce ST ∧ wr.heap[W1.heap.size]? = some (.cells (ws X) 53 (0, 0)) ∧ wr.heap[W5.heap.size]? = some (.cells (bs (fillTo 0 OUT (4 * m + k))) 43 (0, 0))) (fun i _ => 4 - (intOf i).toNat)
                      case atStart => exact ⟨0, by omega, rfl, HW.out.chg ((Chg.refl _ _).drewN _), HX.out, HO0.out⟩
                      case round =>
                        obtain ⟨k, hk, rfl, hW, hX, hO⟩ := hrel
                        clear HW HX HO HO0 ca cb
                        have HW := Lib.hid hW
                        have HX := Lib.hid hX
                        have HO := Lib.hid hO
                        clear hW hX hO
                        by_cases hk2 : k < 4
                        · have HB := Lib.hid (show OUT[4 * m + k]? = some (v / 256 ^ k % 256) from HBO.out _ _ _ HBW.out hk2)
                          obtain ⟨u, hu⟩ : ∃ u, u = v / 256 ^ k % 256 := ⟨_, rfl⟩
                          have E2 : (v : Int) / 2 ^ (8 * k) % 256 = (u : Int) := by rw [hu, byte_of]
                          rw [← hu] at HB
                          obtain ⟨z, hz⟩ := fill_getD OUT (k := 4 * m + k) (by rw [HOL.out]; omega)
                          have co := (cell_blk HO.out (o := 4 * m + k)).trans (bs_get hz)
                          have fo : wr.frozen? ⟨W5.heap.size, 4 * m + k, none⟩ = false := frozen_blk HO.out
                          clear hu hz
                          go_wp2_with fail
                          go_roundw
                          case rel => exact ⟨k + 1, by omega, by go_num, HW.out.other hsS _ _, (set_other _ (by simp <;> omega)).trans HX.out, (set_blk _ HO.out).trans (by rw [bs_set, fill_set 0 OUT HB.out, Nat.add_assoc])⟩
                          case measure => simp [intOf]; omega
                        · have HF := Lib.hid (show fillTo 0 OUT (4 * m + k) = fillTo 0 OUT (4 * (m + 1)) by rw [show k = 4 by omega, Nat.mul_succ])
                          rw [HF.out] at HO
                          go_wp2_with fail
                          go_roundw
                          case rel => first | exact ⟨m + 1, by omega, by go_num, HW.out, HX.out, HO.out⟩ | ((repeat apply Exists.intro); refine ⟨?_, rfl⟩; exact ⟨m + 1, by omega, by go_num, HW.out, HX.out, HO.out⟩)
                          case measure => simp [intOf]; omega
                    · have HF := Lib.hid (show fillTo 0 OUT (4 * m) = OUT by rw [fill_all 0 OUT (by rw [HOL.out]; omega)])
                      rw [HF.out] at HO
                      have HIO := Lib.hid (show InfoArr 43 (bs OUT).size by rw [bs_size, HOL.out]; exact info64)
                      go_wp2_with (first | (refine wpList_load_row rfl 43 (Operand.tmp 18) rfl W5.heap.size rfl 43 _ (0, 0) _ HO.out Tryd.underlying43 rfl HIO.out ?_) | (refine wpList_store_row rfl 43 (Operand.tmp 6) (Operand.tmp 118) rfl (w.heap.size + 1 + 1) _ rfl rfl 43 _ HW.out.r HIO.out (by rw [bs_size, bs_size, HOL.out]; rfl) (bs_one _) ?_))
                      refine bodyPost_ret (results_cell_row rfl _ _ (w.heap.size + 1 + 1) _ _ (0, 0) _ rfl (row_blk HW.out.r) Tryd.underlying43 rfl HIO.out) rfl ⟨by rw [HOE.out], HW.out.c.putRow (.inr (by omega))⟩
end Go.Proofs.YtebmbapaedlmiaaDoor
