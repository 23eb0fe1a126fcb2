/-
  PathsTries, walked: it returns true.
-/
import Derived.Test.YtiijnhgafadokaaPathsEst
import Derived.Test.YtiijnhgafadokaaPathsTriesPure
namespace Go.Proofs.Ytiijnhgafadokaa
open Go.RowKit Paths

theorem Sh.tokCells {c : Nat} {a0 a1 a2 a3 a4 a5 a6 a7 : Int} {w : World} {t : TypeId} (h : w.heap[c]? = some (.cells #[.int .u8 a0, .int .u8 a1, .int .u8 a2, .int .u8 a3, .int .u8 a4, .int .u8 a5, .int .u8 a6, .int .u8 a7] t (0,0))) :
    w.cell? ⟨c, 0, .none⟩ = some (.int .u8 a0) ∧ w.cell? ⟨c, 1, .none⟩ = some (.int .u8 a1) ∧ w.cell? ⟨c, 2, .none⟩ = some (.int .u8 a2) ∧ w.cell? ⟨c, 3, .none⟩ = some (.int .u8 a3) ∧
    w.cell? ⟨c, 4, .none⟩ = some (.int .u8 a4) ∧ w.cell? ⟨c, 5, .none⟩ = some (.int .u8 a5) ∧ w.cell? ⟨c, 6, .none⟩ = some (.int .u8 a6) ∧ w.cell? ⟨c, 7, .none⟩ = some (.int .u8 a7) :=
  ⟨cell_blk h, cell_blk h, cell_blk h, cell_blk h, cell_blk h, cell_blk h, cell_blk h, cell_blk h⟩

/-- Block b the table, block c the token. -/
structure Sb (w0 : World) (b c : Nat) (arr : Array Value) (T : Tab) (w : World) : Prop where
  tab : TabAt w b T
  tok : w.heap[c]? = some (.cells arr 27 (0,0))
  chg : Chg Nowhere w0 w
  ne : b ≠ c
  new : w0.heap.size ≤ b
theorem Sb.step {w0 : World} {b c : Nat} {arr : Array Value} {T T' : Tab} {w w' : World} (h : Sb w0 b c arr T w) (hc : Chg (At b) w w') (ht : TabAt w' b T') : Sb w0 b c arr T' w' :=
  ⟨ht, hc.keep h.tok (fun e => h.ne e.symm), h.chg.trans hc (fun i hi e => by have : i = b := e; have := h.new; omega), h.ne, h.new⟩
theorem Sb.idle {w0 : World} {b c : Nat} {arr : Array Value} {T : Tab} {w w' : World} (h : Sb w0 b c arr T w) (hc : Chg Nowhere w w') : Sb w0 b c arr T w' :=
  ⟨h.tab.chg hc (not_nowhere _), hc.same h.tok, h.chg.trans' hc, h.ne, h.new⟩

def arr8 (a0 a1 a2 a3 a4 a5 a6 a7 : Int) : Array Value := #[.int .u8 a0, .int .u8 a1, .int .u8 a2, .int .u8 a3, .int .u8 a4, .int .u8 a5, .int .u8 a6, .int .u8 a7]

set_option maxHeartbeats 3200000 in
set_option maxRecDepth 100000 in
theorem tries_walk (id kk a0 a1 a2 a3 a4 a5 a6 a7 : Int) (w : World) (hi0 : -9223372036854775808 ≤ id) (hi : id ≤ 9223372036854775807) (hk0 : -9223372036854775808 ≤ kk) (hk : kk ≤ 9223372036854775807) :
    Calls Try.prog 4 #[.int .i64 id, .agg #[.int .u8 a0, .int .u8 a1, .int .u8 a2, .int .u8 a3, .int .u8 a4, .int .u8 a5, .int .u8 a6, .int .u8 a7], .int .i64 kk] w (ShownTo w) := by
  go_enter Try.func4, Try.ntmps4
  go_wp2_with fail
  refine (shown_any _).mono ?_
  rintro e w1 ⟨rfl, hC1⟩
  have htok := hC1.same (alloc_new w (.cells #[.int .u8 a0, .int .u8 a1, .int .u8 a2, .int .u8 a3, .int .u8 a4, .int .u8 a5, .int .u8 a6, .int .u8 a7] 27))
  have HT0 := Lib.hid htok; clear htok
  have hsz := hC1.size
  simp at hsz
  have HC1 := Lib.hid (((Chg.refl Nowhere w).alloc _).trans' hC1); clear hC1
  go_wp2_with fail
  refine (new_any _).mono ?_
  rintro e w2 ⟨b, rfl, hT, hC, hb⟩
  have HS := Lib.hid (show Sb w b w.heap.size (arr8 a0 a1 a2 a3 a4 a5 a6 a7) new w2 from ⟨hT, hC.same HT0.out, HC1.out.trans' hC, by omega, by omega⟩)
  clear hC hT HC1 HT0
  go_wp2_with fail
  refine (kind_any _ _ _ hi0 hi (by decide) (by decide)).mono ?_
  rintro e w' ⟨rfl, rfl⟩
  have n0 := kind_lo id 256 (by decide)
  have n1 := kind_hi id 256 (by decide)
  obtain ⟨n, hn⟩ := Int.eq_ofNat_of_zero_le n0
  rw [hn] at n1 ⊢
  have hn256 : n < 256 := by omega
  clear n0 hn
  go_wp2_with fail
  refine (kind_any _ _ _ hk0 hk (by decide) (by decide)).mono ?_
  rintro e w' ⟨rfl, rfl⟩
  have k0 := kind_lo kk 6 (by decide)
  have k1 := kind_hi kk 6 (by decide)
  generalize kindOf kk 6 = k at k0 k1 ⊢
  obtain ⟨t0, t1, t2, t3, t4, t5, t6, t7⟩ := Sh.tokCells HS.out.tok
  go_wp2_with fail
  clear t0 t1 t2 t3 t4 t5 t6 t7
  have ⟨c0, hL⟩ := Lone.added hn256 ⟨1, 0, 0, mom 5, [a0, a1, a2, a3, a4, a5, a6, a7]⟩
  refine (Add_any _ _ _ _ _ _ _ _ _ _ _ _ _ HS.out.tab).mono ?_
  rw [c0]
  rintro e w3 ⟨rfl, hC, hT⟩
  have HS' := Lib.hid (HS.out.step hC hT)
  have HT := Lib.hid (show Tried k n [a0, a1, a2, a3, a4, a5, a6, a7] _ 5 0 0 from .new 0 (by omega) hL rfl (.inl rfl) (by omega) (by show (5 : Int) ≤ 5; omega) (by omega))
  clear hC hT c0 hL HS
  generalize begins new ↑n ⟨1, 0, 0, mom 5, [a0, a1, a2, a3, a4, a5, a6, a7]⟩ = T at HS' HT
  have HS := HS'; clear HS'
  go_wp2_with fail
  go_loopw [11, 12, 13, 14] (fun now asked last i wr => ∃ j y z T, 0 ≤ j ∧ j ≤ 4000 ∧ i = .int .i64 j ∧ now = .int .i64 (j + 5) ∧ asked = .int .i64 y ∧ last = .int .i64 z ∧ Tried k n [a0, a1, a2, a3, a4, a5, a6, a7] T (j + 5) y z ∧ Sb w b w.heap.size (arr8 a0 a1 a2 a3 a4 a5 a6 a7) T wr) (fun _ _ _ i _ => 4000 - (intOf i).toNat)
  case atStart => exact ⟨0, 0, 0, T, by omega, by omega, rfl, rfl, rfl, rfl, HT.out, HS.out⟩
  case round =>
    obtain ⟨j, y, z, T, j0, j1, rfl, rfl, rfl, rfl, hT, hS⟩ := hrel
    replace HS := Lib.hid hS
    clear hS HT
    rcases hT with ⟨a, ha, hL, e1, e2, e3, e4, e5⟩ | ⟨q, hq, hL, e1, e2, e3, e4⟩
    · have cs : a = 0 ∨ a = 1 ∨ a = 2 ∨ a = 3 ∨ a = 4 := by omega
      clear ha
      rcases cs with rfl | rfl | rfl | rfl | rfl
      · obtain rfl : y = 0 := e1
        have e4 : j + 5 ≤ 5 := e4
        clear e2
        have HL := Lib.hid hL
        have hst := Lib.hid (show stOf T n = 1 from hL.st hn256)
        have E5 := Lib.hid e5
        clear hL e5
        go_wp2_with fail
        refine (state_any _ _ _ _ HS.out.tab).mono ?_
        rw [hst.out]
        rintro e w4 ⟨rfl, hC⟩
        replace HS := Lib.hid (HS.out.idle hC)
        clear hC
        have q0 : (0 == k && decide (0 < k)) = false := by simp; omega
        by_cases hk0' : k = 0
        · have q1 : ((0 : Int) == k) = true := by simp [hk0']
          have q2 : decide (0 < k) = false := by simp [hk0']
          clear q0 hk0'
          by_cases hnow : j + 5 = 5
          · have hd : Hid (dueL (mom (j + 5)) T 256 = [(n : Int)]) := Lib.hid (by rw [mom_id (by omega) (by omega), HL.out.dueL, if_pos ⟨hn256, by rw [hnow]; simp [told, pa, nx]⟩])
            have HN := Lib.hid hnow
            have g1 : (5 : Int) ≤ j + 5 := by omega
            clear hnow
            go_wp2_with fail
            refine (due_any _ _ _ _ HS.out.tab).mono ?_
            rw [hd.out]
            rintro e w5 ⟨v, rfl, hown, hC, hT⟩
            obtain ⟨_, A, c, rfl, _⟩ := Rd.of_owns hown
            replace HS := Lib.hid (HS.out.step hC hT)
            clear hC hT hown hd
            have HL2 := Lib.hid (show Lone (dueTo (mom (j + 5)) T 256) n (pa 1 [a0, a1, a2, a3, a4, a5, a6, a7]) by have h := HL.out.due hn256 (mom (j + 5)); rw [show dueP (mom (j + 5)) (pa 0 [a0, a1, a2, a3, a4, a5, a6, a7]) = pa 1 [a0, a1, a2, a3, a4, a5, a6, a7] from due_pa 0 (by omega) _ (by rw [mom_id (by omega) (by omega)]; exact HN.out) _] at h; exact h)
            have HN' := HN; clear HN
            go_wp2_with fail
            go_roundw
            case rel => exact ⟨j + 1, 1, j + 5, _, by omega, by omega, rfl, by go_num, rfl, rfl, .new 1 (by omega) HL2.out rfl (.inr (by show j + 5 = (5 : Int); omega)) (by omega) (by show _ ≤ (205 : Int); omega) (by have := E5.out; intro h1 h2; omega), HS.out⟩
            case measure => simp [intOf]; omega
          · exfalso; omega
        · have q1 : ((0 : Int) == k) = false := by simp; omega
          clear q0 hk0'
          by_cases hnow : j + 5 = 5
          · have hd : Hid (dueL (mom (j + 5)) T 256 = [(n : Int)]) := Lib.hid (by rw [mom_id (by omega) (by omega), HL.out.dueL, if_pos ⟨hn256, by rw [hnow]; simp [told, pa, nx]⟩])
            have HN := Lib.hid hnow
            have g1 : (5 : Int) ≤ j + 5 := by omega
            clear hnow
            go_wp2_with fail
            refine (due_any _ _ _ _ HS.out.tab).mono ?_
            rw [hd.out]
            rintro e w5 ⟨v, rfl, hown, hC, hT⟩
            obtain ⟨_, A, c, rfl, _⟩ := Rd.of_owns hown
            replace HS := Lib.hid (HS.out.step hC hT)
            clear hC hT hown hd
            have HL2 := Lib.hid (show Lone (dueTo (mom (j + 5)) T 256) n (pa 1 [a0, a1, a2, a3, a4, a5, a6, a7]) by have h := HL.out.due hn256 (mom (j + 5)); rw [show dueP (mom (j + 5)) (pa 0 [a0, a1, a2, a3, a4, a5, a6, a7]) = pa 1 [a0, a1, a2, a3, a4, a5, a6, a7] from due_pa 0 (by omega) _ (by rw [mom_id (by omega) (by omega)]; exact HN.out) _] at h; exact h)
            have HN' := HN; clear HN
            go_wp2_with fail
            go_roundw
            case rel => exact ⟨j + 1, 1, j + 5, _, by omega, by omega, rfl, by go_num, rfl, rfl, .new 1 (by omega) HL2.out rfl (.inr (by show j + 5 = (5 : Int); omega)) (by omega) (by show _ ≤ (205 : Int); omega) (by have := E5.out; intro h1 h2; omega), HS.out⟩
            case measure => simp [intOf]; omega
          · exfalso; omega
      · obtain rfl : y = 1 := e1
        have e4 : j + 5 ≤ 205 := e4
        obtain rfl : z = 5 := by rcases e2 with h | h; exact absurd h (by decide); exact h
        have HL := Lib.hid hL
        have hst := Lib.hid (show stOf T n = 1 from hL.st hn256)
        have E5 := Lib.hid e5
        clear hL e5
        go_wp2_with fail
        refine (state_any _ _ _ _ HS.out.tab).mono ?_
        rw [hst.out]
        rintro e w4 ⟨rfl, hC⟩
        replace HS := Lib.hid (HS.out.idle hC)
        clear hC
        by_cases hka : k = 1
        · subst hka
          have ⟨r1, r2⟩ := HL.out.answer hn256 rfl
          have R1 := Lib.hid (show answers T n [a0, a1, a2, a3, a4, a5, a6, a7] = true from r1)
          have R2 := Lib.hid (show stOf (answer T n [a0, a1, a2, a3, a4, a5, a6, a7]) n = 2 from r2.st hn256)
          clear r1 r2
          obtain ⟨t0, t1, t2, t3, t4, t5, t6, t7⟩ := Sh.tokCells HS.out.tok
          go_wp2_with fail
          clear t0 t1 t2 t3 t4 t5 t6 t7
          refine (answer_any _ _ _ _ _ _ _ _ _ _ _ _ HS.out.tab).mono ?_
          rw [R1.out]
          rintro e w5 ⟨rfl, hC, hT⟩
          replace HS := Lib.hid (HS.out.step hC hT)
          clear hC hT
          go_wp2_with fail
          refine (state_any _ _ _ _ HS.out.tab).mono ?_
          rw [R2.out]
          rintro e w6 ⟨rfl, hC⟩
          replace HS := Lib.hid (HS.out.idle hC)
          clear hC
          go_wp2_with fail
          go_ret
          exact ⟨rfl, HS.out.chg⟩
        · have q1 : ((1 : Int) == k) = false := by simp; omega
          have HK := Lib.hid hka
          by_cases hnow : j + 5 = 205
          · have hd : Hid (dueL (mom (j + 5)) T 256 = [(n : Int)]) := Lib.hid (by rw [mom_id (by omega) (by omega), HL.out.dueL, if_pos ⟨hn256, by rw [hnow]; simp [told, pa, nx]⟩])
            have HN := Lib.hid hnow
            have g1 : (205 : Int) ≤ j + 5 := by omega
            clear hnow
            go_wp2_with fail
            refine (due_any _ _ _ _ HS.out.tab).mono ?_
            rw [hd.out]
            rintro e w5 ⟨v, rfl, hown, hC, hT⟩
            obtain ⟨_, A, c, rfl, _⟩ := Rd.of_owns hown
            replace HS := Lib.hid (HS.out.step hC hT)
            clear hC hT hown hd
            have HL2 := Lib.hid (show Lone (dueTo (mom (j + 5)) T 256) n (pa 2 [a0, a1, a2, a3, a4, a5, a6, a7]) by have h := HL.out.due hn256 (mom (j + 5)); rw [show dueP (mom (j + 5)) (pa 1 [a0, a1, a2, a3, a4, a5, a6, a7]) = pa 2 [a0, a1, a2, a3, a4, a5, a6, a7] from due_pa 1 (by omega) _ (by rw [mom_id (by omega) (by omega)]; exact HN.out) _] at h; exact h)
            have HN' := HN; clear HN
            have hsh : Op.shift .shl .i64 100 .i64 1 = pure (Value.int .i64 200) := by rw [shift_shl_any _ _ _ _ (by decide)]; rfl
            go_wp2_with fail
            go_roundw
            case rel => exact ⟨j + 1, 2, j + 5, _, by omega, by omega, rfl, by go_num, rfl, rfl, .new 2 (by omega) HL2.out rfl (.inr (by show j + 5 = (205 : Int); omega)) (by omega) (by show _ ≤ (605 : Int); omega) (by have := E5.out; have := HK.out; intro h1 h2; omega), HS.out⟩
            case measure => simp [intOf]; omega
          · have hd : Hid (dueL (mom (j + 5)) T 256 = []) := Lib.hid (by rw [mom_id (by omega) (by omega), HL.out.dueL, if_neg (fun h => by have := h.2; simp [told, pa, nx] at this <;> omega)])
            have HL2 := Lib.hid (show Lone (dueTo (mom (j + 5)) T 256) n (pa 1 [a0, a1, a2, a3, a4, a5, a6, a7]) from by have h := HL.out.due hn256 (mom (j + 5)); rw [dueP, if_pos (.inr (by rw [mom_id (by omega) (by omega)]; show _ < (205 : Int); omega))] at h; exact h)
            go_wp2_with fail
            refine (due_any _ _ _ _ HS.out.tab).mono ?_
            rw [hd.out]
            rintro e w5 ⟨v, rfl, hown, hC, hT⟩
            obtain ⟨_, A, c, rfl, _⟩ := Rd.of_owns hown
            replace HS := Lib.hid (HS.out.step hC hT)
            clear hC hT hown hd
            go_wp2_with fail
            go_roundw
            case rel => exact ⟨j + 1, 1, 5, _, by omega, by omega, rfl, by go_num, rfl, rfl, .new 1 (by omega) HL2.out rfl (.inr rfl) (by omega) (by show _ ≤ (205 : Int); omega) E5.out, HS.out⟩
            case measure => simp [intOf]; omega
      · obtain rfl : y = 2 := e1
        have e4 : j + 5 ≤ 605 := e4
        obtain rfl : z = 205 := by rcases e2 with h | h; exact absurd h (by decide); exact h
        have HL := Lib.hid hL
        have hst := Lib.hid (show stOf T n = 1 from hL.st hn256)
        have E5 := Lib.hid e5
        clear hL e5
        go_wp2_with fail
        refine (state_any _ _ _ _ HS.out.tab).mono ?_
        rw [hst.out]
        rintro e w4 ⟨rfl, hC⟩
        replace HS := Lib.hid (HS.out.idle hC)
        clear hC
        by_cases hka : k = 2
        · subst hka
          have ⟨r1, r2⟩ := HL.out.answer hn256 rfl
          have R1 := Lib.hid (show answers T n [a0, a1, a2, a3, a4, a5, a6, a7] = true from r1)
          have R2 := Lib.hid (show stOf (answer T n [a0, a1, a2, a3, a4, a5, a6, a7]) n = 2 from r2.st hn256)
          clear r1 r2
          obtain ⟨t0, t1, t2, t3, t4, t5, t6, t7⟩ := Sh.tokCells HS.out.tok
          go_wp2_with fail
          clear t0 t1 t2 t3 t4 t5 t6 t7
          refine (answer_any _ _ _ _ _ _ _ _ _ _ _ _ HS.out.tab).mono ?_
          rw [R1.out]
          rintro e w5 ⟨rfl, hC, hT⟩
          replace HS := Lib.hid (HS.out.step hC hT)
          clear hC hT
          go_wp2_with fail
          refine (state_any _ _ _ _ HS.out.tab).mono ?_
          rw [R2.out]
          rintro e w6 ⟨rfl, hC⟩
          replace HS := Lib.hid (HS.out.idle hC)
          clear hC
          go_wp2_with fail
          go_ret
          exact ⟨rfl, HS.out.chg⟩
        · have q1 : ((2 : Int) == k) = false := by simp; omega
          have HK := Lib.hid hka
          by_cases hnow : j + 5 = 605
          · have hd : Hid (dueL (mom (j + 5)) T 256 = [(n : Int)]) := Lib.hid (by rw [mom_id (by omega) (by omega), HL.out.dueL, if_pos ⟨hn256, by rw [hnow]; simp [told, pa, nx]⟩])
            have HN := Lib.hid hnow
            have g1 : (605 : Int) ≤ j + 5 := by omega
            clear hnow
            go_wp2_with fail
            refine (due_any _ _ _ _ HS.out.tab).mono ?_
            rw [hd.out]
            rintro e w5 ⟨v, rfl, hown, hC, hT⟩
            obtain ⟨_, A, c, rfl, _⟩ := Rd.of_owns hown
            replace HS := Lib.hid (HS.out.step hC hT)
            clear hC hT hown hd
            have HL2 := Lib.hid (show Lone (dueTo (mom (j + 5)) T 256) n (pa 3 [a0, a1, a2, a3, a4, a5, a6, a7]) by have h := HL.out.due hn256 (mom (j + 5)); rw [show dueP (mom (j + 5)) (pa 2 [a0, a1, a2, a3, a4, a5, a6, a7]) = pa 3 [a0, a1, a2, a3, a4, a5, a6, a7] from due_pa 2 (by omega) _ (by rw [mom_id (by omega) (by omega)]; exact HN.out) _] at h; exact h)
            have HN' := HN; clear HN
            have hsh : Op.shift .shl .i64 100 .i64 2 = pure (Value.int .i64 400) := by rw [shift_shl_any _ _ _ _ (by decide)]; rfl
            go_wp2_with fail
            go_roundw
            case rel => exact ⟨j + 1, 3, j + 5, _, by omega, by omega, rfl, by go_num, rfl, rfl, .new 3 (by omega) HL2.out rfl (.inr (by show j + 5 = (605 : Int); omega)) (by omega) (by show _ ≤ (1405 : Int); omega) (by have := E5.out; have := HK.out; intro h1 h2; omega), HS.out⟩
            case measure => simp [intOf]; omega
          · have hd : Hid (dueL (mom (j + 5)) T 256 = []) := Lib.hid (by rw [mom_id (by omega) (by omega), HL.out.dueL, if_neg (fun h => by have := h.2; simp [told, pa, nx] at this <;> omega)])
            have HL2 := Lib.hid (show Lone (dueTo (mom (j + 5)) T 256) n (pa 2 [a0, a1, a2, a3, a4, a5, a6, a7]) from by have h := HL.out.due hn256 (mom (j + 5)); rw [dueP, if_pos (.inr (by rw [mom_id (by omega) (by omega)]; show _ < (605 : Int); omega))] at h; exact h)
            go_wp2_with fail
            refine (due_any _ _ _ _ HS.out.tab).mono ?_
            rw [hd.out]
            rintro e w5 ⟨v, rfl, hown, hC, hT⟩
            obtain ⟨_, A, c, rfl, _⟩ := Rd.of_owns hown
            replace HS := Lib.hid (HS.out.step hC hT)
            clear hC hT hown hd
            go_wp2_with fail
            go_roundw
            case rel => exact ⟨j + 1, 2, 205, _, by omega, by omega, rfl, by go_num, rfl, rfl, .new 2 (by omega) HL2.out rfl (.inr rfl) (by omega) (by show _ ≤ (605 : Int); omega) E5.out, HS.out⟩
            case measure => simp [intOf]; omega
      · obtain rfl : y = 3 := e1
        have e4 : j + 5 ≤ 1405 := e4
        obtain rfl : z = 605 := by rcases e2 with h | h; exact absurd h (by decide); exact h
        have HL := Lib.hid hL
        have hst := Lib.hid (show stOf T n = 1 from hL.st hn256)
        have E5 := Lib.hid e5
        clear hL e5
        go_wp2_with fail
        refine (state_any _ _ _ _ HS.out.tab).mono ?_
        rw [hst.out]
        rintro e w4 ⟨rfl, hC⟩
        replace HS := Lib.hid (HS.out.idle hC)
        clear hC
        by_cases hka : k = 3
        · subst hka
          have ⟨r1, r2⟩ := HL.out.answer hn256 rfl
          have R1 := Lib.hid (show answers T n [a0, a1, a2, a3, a4, a5, a6, a7] = true from r1)
          have R2 := Lib.hid (show stOf (answer T n [a0, a1, a2, a3, a4, a5, a6, a7]) n = 2 from r2.st hn256)
          clear r1 r2
          obtain ⟨t0, t1, t2, t3, t4, t5, t6, t7⟩ := Sh.tokCells HS.out.tok
          go_wp2_with fail
          clear t0 t1 t2 t3 t4 t5 t6 t7
          refine (answer_any _ _ _ _ _ _ _ _ _ _ _ _ HS.out.tab).mono ?_
          rw [R1.out]
          rintro e w5 ⟨rfl, hC, hT⟩
          replace HS := Lib.hid (HS.out.step hC hT)
          clear hC hT
          go_wp2_with fail
          refine (state_any _ _ _ _ HS.out.tab).mono ?_
          rw [R2.out]
          rintro e w6 ⟨rfl, hC⟩
          replace HS := Lib.hid (HS.out.idle hC)
          clear hC
          go_wp2_with fail
          go_ret
          exact ⟨rfl, HS.out.chg⟩
        · have q1 : ((3 : Int) == k) = false := by simp; omega
          have HK := Lib.hid hka
          by_cases hnow : j + 5 = 1405
          · have hd : Hid (dueL (mom (j + 5)) T 256 = [(n : Int)]) := Lib.hid (by rw [mom_id (by omega) (by omega), HL.out.dueL, if_pos ⟨hn256, by rw [hnow]; simp [told, pa, nx]⟩])
            have HN := Lib.hid hnow
            have g1 : (1405 : Int) ≤ j + 5 := by omega
            clear hnow
            go_wp2_with fail
            refine (due_any _ _ _ _ HS.out.tab).mono ?_
            rw [hd.out]
            rintro e w5 ⟨v, rfl, hown, hC, hT⟩
            obtain ⟨_, A, c, rfl, _⟩ := Rd.of_owns hown
            replace HS := Lib.hid (HS.out.step hC hT)
            clear hC hT hown hd
            have HL2 := Lib.hid (show Lone (dueTo (mom (j + 5)) T 256) n (pa 4 [a0, a1, a2, a3, a4, a5, a6, a7]) by have h := HL.out.due hn256 (mom (j + 5)); rw [show dueP (mom (j + 5)) (pa 3 [a0, a1, a2, a3, a4, a5, a6, a7]) = pa 4 [a0, a1, a2, a3, a4, a5, a6, a7] from due_pa 3 (by omega) _ (by rw [mom_id (by omega) (by omega)]; exact HN.out) _] at h; exact h)
            have HN' := HN; clear HN
            have hsh : Op.shift .shl .i64 100 .i64 3 = pure (Value.int .i64 800) := by rw [shift_shl_any _ _ _ _ (by decide)]; rfl
            go_wp2_with fail
            go_roundw
            case rel => exact ⟨j + 1, 4, j + 5, _, by omega, by omega, rfl, by go_num, rfl, rfl, .new 4 (by omega) HL2.out rfl (.inr (by show j + 5 = (1405 : Int); omega)) (by omega) (by show _ ≤ (3005 : Int); omega) (by have := E5.out; have := HK.out; intro h1 h2; omega), HS.out⟩
            case measure => simp [intOf]; omega
          · have hd : Hid (dueL (mom (j + 5)) T 256 = []) := Lib.hid (by rw [mom_id (by omega) (by omega), HL.out.dueL, if_neg (fun h => by have := h.2; simp [told, pa, nx] at this <;> omega)])
            have HL2 := Lib.hid (show Lone (dueTo (mom (j + 5)) T 256) n (pa 3 [a0, a1, a2, a3, a4, a5, a6, a7]) from by have h := HL.out.due hn256 (mom (j + 5)); rw [dueP, if_pos (.inr (by rw [mom_id (by omega) (by omega)]; show _ < (1405 : Int); omega))] at h; exact h)
            go_wp2_with fail
            refine (due_any _ _ _ _ HS.out.tab).mono ?_
            rw [hd.out]
            rintro e w5 ⟨v, rfl, hown, hC, hT⟩
            obtain ⟨_, A, c, rfl, _⟩ := Rd.of_owns hown
            replace HS := Lib.hid (HS.out.step hC hT)
            clear hC hT hown hd
            go_wp2_with fail
            go_roundw
            case rel => exact ⟨j + 1, 3, 605, _, by omega, by omega, rfl, by go_num, rfl, rfl, .new 3 (by omega) HL2.out rfl (.inr rfl) (by omega) (by show _ ≤ (1405 : Int); omega) E5.out, HS.out⟩
            case measure => simp [intOf]; omega
      · obtain rfl : y = 4 := e1
        have e4 : j + 5 ≤ 3005 := e4
        obtain rfl : z = 1405 := by rcases e2 with h | h; exact absurd h (by decide); exact h
        have HL := Lib.hid hL
        have hst := Lib.hid (show stOf T n = 1 from hL.st hn256)
        have E5 := Lib.hid e5
        clear hL e5
        go_wp2_with fail
        refine (state_any _ _ _ _ HS.out.tab).mono ?_
        rw [hst.out]
        rintro e w4 ⟨rfl, hC⟩
        replace HS := Lib.hid (HS.out.idle hC)
        clear hC
        by_cases hka : k = 4
        · subst hka
          have ⟨r1, r2⟩ := HL.out.answer hn256 rfl
          have R1 := Lib.hid (show answers T n [a0, a1, a2, a3, a4, a5, a6, a7] = true from r1)
          have R2 := Lib.hid (show stOf (answer T n [a0, a1, a2, a3, a4, a5, a6, a7]) n = 2 from r2.st hn256)
          clear r1 r2
          obtain ⟨t0, t1, t2, t3, t4, t5, t6, t7⟩ := Sh.tokCells HS.out.tok
          go_wp2_with fail
          clear t0 t1 t2 t3 t4 t5 t6 t7
          refine (answer_any _ _ _ _ _ _ _ _ _ _ _ _ HS.out.tab).mono ?_
          rw [R1.out]
          rintro e w5 ⟨rfl, hC, hT⟩
          replace HS := Lib.hid (HS.out.step hC hT)
          clear hC hT
          go_wp2_with fail
          refine (state_any _ _ _ _ HS.out.tab).mono ?_
          rw [R2.out]
          rintro e w6 ⟨rfl, hC⟩
          replace HS := Lib.hid (HS.out.idle hC)
          clear hC
          go_wp2_with fail
          go_ret
          exact ⟨rfl, HS.out.chg⟩
        · have q1 : ((4 : Int) == k) = false := by simp; omega
          have HK := Lib.hid hka
          by_cases hnow : j + 5 = 3005
          · have hd : Hid (dueL (mom (j + 5)) T 256 = []) := Lib.hid (by rw [mom_id (by omega) (by omega), HL.out.dueL, if_neg (fun h => by have := h.2; rw [hnow] at this; simp [told, pa] at this)])
            have HN := Lib.hid hnow
            have g1 : (3005 : Int) ≤ j + 5 := by omega
            clear hnow
            go_wp2_with fail
            refine (due_any _ _ _ _ HS.out.tab).mono ?_
            rw [hd.out]
            rintro e w5 ⟨v, rfl, hown, hC, hT⟩
            obtain ⟨_, A, c, rfl, _⟩ := Rd.of_owns hown
            replace HS := Lib.hid (HS.out.step hC hT)
            clear hC hT hown hd
            have HL2 := Lib.hid (HL.out.due hn256 (mom (j + 5)))
            have HQ := Lib.hid (show (dueP (mom (j + 5)) (pa 4 [a0, a1, a2, a3, a4, a5, a6, a7])).st = 4 from due_pa4 _ (by rw [mom_id (by omega) (by omega)]; exact HN.out) _)
            have HN' := HN; clear HN
            go_wp2_with fail
            go_roundw
            case rel => exact ⟨j + 1, 4, 1405, _, by omega, by omega, rfl, by go_num, rfl, rfl, .failed _ HQ.out HL2.out rfl (by have := E5.out; have := HK.out; intro h; omega) (by omega) (by omega), HS.out⟩
            case measure => simp [intOf]; omega
          · have hd : Hid (dueL (mom (j + 5)) T 256 = []) := Lib.hid (by rw [mom_id (by omega) (by omega), HL.out.dueL, if_neg (fun h => by have := h.2; simp [told, pa, nx] at this <;> omega)])
            have HL2 := Lib.hid (show Lone (dueTo (mom (j + 5)) T 256) n (pa 4 [a0, a1, a2, a3, a4, a5, a6, a7]) from by have h := HL.out.due hn256 (mom (j + 5)); rw [dueP, if_pos (.inr (by rw [mom_id (by omega) (by omega)]; show _ < (3005 : Int); omega))] at h; exact h)
            go_wp2_with fail
            refine (due_any _ _ _ _ HS.out.tab).mono ?_
            rw [hd.out]
            rintro e w5 ⟨v, rfl, hown, hC, hT⟩
            obtain ⟨_, A, c, rfl, _⟩ := Rd.of_owns hown
            replace HS := Lib.hid (HS.out.step hC hT)
            clear hC hT hown hd
            go_wp2_with fail
            go_roundw
            case rel => exact ⟨j + 1, 4, 1405, _, by omega, by omega, rfl, by go_num, rfl, rfl, .new 4 (by omega) HL2.out rfl (.inr rfl) (by omega) (by show _ ≤ (3005 : Int); omega) E5.out, HS.out⟩
            case measure => simp [intOf]; omega
    · obtain rfl : y = 4 := e1
      have HL := Lib.hid hL
      have hst := Lib.hid ((hL.st hn256).trans hq)
      clear hL
      go_wp2_with fail
      refine (state_any _ _ _ _ HS.out.tab).mono ?_
      rw [hst.out]
      rintro e w4 ⟨rfl, hC⟩
      replace HS := Lib.hid (HS.out.idle hC)
      clear hC
      have q0 : (decide (0 < k) && decide (k ≤ 4)) = false := by simp; omega
      by_cases hk1 : 0 < k
      · have q1 : decide (0 < k) = true := by simpa using hk1
        have q2 : decide (k ≤ 4) = false := by simp; omega
        clear q0 hk1 e2
        go_wp2_with fail
        refine (state_any _ _ _ _ HS.out.tab).mono ?_
        rw [hst.out]
        rintro e w5 ⟨rfl, hC⟩
        replace HS := Lib.hid (HS.out.idle hC)
        go_wp2_with fail
        go_ret
        exact ⟨rfl, HS.out.chg⟩
      · have q1 : decide (0 < k) = false := by simpa using hk1
        clear q0 hk1 e2
        go_wp2_with fail
        refine (state_any _ _ _ _ HS.out.tab).mono ?_
        rw [hst.out]
        rintro e w5 ⟨rfl, hC⟩
        replace HS := Lib.hid (HS.out.idle hC)
        go_wp2_with fail
        go_ret
        exact ⟨rfl, HS.out.chg⟩
theorem tries_walk8 (id kk : Int) (l : List Int) (hl : l.length = 8) (w : World) (hi0 : -9223372036854775808 ≤ id) (hi : id ≤ 9223372036854775807) (hk0 : -9223372036854775808 ≤ kk) (hk : kk ≤ 9223372036854775807) :
    Calls Try.prog 4 #[.int .i64 id, .agg (l.map (Value.int .u8)).toArray, .int .i64 kk] w (ShownTo w) := by
  obtain ⟨a0, a1, a2, a3, a4, a5, a6, a7, rfl⟩ := eight hl
  exact tries_walk id kk a0 a1 a2 a3 a4 a5 a6 a7 w hi0 hi hk0 hk
end Go.Proofs.Ytiijnhgafadokaa
