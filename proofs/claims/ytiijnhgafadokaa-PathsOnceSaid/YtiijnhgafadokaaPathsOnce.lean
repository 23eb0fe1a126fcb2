/-
  PathsOnce, walked: it returns true.
-/
import Derived.Test.YtiijnhgafadokaaPathsTries
import Derived.Test.YtiijnhgafadokaaPathsOncePure
import Derived.Deep.WholeRow
import Derived.Deep.DeepCutAuto
import Derived.Deep.CutBlock
namespace Go.Proofs.Ytiijnhgafadokaa
open Go.RowKit Paths
set_option linter.unusedVariables false

/-- A call's record. -/
structure OpRec where
  kind : Int
  id : Int
  n : Int
  tok : List Int
structure OpOk (z : OpRec) : Prop where
  k0 : -9223372036854775808 ≤ z.kind
  k1 : z.kind ≤ 9223372036854775807
  tok : z.tok.length = 8
def opCells (z : OpRec) : List Value := [.int .i64 z.kind, .int .i64 z.id, .int .i64 z.n] ++ z.tok.map (Value.int .u8)

theorem stOf_nat (T : Tab) {m : Nat} (h : m < 256) : stOf T (m : Int) = (T m).st := by rw [stOf_in (by omega) (by omega), Int.toNat_natCast]
/-- The row of the used numbers as cells. -/
def usedArr (u : Nat → Bool) : Array Value := ((List.range 256).map fun i => Value.bool (u i)).toArray
theorem usedArr_get (u : Nat → Bool) {i : Nat} (hi : i < 256) : (usedArr u)[i]? = some (.bool (u i)) := by
  simp [usedArr, hi]
theorem usedArr_set (u : Nat → Bool) {k : Nat} (hk : k < 256) : (usedArr u).setIfInBounds k (.bool true) = usedArr (usedUp u k) := by
  apply Array.ext_getElem?
  intro i
  rw [Array.getElem?_setIfInBounds]
  by_cases hi : i < 256
  · rw [usedArr_get _ hi, usedArr_get _ hi, usedUp]
    by_cases e : k = i
    · subst e; simp [usedArr, hi]
    · rw [if_neg e, if_neg (fun h => e h.symm)]
  · have h1 : (usedArr u)[i]? = .none := by simp [usedArr]; omega
    have h2 : (usedArr (usedUp u k))[i]? = .none := by simp [usedArr]; omega
    rw [h1, h2, if_neg (by omega)]
theorem usedArr_new : usedArr (fun _ => false) = Try.zeroCells26 := by kernel_rfl

/-- Block b the table, block c the used numbers. -/
structure On (w0 : World) (b c : Nat) (T : Tab) (u : Nat → Bool) (w : World) : Prop where
  tab : TabAt w b T
  arr : w.heap[c]? = some (.cells (usedArr u) 26 (0,0))
  chg : Chg Nowhere w0 w
  ne : b ≠ c
  newb : w0.heap.size ≤ b
  newc : w0.heap.size ≤ c
theorem On.step {w0 : World} {b c : Nat} {T T' : Tab} {u : Nat → Bool} {w w' : World} (h : On w0 b c T u w) (hc : Chg (At b) w w') (ht : TabAt w' b T') : On w0 b c T' u w' :=
  ⟨ht, hc.keep h.arr (fun e => h.ne e.symm), h.chg.trans hc (fun i hi e => by have : i = b := e; have := h.newb; omega), h.ne, h.newb, h.newc⟩
theorem On.idle {w0 : World} {b c : Nat} {T : Tab} {u : Nat → Bool} {w w' : World} (h : On w0 b c T u w) (hc : Chg Nowhere w w') : On w0 b c T u w' :=
  ⟨h.tab.chg hc (not_nowhere _), hc.same h.arr, h.chg.trans' hc, h.ne, h.newb, h.newc⟩
theorem On.mark {w0 : World} {b c : Nat} {T : Tab} {u : Nat → Bool} {w : World} (h : On w0 b c T u w) {k : Nat} (hk : k < 256) : On w0 b c T (usedUp u k) (w.setCell ⟨c, k, .none⟩ (.bool true)) :=
  ⟨h.tab.keep (set_other _ h.ne), by rw [set_blk _ h.arr, usedArr_set u hk], h.chg.put (.inr h.newc), h.ne, h.newb, h.newc⟩
theorem On.cell {w0 : World} {b c : Nat} {T : Tab} {u : Nat → Bool} {w : World} (h : On w0 b c T u w) {k : Nat} (hk : k < 256) : w.cell? ⟨c, k, .none⟩ = some (.bool (u k)) := by
  rw [cell_blk h.arr, usedArr_get u hk]

/-- The cells of the record that a round has taken. -/
def RecAt (w : World) (d : Nat) (zk id zn q0 q1 q2 q3 q4 q5 q6 q7 : Int) : Prop :=
  w.heap[d]? = some (.cells #[.int .i64 zk, .int .i64 id, .int .i64 zn, .int .u8 q0, .int .u8 q1, .int .u8 q2, .int .u8 q3, .int .u8 q4, .int .u8 q5, .int .u8 q6, .int .u8 q7] 29 (0,0))
theorem RecAt.all {w : World} {d : Nat} {zk id zn q0 q1 q2 q3 q4 q5 q6 q7 : Int} (h : RecAt w d zk id zn q0 q1 q2 q3 q4 q5 q6 q7) :
    w.cell? ⟨d, 0, .none⟩ = some (.int .i64 zk) ∧ w.cell? ⟨d, 1, .none⟩ = some (.int .i64 id) ∧ w.cell? ⟨d, 2, .none⟩ = some (.int .i64 zn) ∧
    w.cell? ⟨d, 3, .none⟩ = some (.int .u8 q0) ∧ w.cell? ⟨d, 4, .none⟩ = some (.int .u8 q1) ∧ w.cell? ⟨d, 5, .none⟩ = some (.int .u8 q2) ∧ w.cell? ⟨d, 6, .none⟩ = some (.int .u8 q3) ∧
    w.cell? ⟨d, 7, .none⟩ = some (.int .u8 q4) ∧ w.cell? ⟨d, 8, .none⟩ = some (.int .u8 q5) ∧ w.cell? ⟨d, 9, .none⟩ = some (.int .u8 q6) ∧ w.cell? ⟨d, 10, .none⟩ = some (.int .u8 q7) :=
  ⟨cell_blk h, cell_blk h, cell_blk h, cell_blk h, cell_blk h, cell_blk h, cell_blk h, cell_blk h, cell_blk h, cell_blk h, cell_blk h⟩
theorem RecAt.chg {w w' : World} {d : Nat} {zk id zn q0 q1 q2 q3 q4 q5 q6 q7 : Int} {S : Nat → Prop} (h : RecAt w d zk id zn q0 q1 q2 q3 q4 q5 q6 q7) (hc : Chg S w w') (hn : ¬ S d) : RecAt w' d zk id zn q0 q1 q2 q3 q4 q5 q6 q7 := hc.keep h hn
/-- What holds when an op is done. -/
def After (w0 : World) (b c : Nat) (w : World) : Prop := ∃ T u, Inv T u ∧ On w0 b c T u w

set_option maxHeartbeats 3200000 in
set_option maxRecDepth 100000 in
theorem once_walk (A : Option Addr) (cap : Nat) (zs : List {z : OpRec // OpOk z}) (w : World) (hlen : zs.length ≤ cap) (hcap : cap ≤ maxLen)
    (hz : 0 < zs.length → ∃ g o, A = some ⟨g, o, .none⟩ ∧ g < w.heap.size ∧ ∀ (i : Nat) z, zs[i]? = some z → ∀ j u, (opCells z.1)[j]? = some u → w.cell? ⟨g, o + (i * 11 + j), .none⟩ = some u) :
    Calls Try.prog 3 #[.slice A zs.length cap] w (ShownTo w) := by
  have HZ := Lib.hid hz; clear hz
  unfold maxLen at hcap
  go_enter Try.func3, Try.ntmps3
  go_wp2_with fail
  refine (shown_any _).mono ?_
  rintro e w1 ⟨rfl, hC1⟩
  have HC1 := Lib.hid hC1; clear hC1
  go_wp2_with fail
  refine (new_any _).mono ?_
  rintro e w2 ⟨b, rfl, hT, hC, hb⟩
  have hlt := hT.lt
  have hs1 := HC1.out.size
  have hs2 := hC.size
  have HO := Lib.hid (show On w b w2.heap.size new (fun _ => false) (w2.alloc (.cells Try.zeroCells26 26)) from
    ⟨hT.chg ((Chg.refl Nowhere _).alloc _) (not_nowhere _), by rw [usedArr_new]; exact alloc_new _ _, (HC1.out.trans' hC).alloc _, by omega, by omega, by omega⟩)
  clear hC hT HC1
  have hst := run_storeCells_new (P := Try.prog) w2 26 Try.zeroCells26 Try.zeroCells26 (by kernel_rfl) rfl (by kernel_rfl)
  go_wp2_with fail
  clear hst
  go_loopw [6] (fun i wr => ∃ k : Nat, ∃ T u, k ≤ zs.length ∧ k ≤ 100 ∧ i = .int .i64 k ∧ Inv T u ∧ On w b w2.heap.size T u wr) (fun i _ => 100 - (intOf i).toNat)
  case atStart => exact ⟨0, _, _, by omega, by omega, rfl, Inv.new, HO.out⟩
  case round =>
    obtain ⟨k, T, u, hk, hk1, rfl, hI, hO⟩ := hrel
    replace HO := Lib.hid hO
    have HI := Lib.hid hI
    clear hO hI
    by_cases hk' : k < zs.length
    · by_cases hk2 : k < 100
      · obtain ⟨g, o, rfl, hg, hcell⟩ := HZ.out (by omega)
        obtain ⟨⟨z, zok⟩, hzk⟩ : ∃ z, zs[k]? = some z := ⟨zs[k], List.getElem?_eq_getElem hk'⟩
        obtain ⟨q0, q1, q2, q3, q4, q5, q6, q7, hq⟩ := eight zok.tok
        have c : ∀ j x, (opCells z)[j]? = some x → wr.cell? ⟨g, o + k * 11 + j, .none⟩ = some x := fun j x h => by
          rw [Nat.add_assoc]
          exact (HO.out.chg.cell (p := ⟨g, o + (k * 11 + j), .none⟩) hg (not_nowhere _)).trans (hcell k _ hzk j x h)
        simp only [opCells, hq] at c
        have c0 : wr.cell? ⟨g, o + k * 11, .none⟩ = _ := c 0 _ rfl
        have c1 := c 1 _ rfl
        have c2 := c 2 _ rfl
        have c3 := c 3 _ rfl
        have c4 := c 4 _ rfl
        have c5 := c 5 _ rfl
        have c6 := c 6 _ rfl
        have c7 := c 7 _ rfl
        have c8 := c 8 _ rfl
        have c9 := c 9 _ rfl
        have c10 := c 10 _ rfl
        have hQ := Lib.hid hq
        have zk0 := zok.k0
        have zk1 := zok.k1
        clear c hcell hzk hq zok
        generalize z.kind = zk at c0 zk0 zk1
        generalize z.id = id at c1
        generalize z.n = zn at c2
        clear hQ
        have hin : 0 ≤ id ∧ id < 256 ∨ id < 0 ∨ 255 < id := by omega
        have i0 := kind_lo zk 8 (by decide)
        have i1 := kind_hi zk 8 (by decide)
        have inB : (decide (0 ≤ id) = true ∧ decide (id ≤ 255) = true ∧ inR id = true) ∨ (decide (0 ≤ id) = false ∧ inR id = false) ∨ (decide (0 ≤ id) = true ∧ decide (id ≤ 255) = false ∧ inR id = false) := by
          simp [inR]; omega
        rcases inB with ⟨b1, b2, b3⟩ | ⟨b1, b3⟩ | ⟨b1, b2, b3⟩
        · go_upto_block 2 with (go_at_call 17; refine (kind_any _ _ _ zk0 zk1 (by decide) (by decide)).mono ?_; rintro e w' ⟨rfl, rfl⟩)
          go_cut [] (fun wx => After w b w2.heap.size wx)
          case first =>
            clear c0 c1 c2 c3 c4 c5 c6 c7 c8 c9 c10
            have HR := Lib.hid (show RecAt (wr.alloc (.cells #[.int .i64 zk, .int .i64 id, .int .i64 zn, .int .u8 q0, .int .u8 q1, .int .u8 q2, .int .u8 q3, .int .u8 q4, .int .u8 q5, .int .u8 q6, .int .u8 q7] 29)) wr.heap.size zk id zn q0 q1 q2 q3 q4 q5 q6 q7 from alloc_new _ _)
            have hbd : b < wr.heap.size := HO.out.tab.lt
            have hcd : w2.heap.size < wr.heap.size := lt_blk HO.out.arr
            replace HO := Lib.hid (HO.out.idle ((Chg.refl _ _).alloc (.cells #[.int .i64 zk, .int .i64 id, .int .i64 zn, .int .u8 q0, .int .u8 q1, .int .u8 q2, .int .u8 q3, .int .u8 q4, .int .u8 q5, .int .u8 q6, .int .u8 q7] 29)))
            have nb : ¬ At b wr.heap.size := fun e => by have : wr.heap.size = b := e; omega
            have kq : kindOf zk 8 = 0 ∨ kindOf zk 8 = 1 ∨ kindOf zk 8 = 2 ∨ kindOf zk 8 = 3 ∨ kindOf zk 8 = 4 ∨ kindOf zk 8 = 5 ∨ 5 < kindOf zk 8 := by omega
            rcases kq with hk | hk | hk | hk | hk | hk | hk
            · as_aux_lemma =>
                have t0 : (kindOf zk 8 == 0) = true := by simp [hk]
                clear hk
                by_cases hz0 : code T id = 0
                · have ⟨hi2, hu⟩ := HI.out.add hz0 ⟨1, 0, 0, mom zn, [q0, q1, q2, q3, q4, q5, q6, q7]⟩ (by show (1 : Int) ≠ 0; decide)
                  have HI2 := Lib.hid hi2
                  have HU := Lib.hid hu
                  have HZ0 := Lib.hid hz0
                  clear hi2 hu hz0
                  obtain ⟨d0, d1, d2, d3, d4, d5, d6, d7, d8, d9, d10⟩ := RecAt.all HR.out
                  go_wp2_with (go_at_call 17; refine (kind_any _ _ _ zk0 zk1 (by decide) (by decide)).mono ?_; rintro e w' ⟨rfl, rfl⟩)
                  clear d0 d1 d2 d3 d4 d5 d6 d7 d8 d9 d10
                  refine (Add_any _ _ _ _ _ _ _ _ _ _ _ _ _ HO.out.tab).mono ?_
                  rw [HZ0.out]
                  rintro e w5 ⟨rfl, hC, hT⟩
                  replace HR := Lib.hid (HR.out.chg hC nb)
                  replace HO := Lib.hid (HO.out.step hC hT)
                  clear hC hT
                  have hj : id.toNat < 256 := by simp [inR] at b3; omega
                  have j0 : 0 ≤ id := by simpa using b1
                  have j1 : id < 256 := by simp [inR] at b3; omega
                  have hu5 := (HO.out.cell hj).trans (by rw [HU.out])
                  have hf5 : w5.frozen? ⟨w2.heap.size, id.toNat, .none⟩ = false := frozen_blk HO.out.arr
                  obtain ⟨d0, d1, d2, d3, d4, d5, d6, d7, d8, d9, d10⟩ := RecAt.all HR.out
                  go_wp2_with (go_at_call 17; refine (kind_any _ _ _ zk0 zk1 (by decide) (by decide)).mono ?_; rintro e w' ⟨rfl, rfl⟩)
                  go_meet
                  exact ⟨_, _, HI2.out, HO.out.mark hj⟩
                · have t9 : (code T id == 0) = false := by simpa using hz0
                  have t10 : (code T id != 0) = true := by simpa using hz0
                  have hu201 : u id.toNat = true → (code T id != 201) = false := fun h => by have := code_used (T := T) (id := id) (by simpa using b1) (by simp [inR] at b3; omega) ((HI.out.used id.toNat (by simp [inR] at b3; omega)).2 h); simp [this]
                  have HU2 := Lib.hid hu201
                  have HF := Lib.hid (begins_fail (p := ⟨1, 0, 0, mom zn, [q0, q1, q2, q3, q4, q5, q6, q7]⟩) hz0)
                  have HF2 := Lib.hid (begins_fail (p := ⟨2, 0, 0, 0, [0, 0, 0, 0, 0, 0, 0, 0]⟩) hz0)
                  clear hz0 hu201
                  obtain ⟨d0, d1, d2, d3, d4, d5, d6, d7, d8, d9, d10⟩ := RecAt.all HR.out
                  go_wp2_with (go_at_call 17; refine (kind_any _ _ _ zk0 zk1 (by decide) (by decide)).mono ?_; rintro e w' ⟨rfl, rfl⟩)
                  clear d0 d1 d2 d3 d4 d5 d6 d7 d8 d9 d10
                  refine (Add_any _ _ _ _ _ _ _ _ _ _ _ _ _ HO.out.tab).mono ?_
                  rw [HF.out]
                  rintro e w5 ⟨rfl, hC, hT⟩
                  replace HR := Lib.hid (HR.out.chg hC nb)
                  replace HO := Lib.hid (HO.out.step hC hT)
                  clear hC hT
                  obtain ⟨d0, d1, d2, d3, d4, d5, d6, d7, d8, d9, d10⟩ := RecAt.all HR.out
                  go_wp2_with (go_at_call 17; refine (kind_any _ _ _ zk0 zk1 (by decide) (by decide)).mono ?_; rintro e w' ⟨rfl, rfl⟩)
                  clear d0 d1 d2 d3 d4 d5 d6 d7 d8 d9 d10
                  refine (Begin_any _ _ _ _ HO.out.tab).mono ?_
                  rw [HF2.out]
                  rintro e w6 ⟨rfl, hC, hT⟩
                  replace HR := Lib.hid (HR.out.chg hC nb)
                  replace HO := Lib.hid (HO.out.step hC hT)
                  clear hC hT
                  have hj : id.toNat < 256 := by simp [inR] at b3; omega
                  have j0 : 0 ≤ id := by simpa using b1
                  have j1 : id < 256 := by simp [inR] at b3; omega
                  have hu5 := HO.out.cell hj
                  obtain ⟨d0, d1, d2, d3, d4, d5, d6, d7, d8, d9, d10⟩ := RecAt.all HR.out
                  cases hu : u id.toNat with
                  | true =>
                    rw [hu] at hu5
                    have t11 := HU2.out hu
                    clear hu
                    go_wp2_with (go_at_call 17; refine (kind_any _ _ _ zk0 zk1 (by decide) (by decide)).mono ?_; rintro e w' ⟨rfl, rfl⟩)
                    go_meet
                    exact ⟨_, _, HI.out, HO.out⟩
                  | false =>
                    rw [hu] at hu5
                    clear hu
                    go_wp2_with (go_at_call 17; refine (kind_any _ _ _ zk0 zk1 (by decide) (by decide)).mono ?_; rintro e w' ⟨rfl, rfl⟩)
                    go_meet
                    exact ⟨_, _, HI.out, HO.out⟩
            · as_aux_lemma =>
                have t0 : (kindOf zk 8 == 0) = false := by simp [hk]
                have t1 : (kindOf zk 8 == 1) = true := by simp [hk]
                clear hk
                by_cases hz0 : code T id = 0
                · have ⟨hi2, hu⟩ := HI.out.add hz0 ⟨1, 0, 0, mom zn, [q0, q1, q2, q3, q4, q5, q6, q7]⟩ (by show (1 : Int) ≠ 0; decide)
                  have HI2 := Lib.hid hi2
                  have HU := Lib.hid hu
                  have HZ0 := Lib.hid hz0
                  clear hi2 hu hz0
                  obtain ⟨d0, d1, d2, d3, d4, d5, d6, d7, d8, d9, d10⟩ := RecAt.all HR.out
                  go_wp2_with (go_at_call 17; refine (kind_any _ _ _ zk0 zk1 (by decide) (by decide)).mono ?_; rintro e w' ⟨rfl, rfl⟩)
                  clear d0 d1 d2 d3 d4 d5 d6 d7 d8 d9 d10
                  refine (Add_any _ _ _ _ _ _ _ _ _ _ _ _ _ HO.out.tab).mono ?_
                  rw [HZ0.out]
                  rintro e w5 ⟨rfl, hC, hT⟩
                  replace HR := Lib.hid (HR.out.chg hC nb)
                  replace HO := Lib.hid (HO.out.step hC hT)
                  clear hC hT
                  have hj : id.toNat < 256 := by simp [inR] at b3; omega
                  have j0 : 0 ≤ id := by simpa using b1
                  have j1 : id < 256 := by simp [inR] at b3; omega
                  have hu5 := (HO.out.cell hj).trans (by rw [HU.out])
                  have hf5 : w5.frozen? ⟨w2.heap.size, id.toNat, .none⟩ = false := frozen_blk HO.out.arr
                  obtain ⟨d0, d1, d2, d3, d4, d5, d6, d7, d8, d9, d10⟩ := RecAt.all HR.out
                  go_wp2_with (go_at_call 17; refine (kind_any _ _ _ zk0 zk1 (by decide) (by decide)).mono ?_; rintro e w' ⟨rfl, rfl⟩)
                  go_meet
                  exact ⟨_, _, HI2.out, HO.out.mark hj⟩
                · have t9 : (code T id == 0) = false := by simpa using hz0
                  have t10 : (code T id != 0) = true := by simpa using hz0
                  have hu201 : u id.toNat = true → (code T id != 201) = false := fun h => by have := code_used (T := T) (id := id) (by simpa using b1) (by simp [inR] at b3; omega) ((HI.out.used id.toNat (by simp [inR] at b3; omega)).2 h); simp [this]
                  have HU2 := Lib.hid hu201
                  have HF := Lib.hid (begins_fail (p := ⟨1, 0, 0, mom zn, [q0, q1, q2, q3, q4, q5, q6, q7]⟩) hz0)
                  have HF2 := Lib.hid (begins_fail (p := ⟨2, 0, 0, 0, [0, 0, 0, 0, 0, 0, 0, 0]⟩) hz0)
                  clear hz0 hu201
                  obtain ⟨d0, d1, d2, d3, d4, d5, d6, d7, d8, d9, d10⟩ := RecAt.all HR.out
                  go_wp2_with (go_at_call 17; refine (kind_any _ _ _ zk0 zk1 (by decide) (by decide)).mono ?_; rintro e w' ⟨rfl, rfl⟩)
                  clear d0 d1 d2 d3 d4 d5 d6 d7 d8 d9 d10
                  refine (Add_any _ _ _ _ _ _ _ _ _ _ _ _ _ HO.out.tab).mono ?_
                  rw [HF.out]
                  rintro e w5 ⟨rfl, hC, hT⟩
                  replace HR := Lib.hid (HR.out.chg hC nb)
                  replace HO := Lib.hid (HO.out.step hC hT)
                  clear hC hT
                  have hj : id.toNat < 256 := by simp [inR] at b3; omega
                  have j0 : 0 ≤ id := by simpa using b1
                  have j1 : id < 256 := by simp [inR] at b3; omega
                  have hu5 := HO.out.cell hj
                  obtain ⟨d0, d1, d2, d3, d4, d5, d6, d7, d8, d9, d10⟩ := RecAt.all HR.out
                  cases hu : u id.toNat with
                  | true =>
                    rw [hu] at hu5
                    have t11 := HU2.out hu
                    clear hu
                    go_wp2_with (go_at_call 17; refine (kind_any _ _ _ zk0 zk1 (by decide) (by decide)).mono ?_; rintro e w' ⟨rfl, rfl⟩)
                    go_meet
                    exact ⟨_, _, HI.out, HO.out⟩
                  | false =>
                    rw [hu] at hu5
                    clear hu
                    go_wp2_with (go_at_call 17; refine (kind_any _ _ _ zk0 zk1 (by decide) (by decide)).mono ?_; rintro e w' ⟨rfl, rfl⟩)
                    go_meet
                    exact ⟨_, _, HI.out, HO.out⟩
            · as_aux_lemma =>
                have t0 : (kindOf zk 8 == 0) = false := by simp [hk]
                have t1 : (kindOf zk 8 == 1) = false := by simp [hk]
                have t2 : (kindOf zk 8 == 2) = true := by simp [hk]
                clear hk
                by_cases hz0 : code T id = 0
                · have ⟨hi2, hu⟩ := HI.out.add hz0 ⟨1, 0, 0, mom zn, [q0, q1, q2, q3, q4, q5, q6, q7]⟩ (by show (1 : Int) ≠ 0; decide)
                  have HI2 := Lib.hid hi2
                  have HU := Lib.hid hu
                  have HZ0 := Lib.hid hz0
                  clear hi2 hu hz0
                  obtain ⟨d0, d1, d2, d3, d4, d5, d6, d7, d8, d9, d10⟩ := RecAt.all HR.out
                  go_wp2_with (go_at_call 17; refine (kind_any _ _ _ zk0 zk1 (by decide) (by decide)).mono ?_; rintro e w' ⟨rfl, rfl⟩)
                  clear d0 d1 d2 d3 d4 d5 d6 d7 d8 d9 d10
                  refine (Add_any _ _ _ _ _ _ _ _ _ _ _ _ _ HO.out.tab).mono ?_
                  rw [HZ0.out]
                  rintro e w5 ⟨rfl, hC, hT⟩
                  replace HR := Lib.hid (HR.out.chg hC nb)
                  replace HO := Lib.hid (HO.out.step hC hT)
                  clear hC hT
                  have hj : id.toNat < 256 := by simp [inR] at b3; omega
                  have j0 : 0 ≤ id := by simpa using b1
                  have j1 : id < 256 := by simp [inR] at b3; omega
                  have hu5 := (HO.out.cell hj).trans (by rw [HU.out])
                  have hf5 : w5.frozen? ⟨w2.heap.size, id.toNat, .none⟩ = false := frozen_blk HO.out.arr
                  obtain ⟨d0, d1, d2, d3, d4, d5, d6, d7, d8, d9, d10⟩ := RecAt.all HR.out
                  go_wp2_with (go_at_call 17; refine (kind_any _ _ _ zk0 zk1 (by decide) (by decide)).mono ?_; rintro e w' ⟨rfl, rfl⟩)
                  go_meet
                  exact ⟨_, _, HI2.out, HO.out.mark hj⟩
                · have t9 : (code T id == 0) = false := by simpa using hz0
                  have t10 : (code T id != 0) = true := by simpa using hz0
                  have hu201 : u id.toNat = true → (code T id != 201) = false := fun h => by have := code_used (T := T) (id := id) (by simpa using b1) (by simp [inR] at b3; omega) ((HI.out.used id.toNat (by simp [inR] at b3; omega)).2 h); simp [this]
                  have HU2 := Lib.hid hu201
                  have HF := Lib.hid (begins_fail (p := ⟨1, 0, 0, mom zn, [q0, q1, q2, q3, q4, q5, q6, q7]⟩) hz0)
                  have HF2 := Lib.hid (begins_fail (p := ⟨2, 0, 0, 0, [0, 0, 0, 0, 0, 0, 0, 0]⟩) hz0)
                  clear hz0 hu201
                  obtain ⟨d0, d1, d2, d3, d4, d5, d6, d7, d8, d9, d10⟩ := RecAt.all HR.out
                  go_wp2_with (go_at_call 17; refine (kind_any _ _ _ zk0 zk1 (by decide) (by decide)).mono ?_; rintro e w' ⟨rfl, rfl⟩)
                  clear d0 d1 d2 d3 d4 d5 d6 d7 d8 d9 d10
                  refine (Add_any _ _ _ _ _ _ _ _ _ _ _ _ _ HO.out.tab).mono ?_
                  rw [HF.out]
                  rintro e w5 ⟨rfl, hC, hT⟩
                  replace HR := Lib.hid (HR.out.chg hC nb)
                  replace HO := Lib.hid (HO.out.step hC hT)
                  clear hC hT
                  have hj : id.toNat < 256 := by simp [inR] at b3; omega
                  have j0 : 0 ≤ id := by simpa using b1
                  have j1 : id < 256 := by simp [inR] at b3; omega
                  have hu5 := HO.out.cell hj
                  obtain ⟨d0, d1, d2, d3, d4, d5, d6, d7, d8, d9, d10⟩ := RecAt.all HR.out
                  cases hu : u id.toNat with
                  | true =>
                    rw [hu] at hu5
                    have t11 := HU2.out hu
                    clear hu
                    go_wp2_with (go_at_call 17; refine (kind_any _ _ _ zk0 zk1 (by decide) (by decide)).mono ?_; rintro e w' ⟨rfl, rfl⟩)
                    go_meet
                    exact ⟨_, _, HI.out, HO.out⟩
                  | false =>
                    rw [hu] at hu5
                    clear hu
                    go_wp2_with (go_at_call 17; refine (kind_any _ _ _ zk0 zk1 (by decide) (by decide)).mono ?_; rintro e w' ⟨rfl, rfl⟩)
                    go_meet
                    exact ⟨_, _, HI.out, HO.out⟩
            · as_aux_lemma =>
                have t0 : (kindOf zk 8 == 0) = false := by simp [hk]
                have t1 : (kindOf zk 8 == 1) = false := by simp [hk]
                have t2 : (kindOf zk 8 == 2) = false := by simp [hk]
                have t3 : (kindOf zk 8 == 3) = true := by simp [hk]
                clear hk
                obtain ⟨d0, d1, d2, d3, d4, d5, d6, d7, d8, d9, d10⟩ := RecAt.all HR.out
                go_wp2_with (go_at_call 17; refine (kind_any _ _ _ zk0 zk1 (by decide) (by decide)).mono ?_; rintro e w' ⟨rfl, rfl⟩)
                clear d0 d1 d2 d3 d4 d5 d6 d7 d8 d9 d10
                refine (due_any _ _ _ _ HO.out.tab).mono ?_
                rintro e w5 ⟨v, rfl, _, hC, hT⟩
                replace HO := Lib.hid (HO.out.step hC hT)
                replace HI := Lib.hid (HI.out.due (mom zn))
                clear hC hT
                go_wp2_with fail
                go_meet
                exact ⟨_, _, HI.out, HO.out⟩
            · as_aux_lemma =>
                have t0 : (kindOf zk 8 == 0) = false := by simp [hk]
                have t1 : (kindOf zk 8 == 1) = false := by simp [hk]
                have t2 : (kindOf zk 8 == 2) = false := by simp [hk]
                have t3 : (kindOf zk 8 == 3) = false := by simp [hk]
                have t4 : (kindOf zk 8 == 4) = true := by simp [hk]
                clear hk
                obtain ⟨d0, d1, d2, d3, d4, d5, d6, d7, d8, d9, d10⟩ := RecAt.all HR.out
                go_wp2_with (go_at_call 17; refine (kind_any _ _ _ zk0 zk1 (by decide) (by decide)).mono ?_; rintro e w' ⟨rfl, rfl⟩)
                clear d0 d1 d2 d3 d4 d5 d6 d7 d8 d9 d10
                refine (answer_any _ _ _ _ _ _ _ _ _ _ _ _ HO.out.tab).mono ?_
                rintro e w5 ⟨rfl, hC, hT⟩
                replace HO := Lib.hid (HO.out.step hC hT)
                replace HI := Lib.hid (HI.out.answer id [q0, q1, q2, q3, q4, q5, q6, q7])
                clear hC hT
                go_wp2_with fail
                go_meet
                exact ⟨_, _, HI.out, HO.out⟩
            · as_aux_lemma =>
                have t0 : (kindOf zk 8 == 0) = false := by simp [hk]
                have t1 : (kindOf zk 8 == 1) = false := by simp [hk]
                have t2 : (kindOf zk 8 == 2) = false := by simp [hk]
                have t3 : (kindOf zk 8 == 3) = false := by simp [hk]
                have t4 : (kindOf zk 8 == 4) = false := by simp [hk]
                have t5 : (kindOf zk 8 == 5) = true := by simp [hk]
                clear hk
                obtain ⟨d0, d1, d2, d3, d4, d5, d6, d7, d8, d9, d10⟩ := RecAt.all HR.out
                go_wp2_with (go_at_call 17; refine (kind_any _ _ _ zk0 zk1 (by decide) (by decide)).mono ?_; rintro e w' ⟨rfl, rfl⟩)
                clear d0 d1 d2 d3 d4 d5 d6 d7 d8 d9 d10
                refine (remove_any _ _ _ _ HO.out.tab).mono ?_
                rintro e w5 ⟨rfl, hC, hT⟩
                replace HO := Lib.hid (HO.out.step hC hT)
                replace HI := Lib.hid (HI.out.remove id)
                clear hC hT
                go_wp2_with fail
                go_meet
                exact ⟨_, _, HI.out, HO.out⟩
            · as_aux_lemma =>
                have t0 : (kindOf zk 8 == 0) = false := by simp; omega
                have t1 : (kindOf zk 8 == 1) = false := by simp; omega
                have t2 : (kindOf zk 8 == 2) = false := by simp; omega
                have t3 : (kindOf zk 8 == 3) = false := by simp; omega
                have t4 : (kindOf zk 8 == 4) = false := by simp; omega
                have t5 : (kindOf zk 8 == 5) = false := by simp; omega
                clear hk
                go_wp2_with fail
                go_meet
                exact ⟨_, _, HI.out, HO.out⟩
          case rest =>
            as_aux_lemma =>
              clear c0 c1 c2 c3 c4 c5 c6 c7 c8 c9 c10
              obtain ⟨T', u', hI', hO'⟩ := hcut
              clear HI HO
              have HI := Lib.hid hI'
              have HO := Lib.hid hO'
              clear hI' hO'
              go_wp2_with fail
              go_loopw [10, 11] (fun n i wr2 => ∃ m : Nat, m ≤ 256 ∧ i = .int .i64 m ∧ n = .int .i64 (busy T' m) ∧ On w b w2.heap.size T' u' wr2) (fun _ i _ => 256 - (intOf i).toNat)
              case atStart => exact ⟨0, by omega, rfl, rfl, HO.out⟩
              case round =>
                obtain ⟨m, hm, rfl, rfl, hO⟩ := hrel
                replace HO := Lib.hid hO
                clear hO
                by_cases hm' : m < 256
                · have hcell := HO.out.cell hm'
                  have hst := Lib.hid (stOf_nat T' hm')
                  have hused := HI.out.used m hm'
                  have B := Lib.hid (busy_succ T' m)
                  have Bl := busy_le T' m
                  go_wp2_with fail
                  refine (state_any _ _ _ _ HO.out.tab).mono ?_
                  rw [hst.out]
                  rintro e w7 ⟨rfl, hC⟩
                  have hcell := (hC.cell (p := ⟨w2.heap.size, m, .none⟩) (lt_blk HO.out.arr) (not_nowhere _)).trans hcell
                  replace HO := Lib.hid (HO.out.idle hC)
                  clear hC
                  by_cases e0 : (T' m).st = 0
                  · have hu : u' m = false := by cases hu : u' m with | false => rfl | true => exact absurd e0 (hused.2 hu)
                    rw [hu] at hcell
                    have f0 : ((T' m).st != 0) = false := by simp [e0]
                    have f1 : ((T' m).st == 1) = false := by simp [e0]
                    have f2 : ((T' m).st == 2) = false := by simp [e0]
                    have E := Lib.hid (show busy T' (m + 1) = busy T' m by rw [B.out, if_neg (by omega)]; rfl)
                    clear hused hu e0
                    go_wp2_with fail
                    go_roundw
                    case rel => exact ⟨m + 1, by omega, by go_num, by rw [E.out], HO.out⟩
                    case measure => simp [intOf]; omega
                  · have hu : u' m = true := hused.1 e0
                    rw [hu] at hcell
                    have f0 : ((T' m).st != 0) = true := by simp [e0]
                    by_cases e1 : (T' m).st = 1
                    · have f1 : ((T' m).st == 1) = true := by simp [e1]
                      have E := Lib.hid (show busy T' (m + 1) = busy T' m + 1 by rw [B.out, if_pos (.inl e1)])
                      clear hused hu e0 e1
                      go_wp2_with fail
                      go_roundw
                      case rel => exact ⟨m + 1, by omega, by go_num, by rw [E.out]; go_num, HO.out⟩
                      case measure => simp [intOf]; omega
                    · have f1 : ((T' m).st == 1) = false := by simp [e1]
                      by_cases e2 : (T' m).st = 2
                      · have f2 : ((T' m).st == 2) = true := by simp [e2]
                        have E := Lib.hid (show busy T' (m + 1) = busy T' m + 1 by rw [B.out, if_pos (.inr e2)])
                        clear hused hu e0 e1 e2
                        go_wp2_with fail
                        go_roundw
                        case rel => exact ⟨m + 1, by omega, by go_num, by rw [E.out]; go_num, HO.out⟩
                        case measure => simp [intOf]; omega
                      · have f2 : ((T' m).st == 2) = false := by simp [e2]
                        have E := Lib.hid (show busy T' (m + 1) = busy T' m by rw [B.out, if_neg (by omega)]; rfl)
                        clear hused hu e0 e1 e2
                        go_wp2_with fail
                        go_roundw
                        case rel => exact ⟨m + 1, by omega, by go_num, by rw [E.out], HO.out⟩
                        case measure => simp [intOf]; omega
                · obtain rfl : m = 256 := by omega
                  have Bf : busy T' 256 ≤ 16 := HI.out.few
                  generalize busy T' 256 = bb at Bf ⊢
                  clear hm hm'
                  go_wp2_with fail
                  go_roundw
                  case rel => exact ⟨k + 1, T', u', by omega, by omega, by go_num, HI.out, HO.out⟩
                  case measure => simp [intOf]; omega
        · go_upto_block 2 with (go_at_call 17; refine (kind_any _ _ _ zk0 zk1 (by decide) (by decide)).mono ?_; rintro e w' ⟨rfl, rfl⟩)
          go_cut [] (fun wx => After w b w2.heap.size wx)
          case first =>
            clear c0 c1 c2 c3 c4 c5 c6 c7 c8 c9 c10
            have HR := Lib.hid (show RecAt (wr.alloc (.cells #[.int .i64 zk, .int .i64 id, .int .i64 zn, .int .u8 q0, .int .u8 q1, .int .u8 q2, .int .u8 q3, .int .u8 q4, .int .u8 q5, .int .u8 q6, .int .u8 q7] 29)) wr.heap.size zk id zn q0 q1 q2 q3 q4 q5 q6 q7 from alloc_new _ _)
            have hbd : b < wr.heap.size := HO.out.tab.lt
            have hcd : w2.heap.size < wr.heap.size := lt_blk HO.out.arr
            replace HO := Lib.hid (HO.out.idle ((Chg.refl _ _).alloc (.cells #[.int .i64 zk, .int .i64 id, .int .i64 zn, .int .u8 q0, .int .u8 q1, .int .u8 q2, .int .u8 q3, .int .u8 q4, .int .u8 q5, .int .u8 q6, .int .u8 q7] 29)))
            have nb : ¬ At b wr.heap.size := fun e => by have : wr.heap.size = b := e; omega
            have kq : kindOf zk 8 = 0 ∨ kindOf zk 8 = 1 ∨ kindOf zk 8 = 2 ∨ kindOf zk 8 = 3 ∨ kindOf zk 8 = 4 ∨ kindOf zk 8 = 5 ∨ 5 < kindOf zk 8 := by omega
            rcases kq with hk | hk | hk | hk | hk | hk | hk
            · as_aux_lemma =>
                have t0 : (kindOf zk 8 == 0) = true := by simp [hk]
                clear hk
                have hz1 : code T id = 1 := by rw [code, if_pos b3]
                have hz0 : code T id ≠ 0 := by rw [hz1]; decide
                have HZ1 := Lib.hid hz1
                have HF := Lib.hid (begins_fail (p := ⟨1, 0, 0, mom zn, [q0, q1, q2, q3, q4, q5, q6, q7]⟩) hz0)
                have HF2 := Lib.hid (begins_fail (p := ⟨2, 0, 0, 0, [0, 0, 0, 0, 0, 0, 0, 0]⟩) hz0)
                clear hz0 hz1
                obtain ⟨d0, d1, d2, d3, d4, d5, d6, d7, d8, d9, d10⟩ := RecAt.all HR.out
                go_wp2_with (go_at_call 17; refine (kind_any _ _ _ zk0 zk1 (by decide) (by decide)).mono ?_; rintro e w' ⟨rfl, rfl⟩)
                clear d0 d1 d2 d3 d4 d5 d6 d7 d8 d9 d10
                refine (Add_any _ _ _ _ _ _ _ _ _ _ _ _ _ HO.out.tab).mono ?_
                rw [HF.out, HZ1.out]
                rintro e w5 ⟨rfl, hC, hT⟩
                replace HR := Lib.hid (HR.out.chg hC nb)
                replace HO := Lib.hid (HO.out.step hC hT)
                clear hC hT
                obtain ⟨d0, d1, d2, d3, d4, d5, d6, d7, d8, d9, d10⟩ := RecAt.all HR.out
                go_wp2_with (go_at_call 17; refine (kind_any _ _ _ zk0 zk1 (by decide) (by decide)).mono ?_; rintro e w' ⟨rfl, rfl⟩)
                clear d0 d1 d2 d3 d4 d5 d6 d7 d8 d9 d10
                refine (Begin_any _ _ _ _ HO.out.tab).mono ?_
                rw [HF2.out, HZ1.out]
                rintro e w6 ⟨rfl, hC, hT⟩
                replace HR := Lib.hid (HR.out.chg hC nb)
                replace HO := Lib.hid (HO.out.step hC hT)
                clear hC hT
                obtain ⟨d0, d1, d2, d3, d4, d5, d6, d7, d8, d9, d10⟩ := RecAt.all HR.out
                go_wp2_with (go_at_call 17; refine (kind_any _ _ _ zk0 zk1 (by decide) (by decide)).mono ?_; rintro e w' ⟨rfl, rfl⟩)
                go_meet
                exact ⟨_, _, HI.out, HO.out⟩
            · as_aux_lemma =>
                have t0 : (kindOf zk 8 == 0) = false := by simp [hk]
                have t1 : (kindOf zk 8 == 1) = true := by simp [hk]
                clear hk
                have hz1 : code T id = 1 := by rw [code, if_pos b3]
                have hz0 : code T id ≠ 0 := by rw [hz1]; decide
                have HZ1 := Lib.hid hz1
                have HF := Lib.hid (begins_fail (p := ⟨1, 0, 0, mom zn, [q0, q1, q2, q3, q4, q5, q6, q7]⟩) hz0)
                have HF2 := Lib.hid (begins_fail (p := ⟨2, 0, 0, 0, [0, 0, 0, 0, 0, 0, 0, 0]⟩) hz0)
                clear hz0 hz1
                obtain ⟨d0, d1, d2, d3, d4, d5, d6, d7, d8, d9, d10⟩ := RecAt.all HR.out
                go_wp2_with (go_at_call 17; refine (kind_any _ _ _ zk0 zk1 (by decide) (by decide)).mono ?_; rintro e w' ⟨rfl, rfl⟩)
                clear d0 d1 d2 d3 d4 d5 d6 d7 d8 d9 d10
                refine (Add_any _ _ _ _ _ _ _ _ _ _ _ _ _ HO.out.tab).mono ?_
                rw [HF.out, HZ1.out]
                rintro e w5 ⟨rfl, hC, hT⟩
                replace HR := Lib.hid (HR.out.chg hC nb)
                replace HO := Lib.hid (HO.out.step hC hT)
                clear hC hT
                obtain ⟨d0, d1, d2, d3, d4, d5, d6, d7, d8, d9, d10⟩ := RecAt.all HR.out
                go_wp2_with (go_at_call 17; refine (kind_any _ _ _ zk0 zk1 (by decide) (by decide)).mono ?_; rintro e w' ⟨rfl, rfl⟩)
                go_meet
                exact ⟨_, _, HI.out, HO.out⟩
            · as_aux_lemma =>
                have t0 : (kindOf zk 8 == 0) = false := by simp [hk]
                have t1 : (kindOf zk 8 == 1) = false := by simp [hk]
                have t2 : (kindOf zk 8 == 2) = true := by simp [hk]
                clear hk
                have hz1 : code T id = 1 := by rw [code, if_pos b3]
                have hz0 : code T id ≠ 0 := by rw [hz1]; decide
                have HZ1 := Lib.hid hz1
                have HF := Lib.hid (begins_fail (p := ⟨1, 0, 0, mom zn, [q0, q1, q2, q3, q4, q5, q6, q7]⟩) hz0)
                have HF2 := Lib.hid (begins_fail (p := ⟨2, 0, 0, 0, [0, 0, 0, 0, 0, 0, 0, 0]⟩) hz0)
                clear hz0 hz1
                obtain ⟨d0, d1, d2, d3, d4, d5, d6, d7, d8, d9, d10⟩ := RecAt.all HR.out
                go_wp2_with (go_at_call 17; refine (kind_any _ _ _ zk0 zk1 (by decide) (by decide)).mono ?_; rintro e w' ⟨rfl, rfl⟩)
                clear d0 d1 d2 d3 d4 d5 d6 d7 d8 d9 d10
                refine (Add_any _ _ _ _ _ _ _ _ _ _ _ _ _ HO.out.tab).mono ?_
                rw [HF.out, HZ1.out]
                rintro e w5 ⟨rfl, hC, hT⟩
                replace HR := Lib.hid (HR.out.chg hC nb)
                replace HO := Lib.hid (HO.out.step hC hT)
                clear hC hT
                obtain ⟨d0, d1, d2, d3, d4, d5, d6, d7, d8, d9, d10⟩ := RecAt.all HR.out
                go_wp2_with (go_at_call 17; refine (kind_any _ _ _ zk0 zk1 (by decide) (by decide)).mono ?_; rintro e w' ⟨rfl, rfl⟩)
                go_meet
                exact ⟨_, _, HI.out, HO.out⟩
            · as_aux_lemma =>
                have t0 : (kindOf zk 8 == 0) = false := by simp [hk]
                have t1 : (kindOf zk 8 == 1) = false := by simp [hk]
                have t2 : (kindOf zk 8 == 2) = false := by simp [hk]
                have t3 : (kindOf zk 8 == 3) = true := by simp [hk]
                clear hk
                obtain ⟨d0, d1, d2, d3, d4, d5, d6, d7, d8, d9, d10⟩ := RecAt.all HR.out
                go_wp2_with (go_at_call 17; refine (kind_any _ _ _ zk0 zk1 (by decide) (by decide)).mono ?_; rintro e w' ⟨rfl, rfl⟩)
                clear d0 d1 d2 d3 d4 d5 d6 d7 d8 d9 d10
                refine (due_any _ _ _ _ HO.out.tab).mono ?_
                rintro e w5 ⟨v, rfl, _, hC, hT⟩
                replace HO := Lib.hid (HO.out.step hC hT)
                replace HI := Lib.hid (HI.out.due (mom zn))
                clear hC hT
                go_wp2_with fail
                go_meet
                exact ⟨_, _, HI.out, HO.out⟩
            · as_aux_lemma =>
                have t0 : (kindOf zk 8 == 0) = false := by simp [hk]
                have t1 : (kindOf zk 8 == 1) = false := by simp [hk]
                have t2 : (kindOf zk 8 == 2) = false := by simp [hk]
                have t3 : (kindOf zk 8 == 3) = false := by simp [hk]
                have t4 : (kindOf zk 8 == 4) = true := by simp [hk]
                clear hk
                obtain ⟨d0, d1, d2, d3, d4, d5, d6, d7, d8, d9, d10⟩ := RecAt.all HR.out
                go_wp2_with (go_at_call 17; refine (kind_any _ _ _ zk0 zk1 (by decide) (by decide)).mono ?_; rintro e w' ⟨rfl, rfl⟩)
                clear d0 d1 d2 d3 d4 d5 d6 d7 d8 d9 d10
                refine (answer_any _ _ _ _ _ _ _ _ _ _ _ _ HO.out.tab).mono ?_
                rintro e w5 ⟨rfl, hC, hT⟩
                replace HO := Lib.hid (HO.out.step hC hT)
                replace HI := Lib.hid (HI.out.answer id [q0, q1, q2, q3, q4, q5, q6, q7])
                clear hC hT
                go_wp2_with fail
                go_meet
                exact ⟨_, _, HI.out, HO.out⟩
            · as_aux_lemma =>
                have t0 : (kindOf zk 8 == 0) = false := by simp [hk]
                have t1 : (kindOf zk 8 == 1) = false := by simp [hk]
                have t2 : (kindOf zk 8 == 2) = false := by simp [hk]
                have t3 : (kindOf zk 8 == 3) = false := by simp [hk]
                have t4 : (kindOf zk 8 == 4) = false := by simp [hk]
                have t5 : (kindOf zk 8 == 5) = true := by simp [hk]
                clear hk
                obtain ⟨d0, d1, d2, d3, d4, d5, d6, d7, d8, d9, d10⟩ := RecAt.all HR.out
                go_wp2_with (go_at_call 17; refine (kind_any _ _ _ zk0 zk1 (by decide) (by decide)).mono ?_; rintro e w' ⟨rfl, rfl⟩)
                clear d0 d1 d2 d3 d4 d5 d6 d7 d8 d9 d10
                refine (remove_any _ _ _ _ HO.out.tab).mono ?_
                rintro e w5 ⟨rfl, hC, hT⟩
                replace HO := Lib.hid (HO.out.step hC hT)
                replace HI := Lib.hid (HI.out.remove id)
                clear hC hT
                go_wp2_with fail
                go_meet
                exact ⟨_, _, HI.out, HO.out⟩
            · as_aux_lemma =>
                have t0 : (kindOf zk 8 == 0) = false := by simp; omega
                have t1 : (kindOf zk 8 == 1) = false := by simp; omega
                have t2 : (kindOf zk 8 == 2) = false := by simp; omega
                have t3 : (kindOf zk 8 == 3) = false := by simp; omega
                have t4 : (kindOf zk 8 == 4) = false := by simp; omega
                have t5 : (kindOf zk 8 == 5) = false := by simp; omega
                clear hk
                go_wp2_with fail
                go_meet
                exact ⟨_, _, HI.out, HO.out⟩
          case rest =>
            as_aux_lemma =>
              clear c0 c1 c2 c3 c4 c5 c6 c7 c8 c9 c10
              obtain ⟨T', u', hI', hO'⟩ := hcut
              clear HI HO
              have HI := Lib.hid hI'
              have HO := Lib.hid hO'
              clear hI' hO'
              go_wp2_with fail
              go_loopw [10, 11] (fun n i wr2 => ∃ m : Nat, m ≤ 256 ∧ i = .int .i64 m ∧ n = .int .i64 (busy T' m) ∧ On w b w2.heap.size T' u' wr2) (fun _ i _ => 256 - (intOf i).toNat)
              case atStart => exact ⟨0, by omega, rfl, rfl, HO.out⟩
              case round =>
                obtain ⟨m, hm, rfl, rfl, hO⟩ := hrel
                replace HO := Lib.hid hO
                clear hO
                by_cases hm' : m < 256
                · have hcell := HO.out.cell hm'
                  have hst := Lib.hid (stOf_nat T' hm')
                  have hused := HI.out.used m hm'
                  have B := Lib.hid (busy_succ T' m)
                  have Bl := busy_le T' m
                  go_wp2_with fail
                  refine (state_any _ _ _ _ HO.out.tab).mono ?_
                  rw [hst.out]
                  rintro e w7 ⟨rfl, hC⟩
                  have hcell := (hC.cell (p := ⟨w2.heap.size, m, .none⟩) (lt_blk HO.out.arr) (not_nowhere _)).trans hcell
                  replace HO := Lib.hid (HO.out.idle hC)
                  clear hC
                  by_cases e0 : (T' m).st = 0
                  · have hu : u' m = false := by cases hu : u' m with | false => rfl | true => exact absurd e0 (hused.2 hu)
                    rw [hu] at hcell
                    have f0 : ((T' m).st != 0) = false := by simp [e0]
                    have f1 : ((T' m).st == 1) = false := by simp [e0]
                    have f2 : ((T' m).st == 2) = false := by simp [e0]
                    have E := Lib.hid (show busy T' (m + 1) = busy T' m by rw [B.out, if_neg (by omega)]; rfl)
                    clear hused hu e0
                    go_wp2_with fail
                    go_roundw
                    case rel => exact ⟨m + 1, by omega, by go_num, by rw [E.out], HO.out⟩
                    case measure => simp [intOf]; omega
                  · have hu : u' m = true := hused.1 e0
                    rw [hu] at hcell
                    have f0 : ((T' m).st != 0) = true := by simp [e0]
                    by_cases e1 : (T' m).st = 1
                    · have f1 : ((T' m).st == 1) = true := by simp [e1]
                      have E := Lib.hid (show busy T' (m + 1) = busy T' m + 1 by rw [B.out, if_pos (.inl e1)])
                      clear hused hu e0 e1
                      go_wp2_with fail
                      go_roundw
                      case rel => exact ⟨m + 1, by omega, by go_num, by rw [E.out]; go_num, HO.out⟩
                      case measure => simp [intOf]; omega
                    · have f1 : ((T' m).st == 1) = false := by simp [e1]
                      by_cases e2 : (T' m).st = 2
                      · have f2 : ((T' m).st == 2) = true := by simp [e2]
                        have E := Lib.hid (show busy T' (m + 1) = busy T' m + 1 by rw [B.out, if_pos (.inr e2)])
                        clear hused hu e0 e1 e2
                        go_wp2_with fail
                        go_roundw
                        case rel => exact ⟨m + 1, by omega, by go_num, by rw [E.out]; go_num, HO.out⟩
                        case measure => simp [intOf]; omega
                      · have f2 : ((T' m).st == 2) = false := by simp [e2]
                        have E := Lib.hid (show busy T' (m + 1) = busy T' m by rw [B.out, if_neg (by omega)]; rfl)
                        clear hused hu e0 e1 e2
                        go_wp2_with fail
                        go_roundw
                        case rel => exact ⟨m + 1, by omega, by go_num, by rw [E.out], HO.out⟩
                        case measure => simp [intOf]; omega
                · obtain rfl : m = 256 := by omega
                  have Bf : busy T' 256 ≤ 16 := HI.out.few
                  generalize busy T' 256 = bb at Bf ⊢
                  clear hm hm'
                  go_wp2_with fail
                  go_roundw
                  case rel => exact ⟨k + 1, T', u', by omega, by omega, by go_num, HI.out, HO.out⟩
                  case measure => simp [intOf]; omega
        · go_upto_block 2 with (go_at_call 17; refine (kind_any _ _ _ zk0 zk1 (by decide) (by decide)).mono ?_; rintro e w' ⟨rfl, rfl⟩)
          go_cut [] (fun wx => After w b w2.heap.size wx)
          case first =>
            clear c0 c1 c2 c3 c4 c5 c6 c7 c8 c9 c10
            have HR := Lib.hid (show RecAt (wr.alloc (.cells #[.int .i64 zk, .int .i64 id, .int .i64 zn, .int .u8 q0, .int .u8 q1, .int .u8 q2, .int .u8 q3, .int .u8 q4, .int .u8 q5, .int .u8 q6, .int .u8 q7] 29)) wr.heap.size zk id zn q0 q1 q2 q3 q4 q5 q6 q7 from alloc_new _ _)
            have hbd : b < wr.heap.size := HO.out.tab.lt
            have hcd : w2.heap.size < wr.heap.size := lt_blk HO.out.arr
            replace HO := Lib.hid (HO.out.idle ((Chg.refl _ _).alloc (.cells #[.int .i64 zk, .int .i64 id, .int .i64 zn, .int .u8 q0, .int .u8 q1, .int .u8 q2, .int .u8 q3, .int .u8 q4, .int .u8 q5, .int .u8 q6, .int .u8 q7] 29)))
            have nb : ¬ At b wr.heap.size := fun e => by have : wr.heap.size = b := e; omega
            have kq : kindOf zk 8 = 0 ∨ kindOf zk 8 = 1 ∨ kindOf zk 8 = 2 ∨ kindOf zk 8 = 3 ∨ kindOf zk 8 = 4 ∨ kindOf zk 8 = 5 ∨ 5 < kindOf zk 8 := by omega
            rcases kq with hk | hk | hk | hk | hk | hk | hk
            · as_aux_lemma =>
                have t0 : (kindOf zk 8 == 0) = true := by simp [hk]
                clear hk
                have hz1 : code T id = 1 := by rw [code, if_pos b3]
                have hz0 : code T id ≠ 0 := by rw [hz1]; decide
                have HZ1 := Lib.hid hz1
                have HF := Lib.hid (begins_fail (p := ⟨1, 0, 0, mom zn, [q0, q1, q2, q3, q4, q5, q6, q7]⟩) hz0)
                have HF2 := Lib.hid (begins_fail (p := ⟨2, 0, 0, 0, [0, 0, 0, 0, 0, 0, 0, 0]⟩) hz0)
                clear hz0 hz1
                obtain ⟨d0, d1, d2, d3, d4, d5, d6, d7, d8, d9, d10⟩ := RecAt.all HR.out
                go_wp2_with (go_at_call 17; refine (kind_any _ _ _ zk0 zk1 (by decide) (by decide)).mono ?_; rintro e w' ⟨rfl, rfl⟩)
                clear d0 d1 d2 d3 d4 d5 d6 d7 d8 d9 d10
                refine (Add_any _ _ _ _ _ _ _ _ _ _ _ _ _ HO.out.tab).mono ?_
                rw [HF.out, HZ1.out]
                rintro e w5 ⟨rfl, hC, hT⟩
                replace HR := Lib.hid (HR.out.chg hC nb)
                replace HO := Lib.hid (HO.out.step hC hT)
                clear hC hT
                obtain ⟨d0, d1, d2, d3, d4, d5, d6, d7, d8, d9, d10⟩ := RecAt.all HR.out
                go_wp2_with (go_at_call 17; refine (kind_any _ _ _ zk0 zk1 (by decide) (by decide)).mono ?_; rintro e w' ⟨rfl, rfl⟩)
                clear d0 d1 d2 d3 d4 d5 d6 d7 d8 d9 d10
                refine (Begin_any _ _ _ _ HO.out.tab).mono ?_
                rw [HF2.out, HZ1.out]
                rintro e w6 ⟨rfl, hC, hT⟩
                replace HR := Lib.hid (HR.out.chg hC nb)
                replace HO := Lib.hid (HO.out.step hC hT)
                clear hC hT
                obtain ⟨d0, d1, d2, d3, d4, d5, d6, d7, d8, d9, d10⟩ := RecAt.all HR.out
                go_wp2_with (go_at_call 17; refine (kind_any _ _ _ zk0 zk1 (by decide) (by decide)).mono ?_; rintro e w' ⟨rfl, rfl⟩)
                go_meet
                exact ⟨_, _, HI.out, HO.out⟩
            · as_aux_lemma =>
                have t0 : (kindOf zk 8 == 0) = false := by simp [hk]
                have t1 : (kindOf zk 8 == 1) = true := by simp [hk]
                clear hk
                have hz1 : code T id = 1 := by rw [code, if_pos b3]
                have hz0 : code T id ≠ 0 := by rw [hz1]; decide
                have HZ1 := Lib.hid hz1
                have HF := Lib.hid (begins_fail (p := ⟨1, 0, 0, mom zn, [q0, q1, q2, q3, q4, q5, q6, q7]⟩) hz0)
                have HF2 := Lib.hid (begins_fail (p := ⟨2, 0, 0, 0, [0, 0, 0, 0, 0, 0, 0, 0]⟩) hz0)
                clear hz0 hz1
                obtain ⟨d0, d1, d2, d3, d4, d5, d6, d7, d8, d9, d10⟩ := RecAt.all HR.out
                go_wp2_with (go_at_call 17; refine (kind_any _ _ _ zk0 zk1 (by decide) (by decide)).mono ?_; rintro e w' ⟨rfl, rfl⟩)
                clear d0 d1 d2 d3 d4 d5 d6 d7 d8 d9 d10
                refine (Add_any _ _ _ _ _ _ _ _ _ _ _ _ _ HO.out.tab).mono ?_
                rw [HF.out, HZ1.out]
                rintro e w5 ⟨rfl, hC, hT⟩
                replace HR := Lib.hid (HR.out.chg hC nb)
                replace HO := Lib.hid (HO.out.step hC hT)
                clear hC hT
                obtain ⟨d0, d1, d2, d3, d4, d5, d6, d7, d8, d9, d10⟩ := RecAt.all HR.out
                go_wp2_with (go_at_call 17; refine (kind_any _ _ _ zk0 zk1 (by decide) (by decide)).mono ?_; rintro e w' ⟨rfl, rfl⟩)
                go_meet
                exact ⟨_, _, HI.out, HO.out⟩
            · as_aux_lemma =>
                have t0 : (kindOf zk 8 == 0) = false := by simp [hk]
                have t1 : (kindOf zk 8 == 1) = false := by simp [hk]
                have t2 : (kindOf zk 8 == 2) = true := by simp [hk]
                clear hk
                have hz1 : code T id = 1 := by rw [code, if_pos b3]
                have hz0 : code T id ≠ 0 := by rw [hz1]; decide
                have HZ1 := Lib.hid hz1
                have HF := Lib.hid (begins_fail (p := ⟨1, 0, 0, mom zn, [q0, q1, q2, q3, q4, q5, q6, q7]⟩) hz0)
                have HF2 := Lib.hid (begins_fail (p := ⟨2, 0, 0, 0, [0, 0, 0, 0, 0, 0, 0, 0]⟩) hz0)
                clear hz0 hz1
                obtain ⟨d0, d1, d2, d3, d4, d5, d6, d7, d8, d9, d10⟩ := RecAt.all HR.out
                go_wp2_with (go_at_call 17; refine (kind_any _ _ _ zk0 zk1 (by decide) (by decide)).mono ?_; rintro e w' ⟨rfl, rfl⟩)
                clear d0 d1 d2 d3 d4 d5 d6 d7 d8 d9 d10
                refine (Add_any _ _ _ _ _ _ _ _ _ _ _ _ _ HO.out.tab).mono ?_
                rw [HF.out, HZ1.out]
                rintro e w5 ⟨rfl, hC, hT⟩
                replace HR := Lib.hid (HR.out.chg hC nb)
                replace HO := Lib.hid (HO.out.step hC hT)
                clear hC hT
                obtain ⟨d0, d1, d2, d3, d4, d5, d6, d7, d8, d9, d10⟩ := RecAt.all HR.out
                go_wp2_with (go_at_call 17; refine (kind_any _ _ _ zk0 zk1 (by decide) (by decide)).mono ?_; rintro e w' ⟨rfl, rfl⟩)
                go_meet
                exact ⟨_, _, HI.out, HO.out⟩
            · as_aux_lemma =>
                have t0 : (kindOf zk 8 == 0) = false := by simp [hk]
                have t1 : (kindOf zk 8 == 1) = false := by simp [hk]
                have t2 : (kindOf zk 8 == 2) = false := by simp [hk]
                have t3 : (kindOf zk 8 == 3) = true := by simp [hk]
                clear hk
                obtain ⟨d0, d1, d2, d3, d4, d5, d6, d7, d8, d9, d10⟩ := RecAt.all HR.out
                go_wp2_with (go_at_call 17; refine (kind_any _ _ _ zk0 zk1 (by decide) (by decide)).mono ?_; rintro e w' ⟨rfl, rfl⟩)
                clear d0 d1 d2 d3 d4 d5 d6 d7 d8 d9 d10
                refine (due_any _ _ _ _ HO.out.tab).mono ?_
                rintro e w5 ⟨v, rfl, _, hC, hT⟩
                replace HO := Lib.hid (HO.out.step hC hT)
                replace HI := Lib.hid (HI.out.due (mom zn))
                clear hC hT
                go_wp2_with fail
                go_meet
                exact ⟨_, _, HI.out, HO.out⟩
            · as_aux_lemma =>
                have t0 : (kindOf zk 8 == 0) = false := by simp [hk]
                have t1 : (kindOf zk 8 == 1) = false := by simp [hk]
                have t2 : (kindOf zk 8 == 2) = false := by simp [hk]
                have t3 : (kindOf zk 8 == 3) = false := by simp [hk]
                have t4 : (kindOf zk 8 == 4) = true := by simp [hk]
                clear hk
                obtain ⟨d0, d1, d2, d3, d4, d5, d6, d7, d8, d9, d10⟩ := RecAt.all HR.out
                go_wp2_with (go_at_call 17; refine (kind_any _ _ _ zk0 zk1 (by decide) (by decide)).mono ?_; rintro e w' ⟨rfl, rfl⟩)
                clear d0 d1 d2 d3 d4 d5 d6 d7 d8 d9 d10
                refine (answer_any _ _ _ _ _ _ _ _ _ _ _ _ HO.out.tab).mono ?_
                rintro e w5 ⟨rfl, hC, hT⟩
                replace HO := Lib.hid (HO.out.step hC hT)
                replace HI := Lib.hid (HI.out.answer id [q0, q1, q2, q3, q4, q5, q6, q7])
                clear hC hT
                go_wp2_with fail
                go_meet
                exact ⟨_, _, HI.out, HO.out⟩
            · as_aux_lemma =>
                have t0 : (kindOf zk 8 == 0) = false := by simp [hk]
                have t1 : (kindOf zk 8 == 1) = false := by simp [hk]
                have t2 : (kindOf zk 8 == 2) = false := by simp [hk]
                have t3 : (kindOf zk 8 == 3) = false := by simp [hk]
                have t4 : (kindOf zk 8 == 4) = false := by simp [hk]
                have t5 : (kindOf zk 8 == 5) = true := by simp [hk]
                clear hk
                obtain ⟨d0, d1, d2, d3, d4, d5, d6, d7, d8, d9, d10⟩ := RecAt.all HR.out
                go_wp2_with (go_at_call 17; refine (kind_any _ _ _ zk0 zk1 (by decide) (by decide)).mono ?_; rintro e w' ⟨rfl, rfl⟩)
                clear d0 d1 d2 d3 d4 d5 d6 d7 d8 d9 d10
                refine (remove_any _ _ _ _ HO.out.tab).mono ?_
                rintro e w5 ⟨rfl, hC, hT⟩
                replace HO := Lib.hid (HO.out.step hC hT)
                replace HI := Lib.hid (HI.out.remove id)
                clear hC hT
                go_wp2_with fail
                go_meet
                exact ⟨_, _, HI.out, HO.out⟩
            · as_aux_lemma =>
                have t0 : (kindOf zk 8 == 0) = false := by simp; omega
                have t1 : (kindOf zk 8 == 1) = false := by simp; omega
                have t2 : (kindOf zk 8 == 2) = false := by simp; omega
                have t3 : (kindOf zk 8 == 3) = false := by simp; omega
                have t4 : (kindOf zk 8 == 4) = false := by simp; omega
                have t5 : (kindOf zk 8 == 5) = false := by simp; omega
                clear hk
                go_wp2_with fail
                go_meet
                exact ⟨_, _, HI.out, HO.out⟩
          case rest =>
            as_aux_lemma =>
              clear c0 c1 c2 c3 c4 c5 c6 c7 c8 c9 c10
              obtain ⟨T', u', hI', hO'⟩ := hcut
              clear HI HO
              have HI := Lib.hid hI'
              have HO := Lib.hid hO'
              clear hI' hO'
              go_wp2_with fail
              go_loopw [10, 11] (fun n i wr2 => ∃ m : Nat, m ≤ 256 ∧ i = .int .i64 m ∧ n = .int .i64 (busy T' m) ∧ On w b w2.heap.size T' u' wr2) (fun _ i _ => 256 - (intOf i).toNat)
              case atStart => exact ⟨0, by omega, rfl, rfl, HO.out⟩
              case round =>
                obtain ⟨m, hm, rfl, rfl, hO⟩ := hrel
                replace HO := Lib.hid hO
                clear hO
                by_cases hm' : m < 256
                · have hcell := HO.out.cell hm'
                  have hst := Lib.hid (stOf_nat T' hm')
                  have hused := HI.out.used m hm'
                  have B := Lib.hid (busy_succ T' m)
                  have Bl := busy_le T' m
                  go_wp2_with fail
                  refine (state_any _ _ _ _ HO.out.tab).mono ?_
                  rw [hst.out]
                  rintro e w7 ⟨rfl, hC⟩
                  have hcell := (hC.cell (p := ⟨w2.heap.size, m, .none⟩) (lt_blk HO.out.arr) (not_nowhere _)).trans hcell
                  replace HO := Lib.hid (HO.out.idle hC)
                  clear hC
                  by_cases e0 : (T' m).st = 0
                  · have hu : u' m = false := by cases hu : u' m with | false => rfl | true => exact absurd e0 (hused.2 hu)
                    rw [hu] at hcell
                    have f0 : ((T' m).st != 0) = false := by simp [e0]
                    have f1 : ((T' m).st == 1) = false := by simp [e0]
                    have f2 : ((T' m).st == 2) = false := by simp [e0]
                    have E := Lib.hid (show busy T' (m + 1) = busy T' m by rw [B.out, if_neg (by omega)]; rfl)
                    clear hused hu e0
                    go_wp2_with fail
                    go_roundw
                    case rel => exact ⟨m + 1, by omega, by go_num, by rw [E.out], HO.out⟩
                    case measure => simp [intOf]; omega
                  · have hu : u' m = true := hused.1 e0
                    rw [hu] at hcell
                    have f0 : ((T' m).st != 0) = true := by simp [e0]
                    by_cases e1 : (T' m).st = 1
                    · have f1 : ((T' m).st == 1) = true := by simp [e1]
                      have E := Lib.hid (show busy T' (m + 1) = busy T' m + 1 by rw [B.out, if_pos (.inl e1)])
                      clear hused hu e0 e1
                      go_wp2_with fail
                      go_roundw
                      case rel => exact ⟨m + 1, by omega, by go_num, by rw [E.out]; go_num, HO.out⟩
                      case measure => simp [intOf]; omega
                    · have f1 : ((T' m).st == 1) = false := by simp [e1]
                      by_cases e2 : (T' m).st = 2
                      · have f2 : ((T' m).st == 2) = true := by simp [e2]
                        have E := Lib.hid (show busy T' (m + 1) = busy T' m + 1 by rw [B.out, if_pos (.inr e2)])
                        clear hused hu e0 e1 e2
                        go_wp2_with fail
                        go_roundw
                        case rel => exact ⟨m + 1, by omega, by go_num, by rw [E.out]; go_num, HO.out⟩
                        case measure => simp [intOf]; omega
                      · have f2 : ((T' m).st == 2) = false := by simp [e2]
                        have E := Lib.hid (show busy T' (m + 1) = busy T' m by rw [B.out, if_neg (by omega)]; rfl)
                        clear hused hu e0 e1 e2
                        go_wp2_with fail
                        go_roundw
                        case rel => exact ⟨m + 1, by omega, by go_num, by rw [E.out], HO.out⟩
                        case measure => simp [intOf]; omega
                · obtain rfl : m = 256 := by omega
                  have Bf : busy T' 256 ≤ 16 := HI.out.few
                  generalize busy T' 256 = bb at Bf ⊢
                  clear hm hm'
                  go_wp2_with fail
                  go_roundw
                  case rel => exact ⟨k + 1, T', u', by omega, by omega, by go_num, HI.out, HO.out⟩
                  case measure => simp [intOf]; omega
      · have h2 : decide ((k : Int) < 100) = false := by simp; omega
        go_wp2_with fail
        go_ret
        exact ⟨rfl, HO.out.chg⟩
    · obtain rfl : k = zs.length := by omega
      go_wp2_with fail
      go_ret
      exact ⟨rfl, HO.out.chg⟩
end Go.Proofs.Ytiijnhgafadokaa
