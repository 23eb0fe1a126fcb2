/-
  The scheduler (layer 21): the closures of Got and Late.
-/
import Derived.Test.YtiijnhgafadokaaSchF
import Derived.Deep.QuietTactic
import Derived.BigQuiet
import Derived.Deep.RegionHeld3
namespace Go.Proofs.Ytiijnhgafadokaa
open Go.RowKit
set_option linter.unusedVariables false

def inRg (c : Int) (x : Int × Int) : Bool := decide (x.1 ≤ c) && decide (c < x.2)
set_option maxHeartbeats 400000 in
theorem inRg_any (b : Nat) (x : Int × Int) (c : Int) (w : World) (hc : w.cell? ⟨b, 0, .none⟩ = some (.int .i64 c)) :
    Calls Try.prog 77 #[.agg #[.int .i64 x.1, .int .i64 x.2], .pointer (some ⟨b, 0, .none⟩)] w fun e w' => e = .returned (.bool (inRg c x)) ∧ Chg Nowhere w w' := by
  obtain ⟨x1, x2⟩ := x
  have hbl : b < w.heap.size := World.block_lt_of_cell? w _ hc
  by_cases h1 : x1 ≤ c
  · by_cases h2 : c < x2
    · have E := Lib.hid (show inRg c (x1, x2) = true by simp [inRg, h1, h2])
      go_enter Try.func77, Try.ntmps77
      go_wp2_with fail
      go_ret
      rw [E.out]
      exact ⟨rfl, (Chg.refl _ _).alloc _⟩
    · have E := Lib.hid (show inRg c (x1, x2) = false by simp [inRg, h2])
      go_enter Try.func77, Try.ntmps77
      go_wp2_with fail
      go_ret
      rw [E.out]
      exact ⟨rfl, (Chg.refl _ _).alloc _⟩
  · have E := Lib.hid (show inRg c (x1, x2) = false by simp [inRg, h1])
    go_enter Try.func77, Try.ntmps77
    go_wp2_with fail
    go_ret
    rw [E.out]
    exact ⟨rfl, (Chg.refl _ _).alloc _⟩
def IdxTo (w : World) (c : Int) (l : List (Int × Int)) (e : Ending) (w' : World) : Prop :=
  ∃ i : Int, e = .returned (.int .i64 i) ∧ (if l.any (inRg c) then 0 ≤ i else i = -1) ∧ Chg Nowhere w w'
set_option maxHeartbeats 800000 in
set_option maxRecDepth 100000 in
theorem idx_any (b : Nat) (c : Int) (v : Value) (l : List (Int × Int)) (w : World) (hc : w.cell? ⟨b, 0, .none⟩ = some (.int .i64 c)) (h : Rd w v 2 l.length (flat l)) (hl : l.length ≤ 9223372036854775807) :
    Calls Try.prog 89 #[v, .func (.func 77) #[] #[.pointer (some ⟨b, 0, .none⟩)]] w (IdxTo w c l) := by
  obtain ⟨-, A, cp, rfl, -, hA⟩ := h
  have HA := Lib.hid hA
  have HCell := Lib.hid hc
  have hbl : b < w.heap.size := World.block_lt_of_cell? w _ hc
  clear hA hc
  go_enter Try.func89, Try.ntmps89
  go_wp2_with fail
  go_loopw [8] (fun i wr => ∃ (k : Nat), k ≤ l.length ∧ i = .int .i64 k ∧ Hid ((l.take k).any (inRg c) = false) ∧ Chg Nowhere w wr) (fun i _ => 9223372036854775807 - (intOf i).toNat)
  case atStart => exact ⟨0, by omega, rfl, Lib.hid rfl, Chg.refl _ _⟩
  case round =>
    obtain ⟨k, hk, rfl, HN, hC⟩ := hrel
    have HC := Lib.hid hC
    have hcb := (hC.cell (p := ⟨b, 0, .none⟩) hbl (not_nowhere _)).trans HCell.out
    by_cases hk2 : k < l.length
    · obtain ⟨r, hr⟩ : ∃ r, l[k]? = some r := ⟨_, List.getElem?_eq_getElem hk2⟩
      obtain ⟨gr, o, rfl, hgr, hcell⟩ := HA.out (by omega)
      have hlen := flat_len l
      have d0 : wr.cell? ⟨gr, o + k * 2, .none⟩ = some (.int .i64 r.1) := (hC.cell (p := ⟨gr, o + k * 2, .none⟩) hgr (not_nowhere _)).trans ((hcell (k * 2) (by omega)).trans (flat_get _ _ _ hr).1)
      have d1 : wr.cell? ⟨gr, o + k * 2 + 1, .none⟩ = some (.int .i64 r.2) := (hC.cell (p := ⟨gr, o + k * 2 + 1, .none⟩) hgr (not_nowhere _)).trans ((hcell (k * 2 + 1) (by omega)).trans (flat_get _ _ _ hr).2)
      have HCB := Lib.hid hcb
      cases hin : inRg c r with
      | true =>
        have E := Lib.hid (show l.any (inRg c) = true from List.any_eq_true.2 ⟨r, List.mem_of_getElem? hr, hin⟩)
        have HI := Lib.hid hin
        clear hcell hC hr hin hcb
        go_wp2_with fail
        refine (inRg_any b r c wr HCB.out).mono ?_
        rw [HI.out]
        rintro e w3 ⟨rfl, h3⟩
        go_wp2_with fail
        go_ret
        exact ⟨_, rfl, by rw [E.out]; simp, HC.out.trans' h3⟩
      | false =>
        have E := Lib.hid (show (l.take (k + 1)).any (inRg c) = false by rw [List.take_add_one, hr, List.any_append, HN.out]; simp [hin])
        have HI := Lib.hid hin
        clear hcell hC hr hin hcb
        go_wp2_with fail
        refine (inRg_any b r c wr HCB.out).mono ?_
        rw [HI.out]
        rintro e w3 ⟨rfl, h3⟩
        go_wp2_with fail
        go_roundw
        case rel => exact ⟨k + 1, by omega, by go_num, E, HC.out.trans' h3⟩
        case measure => simp [intOf]; omega
    · obtain rfl : k = l.length := by omega
      have E := HN.out
      rw [List.take_length] at E
      go_wp2_with fail
      go_ret
      exact ⟨_, rfl, by rw [E]; rfl, HC.out⟩
set_option maxHeartbeats 400000 in
theorem contains_any (b : Nat) (c : Int) (v : Value) (l : List (Int × Int)) (w : World) (hc : w.cell? ⟨b, 0, .none⟩ = some (.int .i64 c)) (h : Rd w v 2 l.length (flat l)) (hl : l.length ≤ 9223372036854775807) :
    Calls Try.prog 76 #[v, .func (.func 77) #[] #[.pointer (some ⟨b, 0, .none⟩)]] w fun e w' => e = .returned (.bool (l.any (inRg c))) ∧ Chg Nowhere w w' := by
  have HCell := Lib.hid hc
  have HR := Lib.hid h
  have hv := h.2
  obtain ⟨A, cp, rfl, -, -⟩ := hv
  clear hc h
  cases hany : l.any (inRg c) with
  | true =>
    have HE := Lib.hid hany
    clear hany
    go_enter Try.func76, Try.ntmps76
    go_wp2_with fail
    refine (idx_any b c _ l w HCell.out HR.out hl).mono ?_
    rintro e w3 ⟨i, rfl, hi, h3⟩
    rw [if_pos HE.out] at hi
    have HI := Lib.hid h3
    clear h3
    go_wp2_with fail
    go_ret
    exact ⟨rfl, HI.out⟩
  | false =>
    have HE := Lib.hid hany
    clear hany
    go_enter Try.func76, Try.ntmps76
    go_wp2_with fail
    refine (idx_any b c _ l w HCell.out HR.out hl).mono ?_
    rintro e w3 ⟨i, rfl, hi, h3⟩
    rw [if_neg (by rw [HE.out]; decide)] at hi
    subst hi
    go_wp2_with fail
    go_ret
    exact ⟨rfl, h3⟩

/-! Got's second closure: those far behind. -/
def farBehind (top : Int) (r : Rec) : Bool := decide (3 ≤ top) && decide (r.c ≤ top - 3)
set_option maxHeartbeats 400000 in
theorem far_any (b : Nat) (top : Int) (r : Rec) (w : World) (hr : RecOk w r) (ht : InI top) (hc : w.cell? ⟨b, 0, .none⟩ = some (.int .i64 top)) :
    Calls Try.prog 79 #[recV r, .pointer (some ⟨b, 0, .none⟩)] w fun e w' => e = .returned (.bool (farBehind top r)) ∧ Chg Nowhere w w' := by
  obtain ⟨-, A, cp, hv, -, -⟩ := Rd.of_owns hr.row
  unfold recV
  rw [hv]
  have hbl : b < w.heap.size := World.block_lt_of_cell? w _ hc
  have hc0 := hr.c0
  unfold InI at ht
  have HD := Lib.hid (show farBehind top r = (decide (3 ≤ top) && decide (r.c ≤ top - 3)) from rfl)
  clear hr hv
  by_cases h1 : 3 ≤ top
  · by_cases h2 : r.c ≤ top - 3
    · have E := Lib.hid (show farBehind top r = true by rw [HD.out]; simp [h1, h2])
      go_enter Try.func79, Try.ntmps79
      go_wp2_with fail
      go_ret
      rw [E.out]
      exact ⟨rfl, (Chg.refl _ _).alloc _⟩
    · have E := Lib.hid (show farBehind top r = false by rw [HD.out]; simp; omega)
      go_enter Try.func79, Try.ntmps79
      go_wp2_with fail
      go_ret
      rw [E.out]
      exact ⟨rfl, (Chg.refl _ _).alloc _⟩
  · have E := Lib.hid (show farBehind top r = false by rw [HD.out]; simp; omega)
    go_enter Try.func79, Try.ntmps79
    go_wp2_with fail
    go_ret
    rw [E.out]
    exact ⟨rfl, (Chg.refl _ _).alloc _⟩
end Go.Proofs.Ytiijnhgafadokaa
