/-
  The document's scheduler: all, told, lose.
-/
import Derived.Test.YtiijnhgafadokaaRsB
namespace Go.Proofs.Ytiijnhgafadokaa
open Go.RowKit
set_option linter.unusedVariables false
variable {B : Nat}

set_option maxHeartbeats 1600000 in
set_option maxRecDepth 100000 in
theorem allR_any (v : Value) (l : List Rec) (w : World) (hrow : w.ownsRow 0 120 3 v l.length (rcl l)) (hrecs : ∀ r ∈ l, RecOk w r) (hl : l.length ≤ 100000) :
    Calls Try.prog 84 #[v] w (CarriedTo w l) := by
  obtain ⟨i0, hi, hz0, hz1, hz2⟩ := info_parts infoRng
  obtain ⟨-, A, cp, rfl, -, hA⟩ := Rd.of_owns hrow
  have HA := Lib.hid hA
  have HR := Lib.hid hrecs
  clear hA hrow hrecs
  go_enter Try.func84, Try.ntmps84
  go_wp2_with fail
  go_loopw [3, 4] (fun o i wr => ∃ (k : Nat), k ≤ l.length ∧ i = .int .i64 k ∧ wr.ownsRow w.heap.size 49 2 o (cars (l.take k)).length (flat (cars (l.take k))) ∧ Chg Nowhere w wr) (fun _ i _ => 100000 - (intOf i).toNat)
  case atStart => exact ⟨0, by omega, rfl, World.ownsRow_nil _ _ _ _, Chg.refl _ _⟩
  case round =>
    obtain ⟨k, hk, rfl, hO, hC⟩ := hrel
    have HO := Lib.hid hO
    have HC := Lib.hid hC
    have hsz := hC.size
    by_cases hk2 : k < l.length
    · obtain ⟨r, hr⟩ : ∃ r, l[k]? = some r := ⟨_, List.getElem?_eq_getElem hk2⟩
      obtain ⟨gr, o, rfl, hgr, hcell⟩ := HA.out (by omega)
      have hlen := rcl_len l
      have hcc : ∀ j u, j < 3 → (rcl l)[k * 3 + j]? = some u → wr.cell? ⟨gr, o + (k * 3 + j), .none⟩ = some u := fun j u hj hu =>
        (hC.cell (p := ⟨gr, o + (k * 3 + j), .none⟩) hgr (not_nowhere _)).trans ((hcell (k * 3 + j) (by omega)).trans hu)
      obtain ⟨g0, g1, g2⟩ := rcl_get l k r hr
      have d2 : wr.cell? ⟨gr, o + k * 3 + 2, .none⟩ = some r.cv := hcc 2 _ (by omega) g2
      have hro := (HR.out r (List.mem_of_getElem? hr))
      have HRO := Lib.hid hro
      have hb1 := cars_len (l.take k) (fun q hq => HR.out q (List.mem_of_mem_take hq))
      have hb2 : (l.take k).length ≤ k := by simp; omega
      have hb3 := hro.len
      have E := Lib.hid (cars_snoc hr)
      clear hcell hcc g0 g1 g2 hr hC
      rcases hro.row.2 with ⟨hv, h0⟩ | ⟨g', cap', cur', hv, -, hgh, -, -, -, -⟩
      · rw [hv] at d2
        have h1 : r.car = [] := List.length_eq_zero_iff.1 h0
        have E2 := Lib.hid (show cars (l.take (k + 1)) = cars (l.take k) by rw [E.out, h1, List.append_nil])
        clear hro hv h0 h1 hO
        go_wp2_with (at_builtin; refine wpList_append_own_none rfl _ _ 45 rfl w.heap.size 49 i0 2 Try.underlying45 hi _ _ _ rfl HO.out rfl ?_)
        go_roundw
        case rel => exact ⟨k + 1, by omega, by go_num, by rw [E2.out]; exact HO.out, HC.out⟩
        case measure => simp [intOf]; omega
      · rw [hv] at d2
        have hcl := Lib.hid ((own_chg HRO.out.row HC.out (fun _ _ => not_nowhere _)).cells (g := g') (by rw [hv]; rfl))
        have HFL := Lib.hid (flat_one' r.car)
        have hfl := flat_len r.car
        clear hro hv hgh hO
        go_wp2_with (at_builtin; refine wpList_append_own _ rfl _ _ 45 rfl w.heap.size 49 i0 (.agg #[.int .i64 0, .int .i64 0]) 2 16 Try.underlying45 hi hz0 hz1 hz2 rfl (by decide) _ _ _ rfl HO.out ⟨g', 0, .none⟩ r.car.length cap' (flat r.car) rfl hfl hcl.out HFL.out (by unfold maxLen; omega) (by omega) (by omega) ?_; intro v' w3 hown' hgrow3 hnil3; have HN := Lib.hid hown'; have HC3 := Lib.hid (HC.out.grown hgrow3 (fun k' hk' => .inl ((HO.out.lt k' hk').1))); clear hown' hgrow3 hnil3)
        go_roundw
        case rel => exact ⟨k + 1, by omega, by go_num, by rw [E.out, List.length_append, flat_append]; exact HN.out, HC3.out⟩
        case measure => simp [intOf]; omega
    · obtain rfl : k = l.length := by omega
      rw [List.take_length] at hO
      go_wp2_with fail
      go_ret
      exact ⟨_, rfl, hO, HC.out⟩

/-! told. -/
def toldB (n top : Int) (l : List (Int × Int)) : Bool := l.any (inRg n) || decide (n = top)
set_option maxHeartbeats 800000 in
theorem told_any (n top : Int) (v : Value) (l : List (Int × Int)) (w : World) (h : Rd w v 2 l.length (flat l)) (hl : l.length ≤ 9223372036854775807) :
    Calls Try.prog 86 #[.int .i64 n, .int .i64 top, v] w fun e w' => e = .returned (.bool (toldB n top l)) ∧ w = w' := by
  obtain ⟨-, A, cp, rfl, -, hA⟩ := h
  have HA := Lib.hid hA
  clear hA
  go_enter Try.func86, Try.ntmps86
  go_wp2_with fail
  go_loopw [7] (fun i wr => ∃ (k : Nat), k ≤ l.length ∧ i = .int .i64 k ∧ wr = w ∧ Hid ((l.take k).any (inRg n) = false)) (fun i _ => 9223372036854775807 - (intOf i).toNat)
  case atStart => exact ⟨0, by omega, rfl, rfl, Lib.hid (by simp)⟩
  case round =>
    obtain ⟨k, hk, rfl, rfl, HK⟩ := hrel
    by_cases hk2 : k < l.length
    · obtain ⟨⟨a, b⟩, hx⟩ : ∃ x, l[k]? = some x := ⟨_, List.getElem?_eq_getElem hk2⟩
      obtain ⟨g, o, rfl, hg, hcell⟩ := HA.out (by omega)
      have hfl := flat_len l
      have hf := flat_get l k (a, b) hx
      have d0 : wr.cell? ⟨g, o + k * 2, .none⟩ = some (.int .i64 a) := (hcell (k * 2) (by omega)).trans hf.1
      have d1 : wr.cell? ⟨g, o + k * 2 + 1, .none⟩ = some (.int .i64 b) := by
        rw [Nat.add_assoc]
        exact (hcell (k * 2 + 1) (by omega)).trans hf.2
      have HS := Lib.hid (show (l.take (k + 1)).any (inRg n) = inRg n (a, b) by rw [List.take_add_one, hx, List.any_append, HK.out]; simp)
      have HM := Lib.hid (show inRg n (a, b) = true → l.any (inRg n) = true from fun hh => List.any_eq_true.2 ⟨_, List.mem_of_getElem? hx, hh⟩)
      have HI := Lib.hid (show inRg n (a, b) = (decide (a ≤ n) && decide (n < b)) from rfl)
      clear hcell hf hfl hx
      cases h1 : decide (a ≤ n) with
      | false =>
        rw [h1] at HI
        have HS2 := Lib.hid (HS.out.trans (HI.out.trans (Bool.false_and _)))
        go_wp2_with fail
        go_roundw
        case rel => exact ⟨k + 1, by omega, by go_num, (by first | rfl | trivial), HS2⟩
        case measure => simp [intOf]; omega
      | true =>
        rw [h1] at HI
        cases h2 : decide (n < b) with
        | false =>
          rw [h2] at HI
          have HS2 := Lib.hid (HS.out.trans (HI.out.trans rfl))
          go_wp2_with fail
          go_roundw
          case rel => exact ⟨k + 1, by omega, by go_num, (by first | rfl | trivial), HS2⟩
          case measure => simp [intOf]; omega
        | true =>
          rw [h2] at HI
          have HE := Lib.hid (show toldB n top l = true by unfold toldB; rw [HM.out HI.out]; rfl)
          go_wp2_with fail
          go_ret
          rw [HE.out]
          exact ⟨rfl, rfl⟩
    · obtain rfl : k = l.length := by omega
      have HE := Lib.hid (show toldB n top l = decide (n = top) by unfold toldB; have := HK.out; rw [List.take_length] at this; rw [this]; rfl)
      cases hd : decide (n = top) with
      | true =>
        have hb : (n == top) = true := by simpa using hd
        rw [hd] at HE
        go_wp2_with fail
        go_ret
        rw [HE.out]
        exact ⟨rfl, rfl⟩
      | false =>
        have hb : (n == top) = false := by simpa using hd
        rw [hd] at HE
        go_wp2_with fail
        go_ret
        rw [HE.out]
        exact ⟨rfl, rfl⟩

/-! lose. -/
def lostR (f : RF) (vl : Value) (gone left : List Rec) : RF := { f with win := if gone.length = 0 then f.win else max 2 (f.win / 2), lv := vl, l := left }
def LoseRTo (B : Nat) (w : World) (y : Nat) (R : RSch) (k : Nat) (f : RF) (vl : Value) (gone left : List Rec) (e : Ending) (w' : World) : Prop :=
  ∃ v, e = .returned v ∧ w'.ownsRow w.heap.size 49 2 v (cars gone).length (flat (cars gone)) ∧ RSIs B w' y { R with L := R.L.set k (lostR f vl gone left) } ∧ ChgR B w w'
/-- The rows that lose is given. -/
structure Rows (w : World) (v : Value) (l : List Rec) : Prop where
  row : w.ownsRow 0 120 3 v l.length (rcl l)
  recs : ∀ r ∈ l, RecOk w r
  len : l.length ≤ 100000
theorem Rows.keep {w w' : World} {v : Value} {l : List Rec} (h : Rows w v l) {S : Nat → Prop} (hc : Chg S w w') (hS : ∀ i cur t, w.heap[i]? = some (.cells cur t (0,0)) → t = 120 ∨ t = 49 → ¬ S i) : Rows w' v l :=
  ⟨own_chg h.row hc fun i hi => by
    obtain ⟨cur, hh⟩ := own_blk h.row hi
    exact hS _ _ _ hh (.inl rfl), fun r hr => recOk_keep (h.recs r hr) hc fun i cur hh => hS _ _ _ hh (.inr rfl), h.len⟩
theorem Rows.idle {w w' : World} {v : Value} {l : List Rec} (h : Rows w v l) (hc : Chg Nowhere w w') : Rows w' v l := h.keep hc fun _ _ _ _ _ => not_nowhere _
set_option maxHeartbeats 1600000 in
set_option maxRecDepth 100000 in
theorem loseR_any (w : World) (y : Nat) (R : RSch) (g o c : Nat) (h : RSAt B w y (.slice (some ⟨g, o, .none⟩) R.L.length c) R) (k : Nat) (f : RF) (hk : R.L[k]? = some f) (vg vl : Value) (gone left : List Rec) (hg : Rows w vg gone) (hl : Rows w vl left) (hap : Apart R k vl) (hzv : ∀ i, vl.ownBlock = some i → B ≤ i) :
    Calls Try.prog 87 #[.pointer (some ⟨g, o + k * 5, .none⟩), vg, vl] w (LoseRTo B w y R k f vl gone left) := by
  obtain ⟨g1, o1, c1, e, hgl, ⟨d0, d1, d2, d3, d4⟩, hm, hfz, hput⟩ := h.cellsW hk
  simp only [Value.slice.injEq, Option.some.injEq, Addr.mk.injEq] at e
  obtain ⟨⟨rfl, rfl, -⟩, -, rfl⟩ := e
  have hfo := h.fl f (List.mem_of_getElem? hk)
  have hkl := (List.getElem?_eq_some_iff.1 hk).1
  obtain ⟨q1, q2⟩ := hput 4 vl { f with lv := vl, l := left } (by omega) rfl ⟨hl.row, hl.recs, hl.len, hfo.win0, hfo.top0⟩ hap hzv
  obtain ⟨g1, o1, c1, e, hgl1, ⟨b0, b1, b2, b3, b4⟩, -, bfz, bput⟩ := q1.cellsW (k := k) (f := { f with lv := vl, l := left }) (by show (R.L.set k _)[k]? = _; rw [List.getElem?_set_self hkl])
  simp only [Value.slice.injEq, Option.some.injEq, Addr.mk.injEq] at e
  obtain ⟨⟨rfl, rfl, -⟩, -, rfl⟩ := e
  obtain ⟨-, Al, cl, rfl, -, -⟩ := Rd.of_owns hl.row
  obtain ⟨-, Ag, cg, rfl, -, -⟩ := Rd.of_owns hg.row
  obtain ⟨-, curM, tM, hhM, htM⟩ := hm
  have hzg : B ≤ g := h.zL g rfl
  have hwin := hfo.win0
  have f4 := hfz 4
  have f1 := bfz 1
  simp only at b1
  have HQ := Lib.hid q1
  have HQ2 := Lib.hid q2
  have HB := Lib.hid bput
  have HG := Lib.hid hg
  have HCU := Lib.hid (show ∃ cur, w.heap[g]? = some (.cells cur 117 (0,0)) by
    obtain ⟨g2, o2, c2, e, -, -, -, -, -, -, cur, hh⟩ := h.cells hk
    simp only [Value.slice.injEq, Option.some.injEq, Addr.mk.injEq] at e
    obtain ⟨⟨rfl, rfl, -⟩, -, rfl⟩ := e
    exact ⟨cur, hh⟩)
  have hMg : ∀ i, i < w.heap.size → At g i → MineR B w i := fun i _ e => by
    obtain ⟨cur, hh⟩ := HCU.out
    exact ⟨by rw [show i = g from e]; exact hzg, cur, _, by rw [show i = g from e]; exact hh, .inr (.inl rfl)⟩
  have HMg := Lib.hid hMg
  have hkeep : ∀ (w2 : World), Chg (At g) w w2 → Rows w2 (.slice Ag gone.length cg) gone := fun w2 hc => hg.keep hc fun i cur t hh ht e => by
    obtain ⟨cur2, hh2⟩ := HCU.out
    rcases ht with rfl | rfl
    · exact types_nott hh hh2 (by decide) (show i = g from e)
    · exact types_nott hh hh2 (by decide) (show i = g from e)
  have HKE := Lib.hid hkeep
  have HOK := Lib.hid hfo
  have HKL := Lib.hid hl
  have HAP := Lib.hid hap
  have HH := Lib.hid h
  have HKK := Lib.hid hk
  clear h hk hg hl hap hput q1 q2 bput hkeep hMg hfo d0 d2 d3 b0 b2 b3 b4 hfz bfz hhM htM
  by_cases h0 : gone.length = 0
  · have hd : decide (0 < gone.length) = false := decide_eq_false (by omega)
    have E := Lib.hid (show lostR f (.slice Al left.length cl) gone left = { f with lv := .slice Al left.length cl, l := left } by unfold lostR; rw [if_pos h0])
    clear h0
    go_enter Try.func87, Try.ntmps87
    go_wp2_with fail
    have HR := Lib.hid (HKE.out _ HQ2.out)
    refine (allR_any _ gone _ HR.out.row HR.out.recs HR.out.len).mono ?_
    rintro e w3 ⟨v, rfl, r1, r2⟩
    have R1 := Lib.hid r1
    have R2 := Lib.hid r2
    clear r1 r2
    go_wp2_with fail
    go_ret
    refine ⟨_, rfl, own_base R1.out (by rw [set_size]; exact Nat.le_refl _), ?_, (ChgR.of HQ2.out HMg.out).trans (ChgR.none R2.out)⟩
    rw [E.out]
    exact ⟨_, HQ.out.idle R2.out⟩
  · have hd : decide (0 < gone.length) = true := decide_eq_true (by omega)
    obtain ⟨z, hz⟩ : ∃ z, f.win / 2 = z := ⟨_, rfl⟩
    have E := Lib.hid (show lostR f (.slice Al left.length cl) gone left = { f with win := max 2 z, lv := .slice Al left.length cl, l := left } by unfold lostR; rw [if_neg h0, hz])
    have hzb : 1 ≤ z ∧ z ≤ 16 := by omega
    obtain ⟨x, hx⟩ : ∃ x, max 2 z = x := ⟨_, rfl⟩
    obtain ⟨p1, p2⟩ := HB.out 1 (.int .i64 x) { f with win := x, lv := .slice Al left.length cl, l := left } (by omega) rfl ⟨HKL.out.row.elim fun a b => by
      exact (own_chg (⟨a, b⟩ : w.ownsRow _ _ _ _ _ _) HQ2.out fun i hi e => by
        obtain ⟨cur2, hh2⟩ := HCU.out
        obtain ⟨cur, hh⟩ := own_blk (⟨a, b⟩ : w.ownsRow _ _ _ _ _ _) hi
        exact types_nott hh hh2 (by decide) (show i = g from e)), (HQ.out.fl { f with lv := .slice Al left.length cl, l := left } (List.mem_of_getElem? (i := k) (by show (R.L.set k _)[k]? = _; rw [List.getElem?_set_self hkl]))).recs, HKL.out.len, (by show 2 ≤ x ∧ x ≤ 32; omega), HOK.out.top0⟩ (fun i g' r hi ne h1 h2 => by
        simp only at hi
        rw [List.getElem?_set_ne (fun e => ne e.symm)] at hi
        exact HAP.out i g' r hi ne h1 h2) hzv
    simp only [List.set_set] at p1
    rw [hx] at E
    clear h0
    have P1 := Lib.hid p1
    have P2 := Lib.hid (HQ2.out.trans' p2)
    clear p1 p2
    rcases (by omega : z < 2 ∨ z = 2 ∨ 2 < z) with hh | rfl | hh
    · obtain rfl : x = 2 := by omega
      clear hx
      go_enter Try.func87, Try.ntmps87
      go_wp2_with fail
      have HR := Lib.hid (HKE.out _ P2.out)
      refine (allR_any _ gone _ HR.out.row HR.out.recs HR.out.len).mono ?_
      rintro e w3 ⟨v, rfl, r1, r2⟩
      have R1 := Lib.hid r1
      have R2 := Lib.hid r2
      clear r1 r2
      go_wp2_with fail
      go_ret
      refine ⟨_, rfl, own_base R1.out (by rw [set_size, set_size]; exact Nat.le_refl _), ?_, (ChgR.of P2.out HMg.out).trans (ChgR.none R2.out)⟩
      rw [E.out]
      exact ⟨_, P1.out.idle R2.out⟩
    · obtain rfl : x = 2 := by omega
      clear hx
      go_enter Try.func87, Try.ntmps87
      go_wp2_with fail
      have HR := Lib.hid (HKE.out _ P2.out)
      refine (allR_any _ gone _ HR.out.row HR.out.recs HR.out.len).mono ?_
      rintro e w3 ⟨v, rfl, r1, r2⟩
      have R1 := Lib.hid r1
      have R2 := Lib.hid r2
      clear r1 r2
      go_wp2_with fail
      go_ret
      refine ⟨_, rfl, own_base R1.out (by rw [set_size, set_size]; exact Nat.le_refl _), ?_, (ChgR.of P2.out HMg.out).trans (ChgR.none R2.out)⟩
      rw [E.out]
      exact ⟨_, P1.out.idle R2.out⟩
    · obtain rfl : x = z := by omega
      clear hx
      go_enter Try.func87, Try.ntmps87
      go_wp2_with fail
      have HR := Lib.hid (HKE.out _ P2.out)
      refine (allR_any _ gone _ HR.out.row HR.out.recs HR.out.len).mono ?_
      rintro e w3 ⟨v, rfl, r1, r2⟩
      have R1 := Lib.hid r1
      have R2 := Lib.hid r2
      clear r1 r2
      go_wp2_with fail
      go_ret
      refine ⟨_, rfl, own_base R1.out (by rw [set_size, set_size]; exact Nat.le_refl _), ?_, (ChgR.of P2.out HMg.out).trans (ChgR.none R2.out)⟩
      rw [E.out]
      exact ⟨_, P1.out.idle R2.out⟩
end Go.Proofs.Ytiijnhgafadokaa
