/-
  Package slices: IndexFunc, DeleteFunc at ranges, with the closure of Beyond; package inbox: Beyond.
-/
import Derived.Test.YtlkbfacdaelbfaaInA
import Derived.Deep.QuietTactic
import Derived.BigQuiet
namespace Go.Proofs.Ytlkbfacdaelbfaa
open Go.RowKit Ae
set_option linter.unusedVariables false
set_option linter.unusedSimpArgs false

def lowR (c : Int) (r : Ra.Row) : Bool := decide (r.1 ≤ c)
set_option maxHeartbeats 400000 in
theorem lowR_any (b : Nat) (r : Ra.Row) (c : Int) (w : World) (hc : w.cell? ⟨b, 0, .none⟩ = some (.int .i64 c)) :
    Calls Try.prog 84 #[.agg #[.int .i64 r.1, .int .i64 r.2], .pointer (some ⟨b, 0, .none⟩)] w (Gives w (.bool (lowR c r))) := by
  obtain ⟨x1, x2⟩ := r
  have hbl : b < w.heap.size := World.block_lt_of_cell? w _ hc
  by_cases h1 : x1 ≤ c
  · have E := Lib.hid (show lowR c (x1, x2) = true by simp [lowR, h1])
    go_enter Try.func84, Try.ntmps84
    go_wp2_with fail
    go_ret
    rw [E.out]
    exact ⟨rfl, (Chg.refl _ _).alloc _⟩
  · have E := Lib.hid (show lowR c (x1, x2) = false by simp [lowR]; omega)
    go_enter Try.func84, Try.ntmps84
    go_wp2_with fail
    go_ret
    rw [E.out]
    exact ⟨rfl, (Chg.refl _ _).alloc _⟩
def IdxR (w : World) (c : Int) (l : List Ra.Row) (e : Ending) (w' : World) : Prop :=
  ((e = .returned (.int .i64 (-1)) ∧ ∀ r ∈ l, lowR c r = false) ∨ ∃ k : Nat, e = .returned (.int .i64 (k : Int)) ∧ k < l.length ∧ (∀ r ∈ l.take k, lowR c r = false) ∧ ∀ r, l[k]? = some r → lowR c r = true) ∧ Chg Nowhere w w'
set_option maxHeartbeats 800000 in
set_option maxRecDepth 100000 in
theorem idxR_any (b : Nat) (c : Int) (v : Value) (l : List Ra.Row) (w : World) (hc : w.cell? ⟨b, 0, .none⟩ = some (.int .i64 c)) (h : Rd w v 2 l.length (flat l)) (hl : l.length ≤ 4000000) :
    Calls Try.prog 97 #[v, .func (.func 84) #[] #[.pointer (some ⟨b, 0, .none⟩)]] w (IdxR w c l) := by
  obtain ⟨-, A, cp, rfl, -, hA⟩ := h
  have HA := Lib.hid hA
  have HCell := Lib.hid hc
  have hbl : b < w.heap.size := World.block_lt_of_cell? w _ hc
  clear hA hc
  go_enter Try.func97, Try.ntmps97
  go_wp2_with fail
  go_loopw [8] (fun i wr => ∃ (k : Nat), k ≤ l.length ∧ i = .int .i64 k ∧ Hid (∀ r ∈ l.take k, lowR c r = false) ∧ Chg Nowhere w wr) (fun i _ => 9223372036854775807 - (intOf i).toNat)
  case atStart => exact ⟨0, by omega, rfl, Lib.hid (by simp), Chg.refl _ _⟩
  case round =>
    obtain ⟨k, hk, rfl, HN, hC⟩ := hrel
    have HC := Lib.hid hC
    have hcb := (hC.cell (p := ⟨b, 0, .none⟩) hbl (not_nowhere _)).trans HCell.out
    by_cases hk2 : k < l.length
    · obtain ⟨r, hr⟩ : ∃ r, l[k]? = some r := ⟨_, List.getElem?_eq_getElem hk2⟩
      obtain ⟨gr, o, rfl, hgr, hcell⟩ := HA.out (by omega)
      have hlen := flat_len l
      have d0 : wr.cell? ⟨gr, o + k * 2, .none⟩ = some (.int .i64 r.1) := (hC.cell (p := ⟨gr, o + k * 2, .none⟩) hgr (not_nowhere _)).trans ((hcell (k * 2) (by omega)).trans (flat_get _ _ _ hr).1)
      have d1 : wr.cell? ⟨gr, o + k * 2 + 1, .none⟩ = some (.int .i64 r.2) := (hC.cell (p := ⟨gr, o + k * 2 + 1, .none⟩) hgr (not_nowhere _)).trans ((hcell (k * 2 + 1) (by omega)).trans (flat_get _ _ _ hr).2)
      have HCB := Lib.hid hcb
      have HR := Lib.hid hr
      cases hin : lowR c r with
      | true =>
        have HI := Lib.hid hin
        clear hcell hC hr hin hcb
        go_wp2_with fail
        refine (lowR_any b r c wr HCB.out).mono ?_
        rw [HI.out]
        rintro e w3 ⟨rfl, h3⟩
        go_wp2_with fail
        go_ret
        exact ⟨.inr ⟨k, rfl, hk2, HN.out, fun r2 h2 => by rw [HR.out] at h2; cases h2; exact HI.out⟩, HC.out.trans' h3⟩
      | false =>
        have E := Lib.hid (show ∀ r ∈ l.take (k + 1), lowR c r = false from fun r2 h2 => by
          rw [List.take_add_one, hr] at h2
          rcases List.mem_append.1 h2 with h3 | h3
          · exact HN.out r2 h3
          · simp at h3; rw [h3]; exact hin)
        have HI := Lib.hid hin
        clear hcell hC hr hin hcb
        go_wp2_with fail
        refine (lowR_any b r c wr HCB.out).mono ?_
        rw [HI.out]
        rintro e w3 ⟨rfl, h3⟩
        go_wp2_with fail
        go_roundw
        case rel => exact ⟨k + 1, by omega, by go_num, E, HC.out.trans' h3⟩
        case measure => simp [intOf]; omega
    · obtain rfl : k = l.length := by omega
      have E := HN.out
      rw [List.take_length] at E
      have HE := Lib.hid E
      clear E
      go_wp2_with fail
      go_ret
      exact ⟨.inl ⟨rfl, HE.out⟩, HC.out⟩
/-- What a deletion keeps as it goes. -/
structure DelIn (w : World) (g cap n : Nat) (c : Int) (l : List Ra.Row) (i j : Nat) (wr : World) : Prop where
  row : ∃ cur, RowAt wr g cap cur ∧ cur.take (i * 2) = flat ((l.take j).filter fun r => !lowR c r) ∧ ∀ k r, j ≤ k → l[k]? = some r → cur[k * 2]? = some (.int .i64 r.1) ∧ cur[k * 2 + 1]? = some (.int .i64 r.2)
  i : i = ((l.take j).filter fun r => !lowR c r).length
  chg : Chg (At g) w wr
def DelR (w : World) (g cap : Nat) (c : Int) (l : List Ra.Row) (e : Ending) (w' : World) : Prop :=
  ∃ m, m = (l.filter fun r => !lowR c r).length ∧ e = .returned (.slice (some ⟨g, 0, none⟩) m cap) ∧ w'.ownsRow 0 33 2 (.slice (some ⟨g, 0, none⟩) m cap) m (flat (l.filter fun r => !lowR c r)) ∧ Chg (At g) w w'
theorem RowAt.setc {w : World} {g cap : Nat} {cur : List Value} (h : RowAt w g cap cur) (j : Nat) (v : Value) : RowAt (w.setCell ⟨g, j, none⟩ v) g cap (cur.set j v) :=
  ⟨by rw [set_blk v h.blk, List.setIfInBounds_toArray], by rw [List.length_set]; exact h.size, h.max⟩
theorem RowAt.idle {w w' : World} {g cap : Nat} {cur : List Value} (h : RowAt w g cap cur) (hc : Chg Nowhere w w') : RowAt w' g cap cur := ⟨hc.same h.blk, h.size, h.max⟩
theorem DelIn.idle {w wr w' : World} {g cap n : Nat} {c : Int} {l : List Ra.Row} {i j : Nat} (h : DelIn w g cap n c l i j wr) (hc : Chg Nowhere wr w') : DelIn w g cap n c l i j w' := by
  obtain ⟨cur, h1, h2, h3⟩ := h.row
  exact ⟨⟨cur, h1.idle hc, h2, h3⟩, h.i, h.chg.then_none hc⟩
theorem filter_snoc {l : List Ra.Row} {p : Ra.Row → Bool} {j : Nat} {r : Ra.Row} (hr : l[j]? = some r) : (l.take (j + 1)).filter p = (l.take j).filter p ++ if p r then [r] else [] := by
  rw [List.take_add_one, hr, List.filter_append]
  cases hp : p r <;> simp [hp]
theorem DelIn.drop {w wr : World} {g cap n : Nat} {c : Int} {l : List Ra.Row} {i j : Nat} {r : Ra.Row} (h : DelIn w g cap n c l i j wr) (hr : l[j]? = some r) (hp : lowR c r = true) : DelIn w g cap n c l i (j + 1) wr := by
  obtain ⟨cur, h1, h2, h3⟩ := h.row
  have e := filter_snoc (p := fun r => !lowR c r) hr
  simp only [hp, Bool.not_true, Bool.false_eq_true, if_false, List.append_nil] at e
  exact ⟨⟨cur, h1, by rw [e]; exact h2, fun k r hk => h3 k r (by omega)⟩, by rw [e]; exact h.i, h.chg⟩
theorem DelIn.add {w wr : World} {g cap n : Nat} {c : Int} {l : List Ra.Row} {i j : Nat} {r : Ra.Row} (h : DelIn w g cap n c l i j wr) (hij : i ≤ j) (hn : l.length ≤ cap) (hr : l[j]? = some r) (hp : lowR c r = false) : DelIn w g cap n c l (i + 1) (j + 1) ((wr.setCell ⟨g, i * 2, none⟩ (.int .i64 r.1)).setCell ⟨g, i * 2 + 1, none⟩ (.int .i64 r.2)) := by
  obtain ⟨cur, h1, h2, h3⟩ := h.row
  have e := filter_snoc (p := fun r => !lowR c r) hr
  simp only [hp, Bool.not_false, if_true] at e
  have hj : j < l.length := (List.getElem?_eq_some_iff.1 hr).1
  have hs := h1.size
  refine ⟨⟨(cur.set (i * 2) (.int .i64 r.1)).set (i * 2 + 1) (.int .i64 r.2), (h1.setc _ _).setc _ _, ?_, fun k r2 hk hr2 => ?_⟩, by rw [e, List.length_append, ← h.i]; rfl, (h.chg.putAt).putAt⟩
  · rw [e, flat_append, ← h2, show (i + 1) * 2 = i * 2 + 1 + 1 by omega, List.take_add_one, List.take_add_one, List.getElem?_set_self (by rw [List.length_set]; omega), List.getElem?_set_ne (by omega), List.getElem?_set_self (by omega), List.take_set_of_le (by omega), List.take_set_of_le (by omega)]
    simp [flat, rcells]
  · have := h3 k r2 (by omega) hr2
    rw [List.getElem?_set_ne (by omega), List.getElem?_set_ne (by omega), List.getElem?_set_ne (by omega), List.getElem?_set_ne (by omega)]
    exact this
theorem DelIn.start {w w2 : World} {g cap k : Nat} {c : Int} {l : List Ra.Row} (h : w.ownsRow 0 33 2 (.slice (some ⟨g, 0, none⟩) l.length cap) l.length (flat l)) (hc : Chg Nowhere w w2) (hk : k < l.length) (h1 : ∀ r ∈ l.take k, lowR c r = false) (h2 : ∀ r, l[k]? = some r → lowR c r = true) : DelIn w g cap l.length c l k (k + 1) w2 := by
  obtain ⟨g', cap', R, e, hrow, hn⟩ := own_rowAt h (by omega)
  simp only [Value.slice.injEq, Option.some.injEq, Addr.mk.injEq, and_true, true_and] at e
  obtain ⟨rfl, rfl⟩ := e
  obtain ⟨r, hr⟩ : ∃ r, l[k]? = some r := ⟨_, List.getElem?_eq_getElem hk⟩
  have e := filter_snoc (p := fun r => !lowR c r) hr
  simp only [h2 r hr, Bool.not_true, Bool.false_eq_true, if_false, List.append_nil] at e
  rw [show (l.take k).filter (fun r => !lowR c r) = l.take k from List.filter_eq_self.2 fun r hr => by rw [h1 r hr]; rfl] at e
  have hl := flat_len l
  refine ⟨⟨flat l ++ R, hrow.idle hc, ?_, fun q r2 hq hr2 => ?_⟩, by rw [e, List.length_take]; omega, hc.mono fun _ _ h => h.elim⟩
  · rw [e, flat_take, List.take_append_of_le_length (by omega)]
  · obtain ⟨g0, g1⟩ := flat_get l q r2 hr2
    have hq2 := (List.getElem?_eq_some_iff.1 hr2).1
    rw [List.getElem?_append_left (by omega), List.getElem?_append_left (by omega)]
    exact ⟨g0, g1⟩
theorem DelIn.done {w wr : World} {g cap n : Nat} {c : Int} {l : List Ra.Row} {i : Nat} (h : DelIn w g cap n c l i l.length wr) (hn : l.length ≤ cap) (hi : i ≤ l.length) :
    ∃ w2, (∀ ty dc, (Builtin.clear_ #[30] ty #[.slice (some ⟨g, i * 2, none⟩) (l.length - i) dc]).run Try.prog wr = .ok (.tuple #[]) w2) ∧ w2.ownsRow 0 33 2 (.slice (some ⟨g, 0, none⟩) i cap) i (flat (l.filter fun r => !lowR c r)) ∧ Chg (At g) w w2 ∧ i = (l.filter fun r => !lowR c r).length := by
  obtain ⟨cur, h1, h2, h3⟩ := h.row
  have h4 := h.i
  rw [List.take_length] at h2 h4
  have hs := h1.size
  refine ⟨_, fun ty dc => run_clear2 wr ty g (i * 2) (l.length - i) dc cur _ h1.blk (by omega), (h1.set (length_splice _ _ _ (by rw [List.length_replicate]; omega))).own (by omega) (by rw [flat_len, ← h4]) ?_, h.chg.putRow (.inl (At.self g)), h4⟩
  unfold splice
  rw [List.take_append_of_le_length (by rw [List.length_take]; omega), List.take_take, Nat.min_self]
  exact h2
set_option maxHeartbeats 1600000 in
set_option maxRecDepth 100000 in
theorem delR_any (b g cap : Nat) (c : Int) (l : List Ra.Row) (w : World) (hb : w.heap[b]? = some (.cells #[.int .i64 c] 3 (0, 0))) (h : w.ownsRow 0 33 2 (.slice (some ⟨g, 0, none⟩) l.length cap) l.length (flat l)) (hl : l.length ≤ 2000000) :
    Calls Try.prog 83 #[.slice (some ⟨g, 0, none⟩) l.length cap, .func (.func 84) #[] #[.pointer (some ⟨b, 0, .none⟩)]] w (DelR w g cap c l) := by
  have HI := Lib.hid (idxR_any b c _ l w (by rw [cell_blk hb]; rfl) (Rd.of_owns h) (by omega))
  have HO := Lib.hid h
  have HB := Lib.hid hb
  have hbg : b ≠ g := by
    rintro rfl
    obtain ⟨cur, hh⟩ := own_blk h (i := b) rfl
    rw [hb] at hh
    simp at hh
  have hcap : l.length ≤ cap := by
    rcases h.2 with ⟨h1, h0⟩ | ⟨g', cap', cur, h1, _, _, hnc, _⟩
    · omega
    · simp only [Value.slice.injEq] at h1; omega
  have hcapm : cap ≤ maxLen := by
    rcases h.2 with ⟨h1, h0⟩ | ⟨g', cap', cur, h1, _, _, hnc, hm, _⟩
    · cases h1
    · simp only [Value.slice.injEq] at h1; omega
  unfold maxLen at hcapm
  clear h hb
  go_enter Try.func83, Try.ntmps83
  go_upto_region 2 with (go_at_call 97; refine HI.out.mono ?_; rintro e w2 ⟨h1, h2⟩; have H2 := Lib.hid h2; clear h2; rcases h1 with ⟨rfl, h1⟩ | ⟨k, rfl, h1, h3, h4⟩)
  · have H1 := Lib.hid (show (l.filter fun r => !lowR c r) = l from List.filter_eq_self.2 fun r hr => by rw [h1 r hr]; rfl)
    clear h1
    go_wp2_with fail
    go_ret
    exact ⟨l.length, by rw [H1.out], rfl, by rw [H1.out]; exact own_chg HO.out H2.out (fun _ _ => not_nowhere _), H2.out.mono fun _ _ h => h.elim⟩
  · have HS := Lib.hid (DelIn.start HO.out H2.out h1 h3 h4)
    clear h3 h4
    have hkf : ((k : Int) == -1) = false := by simp
    go_wp2_with fail
    go_loopw [5, 6] (fun i j wr => ∃ (a q : Nat), i = .int .i64 (a : Int) ∧ j = .int .i64 (q : Int) ∧ q ≤ l.length ∧ a < q ∧ Hid (DelIn w g cap l.length c l a q wr)) (fun _ j _ => l.length - (intOf j).toNat)
    case atStart => exact ⟨k, k + 1, rfl, by go_num, by omega, by omega, HS⟩
    case round =>
      obtain ⟨a, q, rfl, rfl, hq, haq, HD⟩ := hrel
      by_cases hq2 : q < l.length
      · obtain ⟨r, hr⟩ : ∃ r, l[q]? = some r := ⟨_, List.getElem?_eq_getElem hq2⟩
        obtain ⟨cur, hrow, htk, hrest⟩ := HD.out.row
        obtain ⟨e0, e1⟩ := hrest q r (Nat.le_refl _) hr
        have d0 := hrow.cell e0
        have d1 := hrow.cell e1
        have hqd : decide ((q : Int) < (l.length : Int)) = true := decide_eq_true (by omega)
        have hqi : (q : Int) < (l.length : Int) := by omega
        have HBR := Lib.hid (HD.out.chg.keep HB.out hbg)
        have HR := Lib.hid hr
        clear hr hrow htk hrest e0 e1
        go_upto_region 8 with fail
        have HV := Lib.hid (alloc_new wr (Obj.cells #[.int .i64 r.1, .int .i64 r.2] 33))
        have HD8 := Lib.hid (HD.out.idle ((Chg.refl Nowhere wr).alloc (Obj.cells #[.int .i64 r.1, .int .i64 r.2] 33)))
        have HB8 := Lib.hid (((Chg.refl Nowhere wr).alloc (Obj.cells #[.int .i64 r.1, .int .i64 r.2] 33)).same HBR.out)
        obtain ⟨zb, hzb⟩ : ∃ x, x = wr.heap.size := ⟨_, rfl⟩
        rw [← hzb] at HV ⊢
        generalize wr.alloc (Obj.cells #[.int .i64 r.1, .int .i64 r.2] 33) = w8 at HV HD8 HB8 ⊢
        clear hzb HD d0 d1 HBR
        have v0 : w8.cell? ⟨zb, 0, none⟩ = some (.int .i64 r.1) := by rw [cell_blk HV.out]; rfl
        have v1 : w8.cell? ⟨zb, 1, none⟩ = some (.int .i64 r.2) := by rw [cell_blk HV.out]; rfl
        have hcb : w8.cell? ⟨b, 0, none⟩ = some (.int .i64 c) := by rw [cell_blk HB8.out]; rfl
        have HCB := Lib.hid hcb
        clear hcb
        cases hin : lowR c r with
        | true =>
          have HIN := Lib.hid hin
          clear hin
          go_wp2_with fail
          refine (lowR_any b r c _ HCB.out).mono ?_
          rw [HIN.out]
          rintro e w3 ⟨rfl, h3⟩
          have HD3 := Lib.hid ((HD8.out.idle h3).drop HR.out HIN.out)
          clear h3
          go_wp2_with fail
          go_roundw
          case rel => exact ⟨a, q + 1, rfl, by go_num, by omega, by omega, HD3⟩
          case measure => simp [intOf]; omega
        | false =>
          have HIN := Lib.hid hin
          clear hin
          go_wp2_with fail
          refine (lowR_any b r c _ HCB.out).mono ?_
          rw [HIN.out]
          rintro e w3 ⟨rfl, h3⟩
          have HD3 := Lib.hid ((HD8.out.idle h3).add (by omega) hcap HR.out HIN.out)
          have u0 : w3.cell? ⟨zb, 0, none⟩ = some (.int .i64 r.1) := by rw [cell_blk (h3.same HV.out)]; rfl
          have u1 : w3.cell? ⟨zb, 1, none⟩ = some (.int .i64 r.2) := by rw [cell_blk (h3.same HV.out)]; rfl
          obtain ⟨cu3, hrow3, -⟩ := (HD8.out.idle h3).row
          have f0 : w3.frozen? ⟨g, a * 2, none⟩ = false := frozen_blk hrow3.blk
          have f1 : w3.frozen? ⟨g, a * 2 + 1, none⟩ = false := frozen_blk hrow3.blk
          have g0 : w3.cell? ⟨g, a * 2, none⟩ = some (cu3.getD (a * 2) undef) := hrow3.cell (some_getD (by rw [hrow3.size]; omega))
          have g1 : w3.cell? ⟨g, a * 2 + 1, none⟩ = some (cu3.getD (a * 2 + 1) undef) := hrow3.cell (some_getD (by rw [hrow3.size]; omega))
          have hal : a < l.length := by omega
          have hai : (a : Int) < (l.length : Int) := by omega
          clear h3 hrow3
          go_wp2_with fail
          go_roundw
          case rel => exact ⟨a + 1, q + 1, by go_num, by go_num, by omega, by omega, HD3⟩
          case measure => simp [intOf]; omega
      · obtain rfl : q = l.length := by omega
        have hqd : decide ((l.length : Int) < (l.length : Int)) = false := decide_eq_false (by omega)
        have hqi : ¬ ((l.length : Int) < (l.length : Int)) := by omega
        obtain ⟨w5, hcl, h5, h6, h7⟩ := HD.out.done hcap (by omega)
        have H5 := Lib.hid (show DelR w g cap c l (.returned (.slice (some ⟨g, 0, none⟩) a cap)) w5 from ⟨a, h7, rfl, h5, h6⟩)
        clear h5 h6 h7
        have hal : ¬ ((l.length : Int) < (a : Int)) := by omega
        have hca : ¬ (cap = a) := by omega
        have hle : (a : Int) ≤ (l.length : Int) := by omega
        have hle2 : a ≤ l.length := by omega
        have hle3 : a ≤ cap := by omega
        have hle4 : (a : Int) ≤ (cap : Int) := by omega
        clear HD hq haq hq2
        go_wp2_with fail
        go_ret
        exact H5.out
def DelV (w : World) (v : Value) (c : Int) (l : List Ra.Row) (e : Ending) (w' : World) : Prop :=
  ∃ v', e = .returned v' ∧ w'.ownsRow 0 33 2 v' (l.filter fun r => !lowR c r).length (flat (l.filter fun r => !lowR c r)) ∧ v'.ownBlock = v.ownBlock ∧ Chg (fun i => v.ownBlock = some i) w w'
set_option maxHeartbeats 1600000 in
set_option maxRecDepth 100000 in
theorem delV_any (b : Nat) (v : Value) (c : Int) (l : List Ra.Row) (w : World) (hb : w.heap[b]? = some (.cells #[.int .i64 c] 3 (0, 0))) (h : w.ownsRow 0 33 2 v l.length (flat l)) (hl : l.length ≤ 2000000) :
    Calls Try.prog 83 #[v, .func (.func 84) #[] #[.pointer (some ⟨b, 0, .none⟩)]] w (DelV w v c l) := by
  rcases h.2 with ⟨rfl, h0⟩ | ⟨g, cap, cur, rfl, _⟩
  · obtain rfl : l = [] := List.eq_nil_of_length_eq_zero h0
    have HI := Lib.hid (idxR_any b c _ [] w (by rw [cell_blk hb]; rfl) (Rd.of_owns h) (by simp))
    clear h
    go_enter Try.func83, Try.ntmps83
    go_wp2_with (go_at_call 97; refine HI.out.mono ?_; rintro e w2 ⟨h1, h2⟩; have H2 := Lib.hid h2; clear h2; rcases h1 with ⟨rfl, h1⟩ | ⟨k, rfl, h1, h3, h4⟩; rotate_left; exact absurd h1 (by simp))
    go_ret
    exact ⟨_, rfl, World.ownsRow_nil _ _ _ _, rfl, H2.out.mono fun _ _ h => h.elim⟩
  · refine (delR_any b g cap c l w hb h hl).mono ?_
    rintro e w' ⟨m, hm, rfl, h1, h2⟩
    exact ⟨_, rfl, hm ▸ h1, rfl, h2.mono fun i _ hi => by cases hi; rfl⟩
theorem own_take {w : World} {l : List Ra.Row} {A : Option Addr} {n c m : Nat} (h : w.ownsRow 0 33 2 (.slice A n c) n (flat l)) (hn : n = l.length) (hm : m ≤ n) : w.ownsRow 0 33 2 (.slice A m c) m (flat (l.take m)) := by
  refine ⟨by rw [flat_len, List.length_take]; omega, ?_⟩
  rcases h.2 with ⟨h1, h0⟩ | ⟨g, cap, cur, h1, q1, q2, q3, q4, q5, q6⟩
  · simp only [Value.slice.injEq] at h1
    obtain ⟨rfl, -, rfl⟩ := h1
    obtain rfl : m = 0 := by omega
    exact .inl ⟨rfl, rfl⟩
  · simp only [Value.slice.injEq] at h1
    obtain ⟨rfl, -, rfl⟩ := h1
    refine .inr ⟨g, c, cur, rfl, q1, q2, by omega, q4, q5, ?_⟩
    rw [flat_take, ← q6, List.take_take]
    congr 1
    omega
theorem own_cap {w : World} {base : Nat} {t : TypeId} {size n c : Nat} {A : Option Addr} {xs : List Value} (h : w.ownsRow base t size (.slice A n c) n xs) : n ≤ c := by
  rcases h.2 with ⟨h1, h0⟩ | ⟨g, cap, cur, h1, q1, q2, q3, q4, q5, q6⟩
  · simp only [Value.slice.injEq] at h1; omega
  · simp only [Value.slice.injEq] at h1; omega
/-- What lies beyond: of those behind what is read next the first eight. -/
def In.beyond (x : In) (y : Int) : List Ra.Row := (x.L.filter fun r => !lowR y r).take 8
def GivesBeyond (w : World) (x : In) : Ending → World → Prop := fun e w' => ∃ v y, e = .returned v ∧ NextIs x.L x.done y ∧ w'.ownsRow 0 33 2 v (x.beyond y).length (flat (x.beyond y)) ∧ (∀ i, v.ownBlock = some i → w.heap.size ≤ i) ∧ Chg Nowhere w w'
set_option maxHeartbeats 1600000 in
set_option maxRecDepth 100000 in
theorem beyondIn_any (o : Nat) (F : Nat → Prop) (x : In) (w : World) (h : InAt w o F x) (hx : x.Ok) (hd : x.done ≤ 900000) : Calls Try.prog 41 #[.pointer (some ⟨o, 0, none⟩)] w (GivesBeyond w x) := by
  have hmf : ∀ (fn : Fn) (first cap : Array Value) (w : World), (Instr.makeFunc fn first cap).run Try.prog w = .ok (.func fn first cap) w := fun _ _ _ _ => rfl
  have H := Lib.hid h
  have HR := Lib.hid (hx.rows hd)
  have HN := Lib.hid (hereIn_any o F x w h hx hd)
  clear h hx
  go_enter Try.func41, Try.ntmps41
  go_upto_region 2 with (go_at_call 43; refine HN.out.mono ?_; rintro e w2 ⟨y, rfl, h1, h2⟩; have HY := Lib.hid h1; have HC := Lib.hid h2; clear h1 h2)
  have HB := Lib.hid (alloc_new w2 (Obj.cells #[.int .i64 y] 3))
  have HC3 := Lib.hid (HC.out.alloc (Obj.cells #[.int .i64 y] 3))
  obtain ⟨b, hb⟩ : ∃ b, b = w2.heap.size := ⟨_, rfl⟩
  rw [← hb] at HB ⊢
  generalize w2.alloc (Obj.cells #[.int .i64 y] 3) = w3 at HB HC3 ⊢
  clear hb HC
  obtain ⟨p, A, c, c0, c1, c2, c3, -, vL, hL⟩ := (H.out.idle HC3.out).open
  have HLI := Lib.hid (listRa_any p vL x.L w3 hL (by have := HR.out; omega))
  clear hL c0 c1 c2
  obtain ⟨q, hq⟩ : ∃ q, q = (x.L.filter fun r => !lowR y r).length := ⟨_, rfl⟩
  have hqb : q ≤ 1000000 := by have := HR.out; have := List.length_filter_le (fun r => !lowR y r) x.L; omega
  have HQ := Lib.hid hq
  have HQ8 := Lib.hid (show (x.beyond y).length = min q 8 by rw [hq, In.beyond, List.length_take]; omega)
  clear hq
  go_upto_region 3 with (first
    | (go_at_call 83; refine (delV_any b v4 y x.L w4 HB4.out HO4.out (by have := HR.out; omega)).mono ?_; rintro e w5 ⟨v5, rfl, h1, h2, h3⟩; rw [← HQ.out] at h1; have HO5 := Lib.hid h1; have HE5 := Lib.hid h2; have HC5 := Lib.hid h3; obtain ⟨A5, c5, rfl⟩ := ownR_shape h1; clear h1 h2 h3)
    | (go_at_call 17; refine HLI.out.mono ?_; rintro e w4 ⟨v4, rfl, h1, h2, h3⟩; have HO4 := Lib.hid h1; have HB4 := Lib.hid (h2.same HB.out); have HC4 := Lib.hid h2; have HG4 := Lib.hid h3; clear h1 h2 h3))
  have HF := Lib.hid (show ∀ m, m = min q 8 → GivesBeyond w x (.returned (.slice A5 m c5)) w5 from fun m hm => by
    have e : x.beyond y = (x.L.filter fun r => !lowR y r).take m := by
      rw [In.beyond]
      have := HQ.out
      by_cases h8 : q ≤ 8
      · rw [List.take_of_length_le (by omega), List.take_of_length_le (by omega)]
      · rw [show m = 8 by omega]
    refine ⟨_, y, rfl, HY.out, ?_, fun i hi => ?_, ?_⟩
    · rw [HQ8.out, ← hm, e]
      exact own_take HO5.out HQ.out (by omega)
    · have : v4.ownBlock = some i := by rw [← HE5.out]; cases A5 <;> exact hi
      exact Nat.le_trans HC3.out.size (HG4.out i this)
    · exact (HC3.out.then_none HC4.out).trans HC5.out fun i hi hs => by have := HG4.out i hs; have := HC3.out.size; omega)
  have hqc : q ≤ c5 := own_cap HO5.out
  clear HO5 HE5 HC5 HO4 HB4 HC4 HG4 HLI c3 hmf
  by_cases h8 : (8 : Int) < (q : Int)
  · have h9 : ¬ ((q : Int) < 8) := by omega
    have h10 : 8 ≤ c5 := by omega
    have h11 : (8 : Int) ≤ (c5 : Int) := by omega
    have HFF := Lib.hid (HF.out 8 (by omega))
    clear HF
    go_wp2_with fail
    go_ret
    exact HFF.out
  · have h11 : (q : Int) ≤ (c5 : Int) := by omega
    have HFF := Lib.hid (HF.out q (by omega))
    clear HF
    go_wp2_with fail
    go_ret
    exact HFF.out
end Go.Proofs.Ytlkbfacdaelbfaa
