/-
  Package ranges: New, List, Total, Clone, Has, Next, Gap, Covers (the walks).
-/
import Derived.Test.YtlkbfacdaelbfaaRaC
import Derived.Deep.AppendLies
import Derived.Deep.RegionLaw
namespace Go.Proofs.Ytlkbfacdaelbfaa
open Go.RowKit
set_option linter.unusedVariables false

theorem info_parts {P : Program} {t : TypeId} {z : Option Value} {a b : Nat} (h : (P.info? t).map (fun i => (i.zero, i.size, i.bytes)) = some (z, a, b)) : ∃ i, P.info? t = some i ∧ i.zero = z ∧ i.size = a ∧ i.bytes = b := by
  obtain ⟨i, hi, h⟩ := Option.map_eq_some_iff.1 h
  simp only [Prod.mk.injEq] at h
  exact ⟨i, hi, h⟩
theorem infoRng : (Try.prog.info? 33).map (fun i => (i.zero, i.size, i.bytes)) = some (some (.agg #[.int .i64 0, .int .i64 0]), 2, 16) := by kernel_rfl
theorem flat_one' (l : List (Int × Int)) : ∀ y ∈ flat l, y.oneCell' = true := by
  intro y hy
  obtain ⟨q, _, hq⟩ := List.mem_flatMap.1 hy
  simp [rcells] at hq
  rcases hq with rfl | rfl <;> rfl
def CloneRTo (w : World) (l : List (Int × Int)) (e : Ending) (w' : World) : Prop :=
  ∃ v, e = .returned v ∧ w'.ownsRow 0 33 2 v l.length (flat l) ∧ Chg Nowhere w w' ∧ ∀ i, v.ownBlock = some i → w.heap.size ≤ i
set_option maxHeartbeats 800000 in
set_option maxRecDepth 100000 in
theorem cloneR_any (v : Value) (l : List (Int × Int)) (w : World) (h : Rd w v 2 l.length (flat l)) (hl : l.length ≤ 2000000) :
    Calls Try.prog 76 #[v] w (CloneRTo w l) := by
  obtain ⟨i0, hi, hz0, hz1, hz2⟩ := info_parts infoRng
  obtain ⟨-, A, cap, rfl, hcap, hA⟩ := h
  cases A with
  | none =>
    have h0 : l = [] := by
      cases l with
      | nil => rfl
      | cons r l => obtain ⟨g, o, e, _⟩ := hA (by simp); cases e
    subst h0
    clear hA
    have hnl := Lib.run_eql_slice_nil (P := Try.prog) w 30 33 .none 0 cap 0 0 Try.underlying30
    go_enter Try.func76, Try.ntmps76
    go_wp2_with fail
    go_ret
    exact ⟨_, rfl, World.ownsRow_nil _ _ _ _, Chg.refl _ _, fun i hi => by cases hi⟩
  | some ad =>
    have hn : ∀ j u, (flat l)[j]? = some u → (w.alloc (.cells #[] 33)).cell? (ad.add j) = some u := by
      intro j u hj
      have hlt : j < (flat l).length := (List.getElem?_eq_some_iff.1 hj).1
      have hll := flat_len l
      obtain ⟨g, o, e, hg, hc⟩ := hA (by omega)
      cases e
      have : (⟨g, o, .none⟩ : Addr).add j = ⟨g, o + j, .none⟩ := by unfold Addr.add; split <;> simp_all
      rw [this]
      exact (((Chg.refl Nowhere w).alloc _).cell (p := ⟨g, o + j, .none⟩) hg (not_nowhere _)).trans ((hc j hlt).trans hj)
    have HN := Lib.hid hn
    have hO0 := Lib.hid (World.ownsRow_lit (base := 0) (e := 33) (size := 2) w #[] 0 (by omega) (by unfold maxLen; omega) rfl)
    clear hn hA
    have hnl := Lib.run_eql_slice_nil (P := Try.prog) w 30 33 (some ad) l.length cap 0 0 Try.underlying30
    go_enter Try.func76, Try.ntmps76
    go_wp2_with (at_builtin; refine wpList_append_own_at _ rfl _ _ 30 rfl 0 33 i0 (.agg #[.int .i64 0, .int .i64 0]) 2 16 Try.underlying30 hi hz0 hz1 hz2 rfl (by decide) (.slice (some ⟨w.heap.size, 0, .none⟩) 0 0) 0 [] rfl hO0.out ad l.length cap (flat l) rfl (flat_len l) HN.out (flat_one' l) (by unfold maxLen; omega) (by omega) (by omega) ?_; intro v' w3 hown' hgrow3 hnil3 hob; have HO' := Lib.hid hown'; have HB := Lib.hid hob; have HG := Lib.hid hgrow3; clear hown' hob hnil3 hgrow3)
    go_ret
    have A1 : (w.alloc (.cells #[] 33)).heap.size = w.heap.size + 1 := by simp
    have ho := HO'.out
    rw [Nat.zero_add, List.nil_append] at ho
    refine ⟨v', rfl, ho, ((Chg.refl _ w).alloc _).grown HG.out (fun k hk => .inl (by simp [Value.ownBlock] at hk; omega)), fun i hi => ?_⟩
    rcases HB.out with e | e <;> rw [e] at hi
    · simp [Value.ownBlock] at hi; omega
    · rw [A1] at hi; injection hi; omega


theorem ownR_shape {w : World} {e : TypeId} {size : Nat} {v : Value} {n : Nat} {xs : List Value} (h : w.ownsRow 0 e size v n xs) : ∃ A cap, v = .slice A n cap := by
  rcases h.2 with ⟨rfl, h0⟩ | ⟨g, cap, cur, rfl, _⟩
  · exact ⟨none, 0, by rw [h0]⟩
  · exact ⟨_, _, rfl⟩
def GivesNew (w : World) (L : List Ra.Row) : Ending → World → Prop := fun e w' => ∃ o v, e = .returned (.pointer (some ⟨o, 0, none⟩)) ∧ RaAt w' o v L ∧ w.heap.size ≤ o ∧ (∀ i, v.ownBlock = some i → w.heap.size ≤ i) ∧ Chg Nowhere w w'
theorem newRa_any (w : World) : Calls Try.prog 15 #[] w (GivesNew w []) := by
  go_enter Try.func15, Try.ntmps15
  go_wp2_with fail
  go_ret
  exact ⟨w.heap.size, .slice none 0 0, rfl, ⟨alloc_new _ _, World.ownsRow_nil _ _ _ _⟩, Nat.le_refl _, (fun i hi => by cases hi), (Chg.refl _ _).alloc _⟩
theorem listRa_any (o : Nat) (v : Value) (L : List Ra.Row) (w : World) (h : RaAt w o v L) (hn : L.length ≤ 2000000) :
    Calls Try.prog 17 #[.pointer (some ⟨o, 0, none⟩)] w (CloneRTo w L) := by
  have co : w.cell? ⟨o, 0, none⟩ = some v := by rw [cell_blk h.blk]; rfl
  have HC := Lib.hid (cloneR_any v L w h.rd hn)
  obtain ⟨A, c, rfl⟩ := h.shape
  clear h
  go_enter Try.func17, Try.ntmps17
  go_wp2_with fail
  refine HC.out.mono ?_
  rintro e w2 ⟨v2, rfl, h2⟩
  have H2 := Lib.hid h2
  clear h2
  go_wp2_with fail
  go_ret
  exact ⟨v2, rfl, H2.out⟩
theorem totalRa_any (o : Nat) (v : Value) (L : List Ra.Row) (w : World) (h : RaAt w o v L) (hG : Ra.Good L) (hn : L.length ≤ 2000000) :
    Calls Try.prog 27 #[.pointer (some ⟨o, 0, none⟩)] w (Gives w (.int .i64 (Ra.total L))) := by
  have co : w.cell? ⟨o, 0, none⟩ = some v := by rw [cell_blk h.blk]; rfl
  have HC := Lib.hid (many_any v L w h.rd hG hn)
  obtain ⟨A, c, rfl⟩ := h.shape
  clear h hG
  go_enter Try.func27, Try.ntmps27
  go_wp2_with fail
  refine HC.out.mono ?_
  rintro e w2 ⟨rfl, hC⟩
  have H2 := Lib.hid hC
  clear hC
  go_wp2_with fail
  go_ret
  exact ⟨rfl, H2.out⟩
theorem cloneRa_any (o : Nat) (v : Value) (L : List Ra.Row) (w : World) (h : RaAt w o v L) (hn : L.length ≤ 2000000) :
    Calls Try.prog 25 #[.pointer (some ⟨o, 0, none⟩)] w (GivesNew w L) := by
  have HC := Lib.hid (listRa_any o v L w h hn)
  clear h
  go_enter Try.func25, Try.ntmps25
  go_wp2_with fail
  refine HC.out.mono ?_
  rintro e w2 ⟨v2, rfl, h2, h3, h4⟩
  obtain ⟨A2, c2, rfl⟩ := ownR_shape h2
  have H2 := Lib.hid h2
  have H3 := Lib.hid h3
  have H4 := Lib.hid h4
  clear h2 h3 h4 HC
  go_wp2_with fail
  go_ret
  exact ⟨w2.heap.size, _, rfl, ⟨alloc_new _ _, own_chg H2.out ((Chg.refl Nowhere w2).alloc _) (fun _ _ => not_nowhere _)⟩, H3.out.size, H4.out, H3.out.alloc _⟩
/-- Whether a number is there. -/
def GivesHas (w : World) (L : List Ra.Row) (n : Int) : Ending → World → Prop := fun e w' => ∃ b, e = .returned (.bool b) ∧ (b = true ↔ Ra.mem L n) ∧ Chg Nowhere w w'
theorem AtIs.mem {L : List Ra.Row} {n : Int} {r : Ra.Row} {b : Bool} (h : AtIs L n r b) : b = true ↔ Ra.mem L n := by
  cases b with
  | true => exact ⟨fun _ => ⟨r, (h.yes rfl).1, (h.yes rfl).2⟩, fun _ => rfl⟩
  | false => exact ⟨fun h => (by cases h), fun hm => absurd hm (h.no rfl).2⟩
theorem hasRa_any (o : Nat) (v : Value) (L : List Ra.Row) (n : Int) (w : World) (h : RaAt w o v L) (hG : Ra.Good L) (hn : L.length ≤ 2000000) :
    Calls Try.prog 21 #[.pointer (some ⟨o, 0, none⟩), .int .i64 n] w (GivesHas w L n) := by
  have HC := Lib.hid (at_any o v L n w h hG hn)
  clear h hG
  go_enter Try.func21, Try.ntmps21
  go_wp2_with fail
  refine HC.out.mono ?_
  rintro e w2 ⟨r, b, rfl, h2, h3⟩
  have H2 := Lib.hid h2.mem
  have H3 := Lib.hid h3
  clear h2 h3 HC
  go_wp2_with fail
  go_ret
  exact ⟨b, rfl, H2.out, (by first | exact H3.out.alloc _ | exact ((H3.out.alloc _).put (.inr H3.out.size)).put (.inr H3.out.size))⟩
/-- The next number that is not there. -/
structure NextIs (L : List Ra.Row) (n x : Int) : Prop where
  ge : max n 0 ≤ x
  no : ¬ Ra.mem L x
  all : ∀ y, max n 0 ≤ y → y < x → Ra.mem L y
  le : x = max n 0 ∨ x ≤ Ra.M
theorem AtIs.next {L : List Ra.Row} (hG : Ra.Good L) {n : Int} {r : Ra.Row} {b : Bool} (h : AtIs L (max n 0) r b) : NextIs L n (if b then r.2 else max n 0) := by
  cases b with
  | true =>
    obtain ⟨h1, h2, h3⟩ := h.yes rfl
    refine ⟨by simp only [if_true]; omega, ?_, fun y hy hy2 => ⟨r, h1, by omega, hy2⟩, .inr (hG.row r h1).2.2⟩
    simp only [if_true]
    rintro ⟨s, hs, h4, h5⟩
    obtain ⟨j, hj, ej⟩ := List.mem_iff_getElem.1 h1
    obtain ⟨k, hk, ek⟩ := List.mem_iff_getElem.1 hs
    have hp := List.pairwise_iff_getElem.1 hG.sep
    rcases (by omega : j < k ∨ k < j ∨ j = k) with hjk | hjk | hjk
    · have := hp j k hj hk hjk; rw [ej, ek] at this; omega
    · have := hp k j hk hj hjk; rw [ej, ek] at this; have := (hG.row r h1).2.1; omega
    · subst hjk; rw [ej] at ek; subst ek; omega
  | false =>
    refine ⟨by simp only [Bool.false_eq_true, if_false]; omega, by simpa using (h.no rfl).2, fun y hy hy2 => ?_, .inl (by simp)⟩
    simp only [Bool.false_eq_true, if_false] at hy2
    omega
def GivesNext (w : World) (L : List Ra.Row) (n : Int) : Ending → World → Prop := fun e w' => ∃ x, e = .returned (.int .i64 x) ∧ NextIs L n x ∧ Chg Nowhere w w'
theorem nextRa_any (o : Nat) (v : Value) (L : List Ra.Row) (n : Int) (w : World) (h : RaAt w o v L) (hG : Ra.Good L) (hn : L.length ≤ 2000000) :
    Calls Try.prog 30 #[.pointer (some ⟨o, 0, none⟩), .int .i64 n] w (GivesNext w L n) := by
  obtain ⟨m, hm⟩ : ∃ m, m = max n 0 := ⟨_, rfl⟩
  have HM := Lib.hid hm
  have HC := Lib.hid (at_any o v L m w h hG hn)
  have HG := Lib.hid hG
  have hcs : (0 < n ∧ m = n) ∨ (n < 0 ∧ m = 0) ∨ (n = 0 ∧ m = 0) := by omega
  clear h hG hm
  have fin : ∀ (r : Ra.Row) (b : Bool), AtIs L m r b → NextIs L n (if b then r.2 else m) := fun r b h => by rw [HM.out] at h ⊢; exact h.next HG.out
  have FIN := Lib.hid fin
  clear fin
  rcases hcs with ⟨h1, rfl⟩ | ⟨h1, rfl⟩ | ⟨rfl, rfl⟩
  all_goals
    go_enter Try.func30, Try.ntmps30
    go_wp2_with fail
    refine HC.out.mono ?_
    rintro e w2 ⟨r, b, rfl, h2, h3⟩
    have H2 := Lib.hid (FIN.out r b h2)
    have H3 := Lib.hid h3
    clear h2 h3 HC
    cases b with
    | true =>
      go_wp2_with fail
      go_ret
      exact ⟨_, rfl, H2.out, (by first | exact H3.out.alloc _ | exact ((H3.out.alloc _).put (.inr H3.out.size)).put (.inr H3.out.size))⟩
    | false =>
      go_wp2_with fail
      go_ret
      exact ⟨_, rfl, H2.out, (by first | exact H3.out.alloc _ | exact ((H3.out.alloc _).put (.inr H3.out.size)).put (.inr H3.out.size))⟩
end Go.Proofs.Ytlkbfacdaelbfaa
