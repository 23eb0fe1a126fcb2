/-
  Layer 17: the document's examples hold (shown).
-/
import Derived.Test.YtlkbfacdaelbfaaRaM
namespace Go.Proofs.Ytlkbfacdaelbfaa
open Go.RowKit
set_option linter.unusedVariables false
set_option linter.unusedSimpArgs false

theorem Moved.then {wk w w' : World} {o : Nat} {vk v : Value} {L' : List Ra.Row} (hc : Chg (fun i => i = o ∨ vk.ownBlock = some i) wk w) (hv : ∀ i, v.ownBlock = some i → vk.ownBlock = some i ∨ wk.heap.size ≤ i) (m : Moved w o v L' w') : Moved wk o vk L' w' := by
  obtain ⟨⟨v', h1, h2⟩, h3⟩ := m
  refine ⟨⟨v', h1, fun i hi => ?_⟩, hc.trans h3 fun i hi hs => ?_⟩
  · rcases h2 i hi with h | h
    · exact hv i h
    · exact .inr (Nat.le_trans hc.size h)
  · rcases hs with rfl | hs
    · exact .inl rfl
    · rcases hv i hs with h | h
      · exact .inr h
      · omega
/-- Since a moment the object alone has changed. -/
structure Sh (w0 wk : World) (o : Nat) (vk : Value) (L : List Ra.Row) (w : World) : Prop where
  mv : Moved wk o vk L w
  good : Ra.Good L
def ShPost (w0 wk : World) (o : Nat) (vk : Value) (r : Int) (L : List Ra.Row) : Ending → World → Prop := fun e w' => e = .returned (.int .i64 r) ∧ Sh w0 wk o vk L w'
theorem Sh.idle {w0 wk w w' : World} {o : Nat} {vk : Value} {L : List Ra.Row} (h : Sh w0 wk o vk L w) (hc : Chg Nowhere w w') : Sh w0 wk o vk L w' := by
  obtain ⟨⟨v, h1, h2⟩, h3⟩ := h.mv
  exact ⟨⟨⟨v, h1.idle hc, h2⟩, h3.then_none hc⟩, h.good⟩
theorem Sh.add {w0 wk w : World} {o : Nat} {vk : Value} {L : List Ra.Row} (h : Sh w0 wk o vk L w) (hn : L.length ≤ 1000000) (f t : Int) (K : List Ra.Row) (hK : Ra.Good K) (hm : ∀ n, Ra.mem K n ↔ Ra.mem L n ∨ (max f 0 ≤ n ∧ n < min t Ra.M)) (r : Int) (hr : Ra.total K - Ra.total L = r) : Calls Try.prog 16 #[.pointer (some ⟨o, 0, none⟩), .int .i64 f, .int .i64 t] w (ShPost w0 wk o vk r K) := by
  obtain ⟨⟨v, h1, h2⟩, h3⟩ := h.mv
  refine (add_any o v L f t w h1 h.good hn).mono ?_
  rintro e w' ⟨L', rfl, q1, q2, q3, q4⟩
  obtain rfl := Ra.is_list q1 hK q2 hm
  exact ⟨by rw [hr], Moved.then h3 h2 q4, q1⟩
theorem Sh.cut {w0 wk w : World} {o : Nat} {vk : Value} {L : List Ra.Row} (h : Sh w0 wk o vk L w) (hn : L.length ≤ 1000000) (f t : Int) (K : List Ra.Row) (hK : Ra.Good K) (hm : ∀ n, Ra.mem K n ↔ Ra.mem L n ∧ ¬ (max f 0 ≤ n ∧ n < min t Ra.M)) (r : Int) (hr : Ra.total L - Ra.total K = r) : Calls Try.prog 23 #[.pointer (some ⟨o, 0, none⟩), .int .i64 f, .int .i64 t] w (ShPost w0 wk o vk r K) := by
  obtain ⟨⟨v, h1, h2⟩, h3⟩ := h.mv
  refine (cut_any o v L f t w h1 h.good hn).mono ?_
  rintro e w' ⟨L', rfl, q1, q2, q3, q4⟩
  obtain rfl := Ra.is_list q1 hK q2 hm
  exact ⟨by rw [hr], Moved.then h3 h2 q4, q1⟩
def RnPost (w0 : World) (o : Nat) (r : Int) (L : List Ra.Row) : Ending → World → Prop := fun e w' => e = .returned (.int .i64 r) ∧ Rn w0 o L w'
theorem Rn.add_to {w0 : World} {o : Nat} {L : List Ra.Row} {w : World} (h : Rn w0 o L w) (hn : L.length ≤ 1000000) (f t : Int) (K : List Ra.Row) (hK : Ra.Good K) (hm : ∀ n, Ra.mem K n ↔ Ra.mem L n ∨ (max f 0 ≤ n ∧ n < min t Ra.M)) (r : Int) (hr : Ra.total K - Ra.total L = r) : Calls Try.prog 16 #[.pointer (some ⟨o, 0, none⟩), .int .i64 f, .int .i64 t] w (RnPost w0 o r K) := by
  refine (h.add hn f t).mono ?_
  rintro e w' ⟨L', rfl, q2, q3, q4, -⟩
  obtain rfl := Ra.is_list q4.good hK q2 hm
  exact ⟨by rw [hr], q4⟩
theorem k1_good : Ra.Good [(2, 5)] := ⟨fun r hr => by simp only [List.mem_singleton] at hr; subst hr; decide, by simp⟩
theorem k2_good : Ra.Good [(2, 8)] := ⟨fun r hr => by simp only [List.mem_singleton] at hr; subst hr; decide, by simp⟩
theorem k3_good : Ra.Good [(2, 8), (9, 10)] := ⟨fun r hr => by simp only [List.mem_cons, List.not_mem_nil, or_false] at hr; rcases hr with rfl | rfl <;> decide, by simp⟩
theorem k4_good : Ra.Good [(2, 3), (4, 8), (9, 10)] := ⟨fun r hr => by simp only [List.mem_cons, List.not_mem_nil, or_false] at hr; rcases hr with rfl | rfl | rfl <;> decide, by simp⟩
theorem k5_good : Ra.Good [(0, 1), (2, 3), (4, 8), (9, 10)] := ⟨fun r hr => by simp only [List.mem_cons, List.not_mem_nil, or_false] at hr; rcases hr with rfl | rfl | rfl | rfl <;> decide, by simp⟩
theorem Ra.mem_at (L : List Ra.Row) (n : Int) : Ra.mem L n ↔ L.any (fun r => decide (r.1 ≤ n) && decide (n < r.2)) = true := by
  simp [Ra.mem, List.any_eq_true]
theorem g1 {g : Ra.Row} {b : Bool} (h : GapIs [(2, 8), (9, 10)] 2 12 g b) : g = (8, 9) ∧ b = true := by
  cases b with
  | false =>
    have := (h.no rfl).2 8 (by decide) (by decide)
    rw [Ra.mem_at] at this
    exact absurd this (by decide)
  | true =>
    refine ⟨?_, rfl⟩
    obtain ⟨h1, h2, h3, h4⟩ := h.yes rfl
    obtain ⟨x, y⟩ := g
    simp only [Ra.M] at h1 h2 h3 h4
    have n1 : ¬ Ra.mem [(2, 8), (9, 10)] 8 := by rw [Ra.mem_at]; decide
    have a1 : x = 8 := by
      rcases (by omega : x < 8 ∨ x = 8 ∨ 8 < x) with h | h | h
      · exact absurd ((Ra.mem_at _ _).2 (by simp; omega)) (h3 x (Int.le_refl _) h1.2.1)
      · exact h
      · exact absurd (h2 8 (by omega) h) n1
    subst a1
    have a2 : y = 9 := by
      rcases (by omega : y < 9 ∨ y = 9 ∨ 9 < y) with h | h | h
      · omega
      · exact h
      · exact absurd ((Ra.mem_at _ _).2 (by simp)) (h3 9 (by omega) h)
    rw [a2]
theorem g2 {g : Ra.Row} {b : Bool} (h : GapIs [(2, 8), (9, 10)] 3 5 g b) : g = (0, 0) ∧ b = false := by
  cases b with
  | false => exact ⟨(h.no rfl).1, rfl⟩
  | true =>
    obtain ⟨h1, h2, h3, h4⟩ := h.yes rfl
    simp only [Ra.M] at h1
    exact absurd ((Ra.mem_at _ _).2 (by simp; omega)) (h3 g.1 (Int.le_refl _) h1.2.1)
theorem n1 {x : Int} (h : NextIs [(2, 8), (9, 10)] 2 x) : x = 8 := by
  have h1 := h.ge
  have h2 := h.no
  have h3 := h.all
  rw [Ra.mem_at] at h2
  simp at h2
  rcases (by omega : x < 8 ∨ x = 8 ∨ 8 < x) with h | h | h
  · omega
  · exact h
  · have := h3 8 (by omega) h
    rw [Ra.mem_at] at this
    exact absurd this (by decide)
theorem n2 {x : Int} (h : NextIs [(2, 8), (9, 10)] 0 x) : x = 0 := by
  have h1 := h.ge
  have h3 := h.all
  rcases (by omega : x = 0 ∨ 0 < x) with h | h
  · exact h
  · have := h3 0 (by omega) h
    rw [Ra.mem_at] at this
    exact absurd this (by decide)
theorem c1 {L : List Ra.Row} {b : Bool} (h : b = true ↔ ∀ y, max 9 0 ≤ y → y < min 9 Ra.M → Ra.mem L y) : b = true := h.2 fun y h1 h2 => by omega
set_option maxHeartbeats 4000000 in
set_option maxRecDepth 100000 in
theorem shownRa_any (w : World) : Calls Try.prog 14 #[] w (Gives w (.bool true)) := by
  have m1 := Lib.hid (show ∀ n, Ra.mem [(2, 5)] n ↔ Ra.mem [] n ∨ (max 2 0 ≤ n ∧ n < min 5 Ra.M) from fun n => by rw [show max (2 : Int) 0 = 2 by decide, show min (5 : Int) Ra.M = 5 by decide]; simp only [Ra.mem_cons, iff_false_intro (Ra.mem_nil n), or_false, false_or]; try omega)
  have m2 := Lib.hid (show ∀ n, Ra.mem [(2, 8)] n ↔ Ra.mem [(2, 5)] n ∨ (max 4 0 ≤ n ∧ n < min 8 Ra.M) from fun n => by rw [show max (4 : Int) 0 = 4 by decide, show min (8 : Int) Ra.M = 8 by decide]; simp only [Ra.mem_cons, iff_false_intro (Ra.mem_nil n), or_false, false_or]; try omega)
  have m3 := Lib.hid (show ∀ n, Ra.mem [(2, 8), (9, 10)] n ↔ Ra.mem [(2, 8)] n ∨ (max 9 0 ≤ n ∧ n < min 10 Ra.M) from fun n => by rw [show max (9 : Int) 0 = 9 by decide, show min (10 : Int) Ra.M = 10 by decide]; simp only [Ra.mem_cons, iff_false_intro (Ra.mem_nil n), or_false, false_or]; try omega)
  have m4 := Lib.hid (show ∀ n, Ra.mem [(2, 3), (4, 8), (9, 10)] n ↔ Ra.mem [(2, 8), (9, 10)] n ∧ ¬ (max 3 0 ≤ n ∧ n < min 4 Ra.M) from fun n => by rw [show max (3 : Int) 0 = 3 by decide, show min (4 : Int) Ra.M = 4 by decide]; simp only [Ra.mem_cons, iff_false_intro (Ra.mem_nil n), or_false, false_or]; try omega)
  have m5 := Lib.hid (show ∀ n, Ra.mem [(0, 1), (2, 3), (4, 8), (9, 10)] n ↔ Ra.mem [(2, 3), (4, 8), (9, 10)] n ∨ (max (-5) 0 ≤ n ∧ n < min 1 Ra.M) from fun n => by rw [show max ((-5) : Int) 0 = 0 by decide, show min (1 : Int) Ra.M = 1 by decide]; simp only [Ra.mem_cons, iff_false_intro (Ra.mem_nil n), or_false, false_or]; try omega)
  have m6 := Lib.hid (show ∀ n, Ra.mem [(0, 1), (2, 3), (4, 8), (9, 10)] n ↔ Ra.mem [(0, 1), (2, 3), (4, 8), (9, 10)] n ∨ (max 7 0 ≤ n ∧ n < min 3 Ra.M) from fun n => by rw [show max (7 : Int) 0 = 7 by decide, show min (3 : Int) Ra.M = 3 by decide]; simp only [Ra.mem_cons, iff_false_intro (Ra.mem_nil n), or_false, false_or]; try omega)
  go_enter Try.func14, Try.ntmps14
  go_upto_region 4 with (go_at_call 15; refine (Rn.new_ w w (Chg.refl _ _)).mono ?_; rintro e w1 ⟨o, rfl, hR⟩; have HR := Lib.hid hR; clear hR)
  go_upto_region 5 with (go_at_call 16; refine (HR.out.add_to (by decide) 2 5 [(2, 5)] k1_good m1.out 3 (by decide)).mono ?_; rintro e w2 ⟨rfl, hR⟩; have HR := Lib.hid hR; clear hR)
  go_upto_region 6 with (go_at_call 16; refine (HR.out.add_to (by decide) 4 8 [(2, 8)] k2_good m2.out 3 (by decide)).mono ?_; rintro e w3 ⟨rfl, hR⟩; have HR := Lib.hid hR; clear hR)
  go_upto_region 7 with (go_at_call 16; refine (HR.out.add_to (by decide) 9 10 [(2, 8), (9, 10)] k3_good m3.out 1 (by decide)).mono ?_; rintro e w4 ⟨rfl, hR⟩; have HR := Lib.hid hR; clear hR)
  go_upto_region 8 with (go_at_call 17; refine (HR.out.list (by decide)).mono ?_; rintro e w5 ⟨v5, rfl, h1, h2, h3⟩; have HL5 := Lib.hid h1; have HF5 := Lib.hid h3; have HR5 := Lib.hid (HR.out.idle h2); have HC5 := Lib.hid h2; clear h1 h2 h3)
  go_upto_region 9 with (go_at_call 27; refine (HR5.out.total (by decide)).mono ?_; rintro e w6 ⟨rfl, h2⟩; have HR6 := Lib.hid (HR5.out.idle h2); have HC6 := Lib.hid h2; clear h2)
  go_upto_region 10 with (go_at_call 20; refine (HR6.out.gap (by decide) 2 12).mono ?_; rintro e w7 ⟨g, b, rfl, h1, h2⟩; obtain ⟨rfl, rfl⟩ := g1 h1; have HR7 := Lib.hid (HR6.out.idle h2); have HC7 := Lib.hid h2; clear h1 h2)
  have HZ := Lib.hid (show Chg Nowhere w4 (w7.alloc (Obj.cells #[.int .i64 8, .int .i64 9] 33)) from ((HC5.out.then_none HC6.out).then_none HC7.out).alloc _)
  have HG8 := Lib.hid (alloc_new w7 (Obj.cells #[.int .i64 8, .int .i64 9] 33))
  have HRZ := Lib.hid (HR7.out.idle ((Chg.refl Nowhere w7).alloc (Obj.cells #[.int .i64 8, .int .i64 9] 33)))
  obtain ⟨vk, hvk, hfk⟩ := HRZ.out.at'
  have HVK := Lib.hid hvk
  have HS := Lib.hid (show Sh w (w7.alloc (Obj.cells #[.int .i64 8, .int .i64 9] 33)) o vk [(2, 8), (9, 10)] (w7.alloc (Obj.cells #[.int .i64 8, .int .i64 9] 33)) from ⟨⟨⟨vk, hvk, fun i hi => .inl hi⟩, Chg.refl _ _⟩, HRZ.out.good⟩)
  have HB7 := Lib.hid (show ∀ i, vk.ownBlock = some i → i ≠ w7.heap.size from fun i hi => by
    obtain ⟨v6, q1, q2⟩ := HR7.out.at'
    have e : v6 = vk := by
      have := (q1.idle ((Chg.refl Nowhere w7).alloc (Obj.cells #[.int .i64 8, .int .i64 9] 33))).blk
      rw [hvk.blk] at this
      simp only [Option.some.injEq, Obj.cells.injEq] at this
      exact (Array.singleton_inj.1 this.1).symm
    subst e
    obtain ⟨cur, hh⟩ := own_blk q1.row hi
    have := lt_blk hh
    omega)
  have HB5 := Lib.hid (show ∀ i, v5.ownBlock = some i → w4.heap.size ≤ i from HF5.out)
  have HBK := Lib.hid (show ∀ i, vk.ownBlock = some i → v5.ownBlock ≠ some i from fun i hi hj => by
    obtain ⟨v6, q1, q2⟩ := HR.out.at'
    have e : v6 = vk := by
      have := (q1.idle HZ.out).blk
      rw [hvk.blk] at this
      simp only [Option.some.injEq, Obj.cells.injEq] at this
      exact (Array.singleton_inj.1 this.1).symm
    subst e
    obtain ⟨cur, hh⟩ := own_blk q1.row hi
    have := lt_blk hh
    have := HF5.out i hj
    omega)
  have HO7 := Lib.hid (show o < w7.heap.size from by
    obtain ⟨v6, q1, q2⟩ := HR7.out.at'
    exact lt_blk q1.blk)
  have HL7 := Lib.hid (own_chg (own_chg HL5.out ((HC6.out.then_none HC7.out)) (fun _ _ => not_nowhere _)) ((Chg.refl Nowhere w7).alloc (Obj.cells #[.int .i64 8, .int .i64 9] 33)) (fun _ _ => not_nowhere _))
  have HGO := Lib.hid (show w7.heap.size ≠ o by have := HO7.out; omega)
  have HVO := Lib.hid (show v5.ownBlock ≠ some o from fun e => by
    obtain ⟨cur, hh⟩ := own_blk HL7.out e
    rw [HVK.out.blk] at hh
    simp only [Option.some.injEq, Obj.cells.injEq] at hh
    exact absurd hh.2.1 (by decide))
  clear hvk hfk
  generalize w7.alloc (Obj.cells #[.int .i64 8, .int .i64 9] 33) = wk at HZ HG8 HRZ HVK HS HL7 ⊢
  obtain ⟨gk, hgk⟩ : ∃ x, x = w7.heap.size := ⟨_, rfl⟩
  rw [← hgk] at HG8 HB7 HGO ⊢
  clear hgk HO7 HC5 HC6 HC7 HR5 HR6 HR7 HL5 HF5
  go_upto_region 11 with (go_at_call 20; refine (HRZ.out.gap (by decide) 3 5).mono ?_; rintro e w8 ⟨g, b, rfl, h1, h2⟩; obtain ⟨rfl, rfl⟩ := g2 h1; have HR8 := Lib.hid (HRZ.out.idle h2); have HS8 := Lib.hid (HS.out.idle h2); clear h1 h2)
  have HR9 := Lib.hid (HR8.out.idle ((Chg.refl Nowhere w8).alloc (Obj.cells #[.int .i64 0, .int .i64 0] 33)))
  have HS9 := Lib.hid (HS8.out.idle ((Chg.refl Nowhere w8).alloc (Obj.cells #[.int .i64 0, .int .i64 0] 33)))
  generalize w8.alloc (Obj.cells #[.int .i64 0, .int .i64 0] 33) = w9 at HR9 HS9 ⊢
  go_upto_region 12 with (go_at_call 30; refine (HR9.out.next (by decide) 2).mono ?_; rintro e wa ⟨x, rfl, h1, h2⟩; obtain rfl := n1 h1; have HRa := Lib.hid (HR9.out.idle h2); have HSa := Lib.hid (HS9.out.idle h2); clear h1 h2)
  go_upto_region 13 with (go_at_call 30; refine (HRa.out.next (by decide) 0).mono ?_; rintro e wb ⟨x, rfl, h1, h2⟩; obtain rfl := n2 h1; have HRb := Lib.hid (HRa.out.idle h2); have HSb := Lib.hid (HSa.out.idle h2); clear h1 h2)
  go_upto_region 14 with (go_at_call 32; refine (HRb.out.covers (by decide) 9 9).mono ?_; rintro e wc ⟨b, rfl, h1, h2⟩; obtain rfl := c1 (L := [(2, 8), (9, 10)]) h1; have HSc := Lib.hid (HSb.out.idle h2); clear h1 h2)
  go_upto_region 15 with (go_at_call 23; refine (HSc.out.cut (by decide) 3 4 [(2, 3), (4, 8), (9, 10)] k4_good m4.out 1 (by decide)).mono ?_; rintro e wd ⟨rfl, hS⟩; have HSd := Lib.hid hS; clear hS)
  go_upto_region 16 with (go_at_call 16; refine (HSd.out.add (by decide) (-5) 1 [(0, 1), (2, 3), (4, 8), (9, 10)] k5_good m5.out 1 (by decide)).mono ?_; rintro e we ⟨rfl, hS⟩; have HSe := Lib.hid hS; clear hS)
  go_upto_region 17 with (go_at_call 16; refine (HSe.out.add (by decide) 7 3 [(0, 1), (2, 3), (4, 8), (9, 10)] k5_good m6.out 0 (by decide)).mono ?_; rintro e wf ⟨rfl, hS⟩; have HSf := Lib.hid hS; clear hS)
  have hC : Chg (fun i => i = o ∨ vk.ownBlock = some i) wk wf := HSf.out.mv.chg
  have hg := hC.keep HG8.out (by rintro (e | e); exact HGO.out e; exact HB7.out _ e rfl)
  have c0 : wf.cell? ⟨gk, 0, none⟩ = some (.int .i64 8) := by rw [cell_blk hg]; rfl
  have c1' : wf.cell? ⟨gk, 1, none⟩ = some (.int .i64 9) := by rw [cell_blk hg]; rfl
  have hl := own_chg HL7.out hC (fun i hi => by
    rintro (rfl | e)
    · exact HVO.out hi
    · exact HBK.out i e hi)
  obtain ⟨g5, cap5, R5, rfl, hr5, -⟩ := own_rowAt hl (by decide)
  have d0 : wf.cell? ⟨g5, 0, none⟩ = some (.int .i64 2) := hr5.cell rfl
  have d1 : wf.cell? ⟨g5, 1, none⟩ = some (.int .i64 8) := hr5.cell rfl
  have hR : Rn w o [(0, 1), (2, 3), (4, 8), (9, 10)] wf := Rn.moved (HR.out.chg.then_none HZ.out) HR.out.new (fun i hi => by
    obtain ⟨v6, q1, q2⟩ := HRZ.out.at'
    have e : v6 = vk := by
      have := q1.blk
      rw [HVK.out.blk] at this
      simp only [Option.some.injEq, Obj.cells.injEq] at this
      exact (Array.singleton_inj.1 this.1).symm
    exact q2 i (e ▸ hi)) HSf.out.good HSf.out.mv
  have HRf := Lib.hid hR
  clear hC hg hl hr5 hR
  have htot : Ra.total [(2, 8), (9, 10)] = 7 := by decide
  rw [htot]
  go_wp2_with (first
    | (go_at_call 21; refine (HRf.out.has (by decide) 0).mono ?_; rintro e wg ⟨b, rfl, h1, h2⟩; obtain rfl := h1.2 ((Ra.mem_at _ _).2 (by decide)); have HRg := Lib.hid (HRf.out.idle h2); clear h1 h2)
    | (go_at_call 17; refine (HRg.out.list (by decide)).mono ?_; rintro e wh ⟨v9, rfl, h1, h2, h3⟩; obtain ⟨A9, c9, rfl⟩ := ownR_shape h1; have HRh := Lib.hid (HRg.out.idle h2); clear h1 h2 h3))
  go_ret
  exact ⟨rfl, HRh.out.chg⟩
end Go.Proofs.Ytlkbfacdaelbfaa
