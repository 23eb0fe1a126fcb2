/-
  Package inbox: what an object is; New, Limit, Done, Here.
-/
import Derived.Test.YtlkbfacdaelbfaaInPure
import Derived.StillTailTactics
import Derived.Deep.QuietTactic
import Derived.BigQuiet
namespace Go.Proofs.Ytlkbfacdaelbfaa
open Go.RowKit Ae
set_option linter.unusedVariables false
set_option linter.unusedSimpArgs false
set_option maxRecDepth 100000

/-- The blocks that are a call's behind it. -/
def Grow (F : Nat → Prop) (w w' : World) : Nat → Prop := fun i => F i ∨ (w.heap.size ≤ i ∧ i < w'.heap.size)
/-- An inbox, whose blocks are all of F. -/
structure InAt (w : World) (o : Nat) (F : Nat → Prop) (x : In) : Prop where
  ex : ∃ p vb vL, w.heap[o]? = some (.cells #[.int .i64 x.size, .int .i64 x.done, vb, .pointer (some ⟨p, 0, none⟩)] 99 (0, 0)) ∧ w.ownsRow 0 5 1 vb x.bs.length (bl x.bs) ∧ RaAt w p vL x.L ∧ F o ∧ F p ∧ (∀ i, vb.ownBlock = some i → F i) ∧ (∀ i, vL.ownBlock = some i → F i)
theorem InAt.chg {w w' : World} {o : Nat} {F S : Nat → Prop} {x : In} (h : InAt w o F x) (hc : Chg S w w') (hs : ∀ i, S i → ¬ F i) : InAt w' o F x := by
  obtain ⟨p, vb, vL, h1, h2, h3, h4, h5, h6, h7⟩ := h.ex
  exact ⟨p, vb, vL, hc.keep h1 (fun q => hs _ q h4), own_chg h2 hc (fun i hi q => hs _ q (h6 i hi)), h3.chg hc (fun q => hs _ q h5) (fun i hi q => hs _ q (h7 i hi)), h4, h5, h6, h7⟩
theorem InAt.idle {w w' : World} {o : Nat} {F : Nat → Prop} {x : In} (h : InAt w o F x) (hc : Chg Nowhere w w') : InAt w' o F x := h.chg hc fun i hi => hi.elim
theorem InAt.mono {w : World} {o : Nat} {F G : Nat → Prop} {x : In} (h : InAt w o F x) (hs : ∀ i, F i → G i) : InAt w o G x := by
  obtain ⟨p, vb, vL, h1, h2, h3, h4, h5, h6, h7⟩ := h.ex
  exact ⟨p, vb, vL, h1, h2, h3, hs _ h4, hs _ h5, fun i hi => hs _ (h6 i hi), fun i hi => hs _ (h7 i hi)⟩
theorem InAt.open {w : World} {o : Nat} {F : Nat → Prop} {x : In} (h : InAt w o F x) :
    ∃ p A c, w.cell? ⟨o, 0, none⟩ = some (.int .i64 x.size) ∧ w.cell? ⟨o, 1, none⟩ = some (.int .i64 x.done) ∧ w.cell? ⟨o, 2, none⟩ = some (.slice A x.bs.length c) ∧ w.cell? ⟨o, 3, none⟩ = some (.pointer (some ⟨p, 0, none⟩)) ∧ w.ownsRow 0 5 1 (.slice A x.bs.length c) x.bs.length (bl x.bs) ∧ ∃ vL, RaAt w p vL x.L := by
  obtain ⟨p, vb, vL, h1, h2, h3, -⟩ := h.ex
  obtain ⟨A, c, rfl⟩ := ownR_shape h2
  exact ⟨p, A, c, by rw [cell_blk h1]; rfl, by rw [cell_blk h1]; rfl, by rw [cell_blk h1]; rfl, by rw [cell_blk h1]; rfl, h2, vL, h3⟩
/-- A new one. -/
def InNew (w : World) (x : In) : Ending → World → Prop := fun e w' => ∃ o, e = .returned (.pointer (some ⟨o, 0, none⟩)) ∧ InAt w' o (Grow Nowhere w w') x ∧ Chg Nowhere w w'
def In.start (size : Nat) : In := ⟨size, 0, [], []⟩
theorem In.start_ok {size : Nat} (h1 : 1 ≤ size) (h2 : size ≤ 1048576) : (In.start size).Ok :=
  ⟨Ra.good_nil, fun b hb => (by cases hb), h1, h2, fun n h1 h2 => by simp [In.start] at h2; omega, fun n hn => absurd hn (Ra.mem_nil n), Nat.zero_le _⟩
set_option maxHeartbeats 800000 in
theorem newIn_any (n : Int) (s : Nat) (w : World) (hs : (s : Int) = max 1 (min n 1048576)) : Calls Try.prog 35 #[.int .i64 n] w (InNew w (In.start s)) := by
  have HN := Lib.hid (newRa_any w)
  have HW := Lib.hid (fun (w2 : World) (o : Nat) (v : Value) (h1 : RaAt w2 o v []) (h2 : w.heap.size ≤ o) (h3 : ∀ i, v.ownBlock = some i → w.heap.size ≤ i) (h4 : Chg Nowhere w w2) => show InNew w (In.start s) (.returned (.pointer (some ⟨w2.heap.size, 0, none⟩))) (w2.alloc (.cells #[.int .i64 (s : Int), .int .i64 0, .slice none 0 0, .pointer (some ⟨o, 0, none⟩)] 99)) from
    ⟨_, rfl, ⟨o, _, v, alloc_new _ _, World.ownsRow_nil _ _ _ _, h1.idle ((Chg.refl Nowhere w2).alloc _), .inr ⟨h4.size, by simp⟩, .inr ⟨h2, by have := lt_blk h1.blk; simp; omega⟩, fun i hi => by simp [Value.ownBlock] at hi, fun i hi => .inr ⟨h3 i hi, by obtain ⟨cur, hh⟩ := own_blk h1.row hi; have := lt_blk hh; simp; omega⟩⟩, h4.alloc _⟩)
  rcases (by omega : n ≤ 1 ∨ (1 < n ∧ n ≤ 1048576) ∨ 1048576 < n) with h0 | ⟨h0, h1⟩ | h0
  · have a1 : ¬ ((1048576 : Int) < n) := by omega
    have a2 : ¬ ((1 : Int) < n) := by omega
    have a3 : n < 1048576 := by omega
    obtain rfl : s = 1 := by omega
    clear hs
    go_enter Try.func35, Try.ntmps35
    go_wp2_with fail
    refine HN.out.mono ?_
    rintro e w2 ⟨o, v, rfl, h1, h2, h3, h4⟩
    have HF := Lib.hid (HW.out w2 o v h1 h2 h3 h4)
    clear h1 h2 h3 h4
    go_wp2_with fail
    go_ret
    exact HF.out
  · have a1 : ¬ ((1048576 : Int) < n) := by omega
    obtain rfl : n = (s : Int) := by omega
    clear hs h1
    go_enter Try.func35, Try.ntmps35
    go_wp2_with fail
    refine HN.out.mono ?_
    rintro e w2 ⟨o, v, rfl, h1, h2, h3, h4⟩
    have HF := Lib.hid (HW.out w2 o v h1 h2 h3 h4)
    clear h1 h2 h3 h4
    go_wp2_with fail
    go_ret
    exact HF.out
  · have a2 : ¬ (n < 1048576) := by omega
    obtain rfl : s = 1048576 := by omega
    clear hs
    go_enter Try.func35, Try.ntmps35
    go_wp2_with fail
    refine HN.out.mono ?_
    rintro e w2 ⟨o, v, rfl, h1, h2, h3, h4⟩
    have HF := Lib.hid (HW.out w2 o v h1 h2 h3 h4)
    clear h1 h2 h3 h4
    go_wp2_with fail
    go_ret
    exact HF.out
theorem doneIn_any (o : Nat) (F : Nat → Prop) (x : In) (w : World) (h : InAt w o F x) : Calls Try.prog 40 #[.pointer (some ⟨o, 0, none⟩)] w (Gives w (.int .i64 (x.done : Int))) := by
  obtain ⟨p, A, c, c0, c1, -⟩ := h.open
  clear h
  go_enter Try.func40, Try.ntmps40
  go_wp2_with fail
  go_ret
  exact ⟨rfl, Chg.refl _ _⟩
set_option maxHeartbeats 800000 in
theorem limIn_any (o : Nat) (F : Nat → Prop) (x : In) (w : World) (h : InAt w o F x) (hd : x.done ≤ 900000) (hs : x.size ≤ 1048576) : Calls Try.prog 42 #[.pointer (some ⟨o, 0, none⟩)] w (Gives w (.int .i64 ((x.done : Int) + (x.size : Int)))) := by
  obtain ⟨p, A, c, c0, c1, -⟩ := h.open
  clear h
  go_enter Try.func42, Try.ntmps42
  go_upto_region 1 with fail
  go_quiet (fail)
  go_wp2_with fail
  go_ret
  exact ⟨rfl, (Chg.refl _ _).drewN _⟩
set_option maxHeartbeats 800000 in
theorem hereIn_any (o : Nat) (F : Nat → Prop) (x : In) (w : World) (h : InAt w o F x) (hx : x.Ok) (hd : x.done ≤ 900000) : Calls Try.prog 43 #[.pointer (some ⟨o, 0, none⟩)] w (GivesNext w x.L x.done) := by
  have H := Lib.hid h
  obtain ⟨p, A, c, c0, c1, c2, c3, -, vL, hL⟩ := h.open
  have HN := Lib.hid (nextRa_any p vL x.L x.done w.drew (hL.idle ((Chg.refl Nowhere w).drew)) hx.good (by have := hx.rows hd; omega))
  clear h hL
  go_enter Try.func43, Try.ntmps43
  go_upto_region 1 with fail
  go_still_tail 8, (by kernel_rfl)
  change wpList _ _ _ _ _ w.drew
  have HC := Lib.hid ((Chg.refl Nowhere w).drew)
  generalize w.drew = wa at HN HC ⊢
  clear c0 c1 c2 c3
  go_wp2_with (go_at_call 30; refine HN.out.mono ?_; rintro e w2 ⟨y, rfl, h1, h2⟩; have H1 := Lib.hid h1; have H2 := Lib.hid (HC.out.then_none h2); clear h1 h2)
  go_ret
  exact ⟨y, rfl, H1.out, H2.out⟩
end Go.Proofs.Ytlkbfacdaelbfaa
