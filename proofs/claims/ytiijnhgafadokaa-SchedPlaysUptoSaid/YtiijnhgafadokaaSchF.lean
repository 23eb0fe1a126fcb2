/-
  The scheduler (layer 21): lose.
-/
import Derived.Test.YtiijnhgafadokaaSchE
import Derived.Deep.Onto
namespace Go.Proofs.Ytiijnhgafadokaa
open Go.RowKit
set_option linter.unusedVariables false

def Kap (κ : Nat → Prop) (g : Nat) : Nat → Prop := fun i => κ i ∨ i = g
def PartOut {σ : Type} (J : σ → World → Prop) (κ : Nat → Prop) (w : World) (p : Rec → Bool) (step : σ → Rec → σ) (s0 : σ) (g : Nat) (f : Fl) (e : Ending) (w' : World) : Prop :=
  ∃ vo vl, e = .returned vo ∧ w'.ownsRow w.heap.size 104 3 vo (f.l.filter p).length (rcl (f.l.filter p)) ∧ FlAt w' g vl ⟨f.win, f.next, f.l.filter fun r => !p r⟩ ∧
    (∀ i, vl.ownBlock = some i → w.heap.size ≤ i) ∧ (∀ r ∈ f.l, RecOk w' r) ∧ J (f.l.foldl step s0) w' ∧ Chg (Kap κ g) w w'
theorem recOk_kap {w w' : World} {r : Rec} (h : RecOk w r) {κ : Nat → Prop} (hκ : ∀ i, κ i → ∃ a, w.heap[i]? = some (.cells a 3 (0,0))) (hc : Chg κ w w') : RecOk w' r :=
  ⟨own_chg h.row hc fun i hi e => by
    obtain ⟨a, ha⟩ := hκ i e
    obtain ⟨cur, hh⟩ := own_blk h.row hi
    exact types_ne ha hh (by decide) rfl, h.c0, h.t0, h.len⟩
theorem part_out {σ : Type} (J : σ → World → Prop) (κ : Nat → Prop) (p : Rec → Bool) (step : σ → Rec → σ) (s0 : σ) (w : World) (g : Nat) (v : Value) (f : Fl) (hF : FlAt w g v f) (fid : Nat) (caps : Array Value)
    (hc : Clo J κ (At g) w.heap.size fid caps p step) (hκ : ∀ i, κ i → ∃ a, w.heap[i]? = some (.cells a 3 (0,0))) (hj : J s0 w) :
    Calls Try.prog 74 #[.pointer (some ⟨g, 0, .none⟩), .func (.func fid) #[] caps] w (PartOut J κ w p step s0 g f) := by
  refine (part_any J κ p step s0 w g v f hF fid caps (At g) hc hκ hj).mono ?_
  rintro e w' ⟨vo, vl, w1, rfl, hP, rfl⟩
  have hgk : ¬ κ g := fun e => by
    obtain ⟨a, ha⟩ := hκ g e
    exact cells_other ha (by decide) hF.mine
  have hb := hP.chg.keep hF.blk hgk
  have hC5 : Chg (At g) w1 (w1.setCell ⟨g, 2, .none⟩ vl) := (Chg.refl _ _).putAt
  have hgl := lt_blk hF.blk
  have hM5 : ∀ i, At g i → Mine w1 i := fun i hi => by rw [show i = g from hi]; exact .inl ⟨_, _, _, hb, .inr (.inl rfl)⟩
  have hrec : ∀ r ∈ f.l, RecOk (w1.setCell ⟨g, 2, .none⟩ vl) r := fun r hr => (recOk_kap (hF.recs r hr) hκ hP.chg).chg hC5 hM5
  refine ⟨vo, vl, rfl, own_chg hP.out hC5 (fun i hi e => ?_), ⟨by rw [set_blk _ hb]; rfl, own_chg (hP.left.mono (Nat.zero_le _)) hC5 (fun i hi e => ?_), fun r hr => hrec r (List.mem_filter.1 hr).1, ?_, hF.win0, hF.next0⟩,
    fun i hi => (hP.left.lt i hi).1, hrec, hc.stay _ _ _ hP.st (hC5.mono fun i _ hi => Or.inr hi), ?_⟩
  · have := (hP.out.lt i hi).1; have : i = g := e; omega
  · have := (hP.left.lt i hi).1; have : i = g := e; omega
  · have := List.length_filter_le (fun r => !p r) f.l; have := hF.len; show (f.l.filter fun r => !p r).length ≤ _; omega
  · exact (hP.chg.mono (S' := Kap κ g) (fun i _ hi => Or.inl hi)).put (b := g) (.inl (Or.inr rfl))

def lostF (p : Rec → Bool) (f : Fl) : Fl := ⟨if (f.l.filter p).length = 0 then f.win else max 2 (f.win / 2), f.next, f.l.filter fun r => !p r⟩
def LoseTo {σ : Type} (J : σ → World → Prop) (κ : Nat → Prop) (w : World) (p : Rec → Bool) (step : σ → Rec → σ) (s0 : σ) (g : Nat) (f : Fl) (e : Ending) (w' : World) : Prop :=
  ∃ vr vl, e = .returned vr ∧ w'.ownsRow w.heap.size 49 2 vr (cars (f.l.filter p)).length (flat (cars (f.l.filter p))) ∧ FlAt w' g vl (lostF p f) ∧
    (∀ i, vl.ownBlock = some i → w.heap.size ≤ i) ∧ J (f.l.foldl step s0) w' ∧ Chg (Kap κ g) w w'
theorem FlAt.setWin {w : World} {g : Nat} {v : Value} {f : Fl} (h : FlAt w g v f) {x : Int} (hx : 2 ≤ x ∧ x ≤ 32) : FlAt (w.setCell ⟨g, 0, .none⟩ (.int .i64 x)) g v ⟨x, f.next, f.l⟩ := by
  have hC : Chg (At g) w (w.setCell ⟨g, 0, .none⟩ (.int .i64 x)) := (Chg.refl _ _).putAt
  have hM : ∀ i, At g i → Mine w i := fun i hi => by rw [show i = g from hi]; exact h.mine
  refine ⟨by rw [set_blk _ h.blk]; rfl, own_chg h.row hC (fun i hi e => ?_), fun r hr => (h.recs r hr).chg hC hM, h.len, hx, h.next0⟩
  exact h.apart (by rw [hi, show i = g from e])
set_option maxHeartbeats 1600000 in
set_option maxRecDepth 100000 in
theorem lose_any {σ : Type} (J : σ → World → Prop) (κ : Nat → Prop) (p : Rec → Bool) (step : σ → Rec → σ) (s0 : σ) (w : World) (g : Nat) (v : Value) (f : Fl) (hF : FlAt w g v f) (fid : Nat) (caps : Array Value)
    (hc : Clo J κ (At g) w.heap.size fid caps p step) (hκ : ∀ i, κ i → ∃ a, w.heap[i]? = some (.cells a 3 (0,0))) (hj : J s0 w) :
    Calls Try.prog 78 #[.pointer (some ⟨g, 0, .none⟩), .func (.func fid) #[] caps] w (LoseTo J κ w p step s0 g f) := by
  have HF := Lib.hid hF
  have HC := Lib.hid hc
  have HK := Lib.hid hκ
  have HJ := Lib.hid hj
  clear hF hc hκ hj
  go_enter Try.func78, Try.ntmps78
  go_wp2_with fail
  refine (part_out J κ p step s0 w g v f HF.out fid caps HC.out HK.out HJ.out).mono ?_
  rintro e w2 ⟨vo, vl, rfl, h1, h2, h3, h4, h5, h6⟩
  obtain ⟨L, hL⟩ : ∃ L, L = f.l.filter p := ⟨_, rfl⟩
  obtain ⟨R, hR⟩ : ∃ R, R = f.l.filter fun r => !p r := ⟨_, rfl⟩
  have hsub : ∀ r ∈ L, r ∈ f.l := fun r hr => by rw [hL] at hr; exact (List.mem_filter.1 hr).1
  have hll : L.length ≤ 100000 := by have := List.length_filter_le p f.l; have := HF.out.len; rw [hL]; omega
  have HE := Lib.hid (show lostF p f = ⟨if L.length = 0 then f.win else max 2 (f.win / 2), f.next, R⟩ by rw [hL, hR]; rfl)
  rw [← hL] at h1
  rw [← hR] at h2
  have HL := Lib.hid hL
  have hw0 := HF.out.win0
  clear hL hR
  obtain ⟨-, A, cp, hv, -, -⟩ := Rd.of_owns h1
  subst hv
  have H1 := Lib.hid h1
  have H2 := Lib.hid h2
  have H3 := Lib.hid h3
  have H4 := Lib.hid h4
  have H5 := Lib.hid h5
  have H6 := Lib.hid h6
  have HS := Lib.hid hsub
  have hs2 := h6.size
  clear h1 h2 h3 h4 h5 h6 hsub
  by_cases hz : L.length = 0
  · have HZ := Lib.hid hz
    have hd : decide (0 < L.length) = false := by simp [hz]
    clear hz
    go_wp2_with fail
    refine (carried_any _ L w2 (H1.out.mono (Nat.zero_le _)) (fun r hr => H4.out r (HS.out r hr)) hll).mono ?_
    rintro e w3 ⟨vr, rfl, g1, g2⟩
    go_wp2_with fail
    go_ret
    refine ⟨_, vl, rfl, ?_, ?_, H3.out, HC.out.stay _ _ _ H5.out (g2.mono fun _ _ h => h.elim), H6.out.then_none g2⟩
    · rw [← HL.out]; exact g1.mono hs2
    · rw [HE.out, if_pos HZ.out]
      exact H2.out.chg g2 (fun _ h => h.elim) (not_nowhere _) (fun _ _ => not_nowhere _)
  · have HZ := Lib.hid hz
    have hd : 0 < L.length := by omega
    clear hz
    have c0 : w2.cell? ⟨g, 0, .none⟩ = some (.int .i64 f.win) := by rw [cell_blk H2.out.blk]; rfl
    have f0 : w2.frozen? ⟨g, 0, .none⟩ = false := frozen_blk H2.out.blk
    rcases (by omega : f.win / 2 < 2 ∨ f.win / 2 = 2 ∨ 2 < f.win / 2) with hh | hh | hh
    all_goals
      obtain ⟨x, hx⟩ : ∃ x, x = max 2 (f.win / 2) := ⟨_, rfl⟩
      have HX := Lib.hid hx
      have hx0 : 2 ≤ x ∧ x ≤ 32 := by omega
      have HW := Lib.hid (H2.out.setWin hx0)
      have HCW := Lib.hid (show Chg (At g) w2 (w2.setCell ⟨g, 0, .none⟩ (.int .i64 x)) from (Chg.refl _ _).putAt)
      clear hx
      go_wp2_with fail
      first | (rw [show (2 : Int) = x by have := HX.out; omega]) | (rw [show f.win / 2 = x by have := HX.out; omega]) | skip
      refine (carried_any _ L (w2.setCell ⟨g, 0, .none⟩ (.int .i64 x)) (own_chg (H1.out.mono (Nat.zero_le _)) HCW.out (fun i hi e => by have := (H1.out.lt i hi).1; have := lt_blk HF.out.blk; have : i = g := e; omega)) (fun r hr => (H4.out r (HS.out r hr)).chg HCW.out (fun i hi => by rw [show i = g from hi]; exact H2.out.mine)) hll).mono ?_
      rintro e w3 ⟨vr, rfl, g1, g2⟩
      go_wp2_with fail
      go_ret
      have hs3 := HCW.out.size
      refine ⟨_, vl, rfl, ?_, ?_, H3.out, HC.out.stay _ _ _ (HC.out.stay _ _ _ H5.out (HCW.out.mono fun i _ h => Or.inr h)) (g2.mono fun _ _ h => h.elim), (H6.out.trans' (HCW.out.mono fun i _ h => Or.inr h)).then_none g2⟩
      · rw [← HL.out]; exact g1.mono (by omega)
      · rw [HE.out, if_neg HZ.out, ← HX.out]
        exact HW.out.chg g2 (fun _ h => h.elim) (not_nowhere _) (fun _ _ => not_nowhere _)
end Go.Proofs.Ytiijnhgafadokaa
