/-
  The scheduler (layer 21): Got of a path that is open.
-/
import Derived.Test.YtiijnhgafadokaaSchJ
namespace Go.Proofs.Ytiijnhgafadokaa
open Go.RowKit
set_option linter.unusedVariables false

theorem FlAt.kap {w w' : World} {g : Nat} {v : Value} {f : Fl} (h : FlAt w g v f) {κ : Nat → Prop} (hκ : ∀ i, κ i → ∃ a, w.heap[i]? = some (.cells a 3 (0,0))) (hc : Chg κ w w') : FlAt w' g v f := by
  refine ⟨hc.keep h.blk fun e => ?_, own_chg h.row hc fun i hi e => ?_, fun r hr => recOk_kap (h.recs r hr) hκ hc, h.len, h.win0, h.next0⟩
  · obtain ⟨a, ha⟩ := hκ g e
    exact types_ne ha h.blk (by decide) rfl
  · obtain ⟨a, ha⟩ := hκ i e
    obtain ⟨cur, hh⟩ := own_blk h.row hi
    exact types_ne ha hh (by decide) rfl
theorem keepT {w : World} {b : Nat} {tk : Int} (h : w.heap[b]? = some (.cells #[.int .i64 tk] 3 (0,0))) : (w.setCell ⟨b, 0, .none⟩ (.int .i64 tk)).cell? ⟨b, 0, .none⟩ = some (.int .i64 tk) := by
  have := set_blk (o := 0) (.int .i64 tk) h
  rw [cell_blk this]; rfl
set_option maxHeartbeats 3200000 in
set_option maxRecDepth 100000 in
theorem got_some (Z : Nat → Prop) (w : World) (s m N : Nat) (F : Int → Option Nat) (V : Int → Value) (S : Sch) (h : SchAt Z w s m N F V S) (hZ : ∀ i, w.heap.size ≤ i → Z i) (k top now : Int) (hk : InI k) (ht : InI top) (vl : Value) (l : List (Int × Int)) (hl : l.length ≤ 9223372036854775807) (hR : Rd w vl 2 l.length (flat l))
    (hsep : 0 < l.length → ∀ g o n c', vl = .slice (some ⟨g, o, .none⟩) n c' → ¬ (Z g ∧ Mine w g)) (g : Nat) (hf : F k = some g) :
    Calls Try.prog 46 #[.pointer (some ⟨s, 0, .none⟩), .int .i64 k, .int .i64 top, vl, .int .i64 now] w (GotTo Z w s N S k top l now) := by
  have hmf : ∀ (fn : Fn) (first cap : Array Value) (w : World), (Instr.makeFunc fn first cap).run Try.prog w = .ok (.func fn first cap) w := fun _ _ _ _ => rfl
  obtain ⟨f, hop, hF⟩ := h.fl k g hf
  have HI := Lib.hid h
  have HZ := Lib.hid hZ
  have HK := Lib.hid hf
  have hA := h.chg (boxes_chg w top now 0 vl)
  have hlk := hA.map.look hk
  rw [hf] at hlk
  simp only [lookV, boxes] at hlk
  have cs : (boxes w top now 0 vl).cell? ⟨s, 2, .none⟩ = some (.map (some m)) := by rw [cell_blk hA.blk]; rfl
  simp only [boxes] at cs
  have E := Lib.hid (show gotS S k top l = setOp S k (some (lostF (farBehind top) (cameF top l f))) by unfold gotS; rw [hop])
  have E2 := Lib.hid (show gotL S k top l = cars ((cameF top l f).l.filter (farBehind top)) by unfold gotL; rw [hop])
  have E3 := Lib.hid (show gotT S k top now = f.l.foldl (stepG top now) (-1) by unfold gotT; rw [hop])
  have hgl := lt_blk hF.blk
  have hB := boxes_at w top now (-1) vl
  have HB := Lib.hid hB
  have hCB := boxes_chg w top now (-1) vl
  have HCB := Lib.hid hCB
  have hFB : FlAt (boxes w top now (-1) vl) g (V k) f := hF.chg hCB (fun _ h => h.elim) (not_nowhere _) (fun _ _ => not_nowhere _)
  have HFB := Lib.hid hFB
  have hsep2 : 0 < l.length → ∀ g' o n c', vl = .slice (some ⟨g', o, .none⟩) n c' → g' < w.heap.size ∧ g' ≠ g := fun h0 g' o n c' e => by
    refine ⟨?_, fun e2 => hsep h0 g' o n c' e (by rw [e2]; exact ⟨h.zg _ _ hf, hF.mine⟩)⟩
    obtain ⟨A, cp, hv, -, h2⟩ := hR.2
    obtain ⟨g2, o2, e3, hg2, -⟩ := h2 h0
    rw [hv, e3] at e
    simp only [Value.slice.injEq, Option.some.injEq, Addr.mk.injEq] at e
    rw [← e.1.1]; exact hg2
  have HJ := Lib.hid (show GotSt w.heap.size (w.heap.size + 1) (w.heap.size + 1 + 1) (w.heap.size + 1 + 1 + 1) top now vl l (-1) (boxes w top now (-1) vl) from
    ⟨hB.1, hB.2.1, hB.2.2.1, hB.2.2.2.1, hR.same hCB, by omega, by omega, fun h0 g' o n c' e => by have := (hsep2 h0 g' o n c' e).1; omega⟩)
  have HCl := Lib.hid (got_clo w.heap.size (w.heap.size + 1) (w.heap.size + 1 + 1) (w.heap.size + 1 + 1 + 1) g (boxes w top now (-1) vl).heap.size top now vl l hl (by rw [hB.2.2.2.2]; omega) (by rw [hB.2.2.2.2]; omega) (by rw [hB.2.2.2.2]; omega) (by rw [hB.2.2.2.2]; omega)
    (by omega) (by omega) (by omega) (by omega) (fun h0 g' o n c' e => ⟨by rw [hB.2.2.2.2]; have := (hsep2 h0 g' o n c' e).1; omega, (hsep2 h0 g' o n c' e).2⟩))
  have HT := Lib.hid ht
  obtain ⟨A, cp, rfl, -, -⟩ := hR.2
  clear h hf hA hR hZ hop hB hCB hFB hsep hsep2 ht
  go_enter Try.func46, Try.ntmps46
  go_wp2_with fail
  refine (part_out _ (At (w.heap.size + 1 + 1 + 1)) _ _ (-1) (boxes w top now (-1) (.slice A l.length cp)) g _ f HFB.out _ _ HCl.out (fun i hi => by rw [show i = _ from hi]; exact ⟨_, HB.out.2.2.2.1⟩) HJ.out).mono ?_
  rintro e w2 ⟨vo, vl2, rfl, p1, p2, p3, p4, p5, p6⟩
  obtain ⟨n, hn⟩ : ∃ n, n = (f.l.filter (gotP top l)).length := ⟨_, rfl⟩
  have hnl : n ≤ 100000 := by have := List.length_filter_le (gotP top l) f.l; have := HFB.out.len; omega
  rw [← hn] at p1
  have HN := Lib.hid hn
  clear hn
  obtain ⟨-, A2, cp2, hv, -, -⟩ := Rd.of_owns p1
  subst hv
  have g0 : w2.cell? ⟨g, 0, .none⟩ = some (.int .i64 f.win) := by rw [cell_blk p2.blk]; rfl
  have g1 : w2.frozen? ⟨g, 0, .none⟩ = false := frozen_blk p2.blk
  have hw0 := HFB.out.win0
  obtain ⟨tk, htk⟩ : ∃ tk, tk = f.l.foldl (stepG top now) (-1) := ⟨_, rfl⟩
  rw [← htk] at p5
  have HTK := Lib.hid htk
  have P2 := Lib.hid p2
  have P5 := Lib.hid p5
  have P6 := Lib.hid p6
  have hs2 := p6.size
  rw [HB.out.2.2.2.2] at hs2
  clear p1 p2 p3 p4 p5 p6 htk
  obtain ⟨x, hx⟩ : ∃ x, x = min 32 (f.win + (n : Int)) := ⟨_, rfl⟩
  have HX := Lib.hid hx
  have hx0 : 2 ≤ x ∧ x ≤ 32 := by omega
  clear hx
  have HW := Lib.hid (P2.out.setWin hx0)
  rcases (by omega : 32 ≤ f.win + (n : Int) ∨ f.win + (n : Int) < 32) with hh | hh
  all_goals
    first | (have XV := Lib.hid (show (32 : Int) = x by have := HX.out; omega)) | (have XV := Lib.hid (show f.win + (n : Int) = x by have := HX.out; omega))
    go_wp2_with fail
    rw [XV.out]
    have n4 : w.heap.size + 1 + 1 + 1 ≠ g := types_ne P5.out.tk P2.out.blk (by decide)
    have HCW := Lib.hid (show Chg (At g) w2 (w2.setCell ⟨g, 0, .none⟩ (.int .i64 x)).drew from ((Chg.refl (At g) w2).putAt).drew)
    have HB4 := Lib.hid (HCW.out.keep P5.out.tk n4)
    have HJ2 := Lib.hid (show (w2.setCell ⟨g, 0, .none⟩ (.int .i64 x)).drew.cell? ⟨w.heap.size, 0, .none⟩ = some (.int .i64 top) by
      rw [cell_blk (HCW.out.keep P5.out.top (by show ¬ (_ = g); omega))]; rfl)
    have HCl2 := Lib.hid (far_clo w.heap.size g (w2.setCell ⟨g, 0, .none⟩ (.int .i64 x)).drew.heap.size top HT.out (by have := HCW.out.size; omega) (by omega))
    have HWd := Lib.hid (show FlAt (w2.setCell ⟨g, 0, .none⟩ (.int .i64 x)).drew g vl2 ⟨x, f.next, f.l.filter fun r => !gotP top l r⟩ from HW.out.chg ((Chg.refl Nowhere _).drew) (fun _ h => h.elim) (not_nowhere _) (fun _ _ => not_nowhere _))
    have q4 : (w2.setCell ⟨g, 0, .none⟩ (.int .i64 x)).cell? ⟨w.heap.size + 1 + 1 + 1, 0, .none⟩ = some (.int .i64 tk) := by
      have := cell_blk (o := 0) HB4.out
      exact this
    go_region_held3 (fun w' => w'.cell? ⟨w.heap.size + 1 + 1 + 1, 0, .none⟩ = some (.int .i64 tk)) (first | exact q4 | exact c4 | exact keepT B4.out | go_keep)
      (first | (go_at_call 78; refine (lose_any (fun (_ : Unit) w' => w'.cell? ⟨w.heap.size, 0, .none⟩ = some (.int .i64 top)) Nowhere (farBehind top) (fun _ _ => ()) () _ g _ _ HWd.out _ _ HCl2.out (fun i h => h.elim) HJ2.out).mono ?_; rintro e w4 ⟨vr, vl3, rfl, r1, r2, r3, r4, r5⟩; have B4 := Lib.hid (r5.keep HB4.out (fun h => h.elim (fun h => h.elim) n4)); have c4 : w4.cell? ⟨w.heap.size + 1 + 1 + 1, 0, .none⟩ = some (.int .i64 tk) := (by rw [cell_blk B4.out]; rfl); have f4 : w4.frozen? ⟨w.heap.size + 1 + 1 + 1, 0, .none⟩ = false := frozen_blk B4.out; have R1 := Lib.hid r1; have R2 := Lib.hid r2; have R3 := Lib.hid r3; have R5 := Lib.hid r5; clear r1 r2 r3 r4 r5))
    all_goals
      go_wp2_with fail
      have cT := keepT B4.out
      refine bodyPost_ret (v := .tuple #[vr, .int .i64 tk]) (by simp [results, Try.results46, cT, go_sem]) rfl ?_
      have hsz := HCW.out.size
      have hS1 : Chg (fun i => i = g ∨ (V k).ownBlock = some i) w (boxes w top now (-1) (.slice A l.length cp)) := HCB.out.mono (fun _ _ h => h.elim)
      have hS2 := hS1.trans P6.out (fun i hi e => e.elim (fun e4 => absurd hi (by rw [show i = w.heap.size + 1 + 1 + 1 from e4]; omega)) (fun e => Or.inl e))
      have hS3 := (hS2.put (b := g) (.inl (Or.inl rfl)) (o := 0) (v := .int .i64 x)).drew
      have hS4 := hS3.trans R5.out (fun i _ e => e.elim (fun h => h.elim) (fun e => Or.inl e))
      have hS5 := hS4.put (b := w.heap.size + 1 + 1 + 1) (.inr (by omega)) (o := 0) (v := .int .i64 tk)
      have hk4 : Chg (At (w.heap.size + 1 + 1 + 1)) w4 (w4.setCell ⟨w.heap.size + 1 + 1 + 1, 0, .none⟩ (.int .i64 tk)) := (Chg.refl _ _).putAt
      have hF5 := R2.out.kap (κ := At (w.heap.size + 1 + 1 + 1)) (fun i hi => by rw [show i = _ from hi]; exact ⟨_, B4.out⟩) hk4
      have hcf : cameF top l f = ⟨x, f.next, f.l.filter fun r => !gotP top l r⟩ := by unfold cameF; rw [← HN.out, ← HX.out]
      have fin := HI.out.turn HK.out hS5 hF5 (fun i hi => .inr ⟨by have := R3.out i hi; omega, HZ.out i (by have := R3.out i hi; omega)⟩)
      have hr := (own_chg R1.out hk4 (fun i hi e => by have := (R1.out.lt i hi).1; have : i = w.heap.size + 1 + 1 + 1 := e; omega)).mono (show w.heap.size ≤ _ by omega)
      exact ⟨vr, by rw [E3.out, ← HTK.out], by rw [E2.out, hcf]; exact hr, by rw [E.out, hcf]; exact ⟨_, _, _, fin.1⟩, fin.2⟩
theorem got_any (Z : Nat → Prop) (w : World) (s N : Nat) (S : Sch) (h : SchIs Z w s N S) (hZ : ∀ i, w.heap.size ≤ i → Z i) (k top now : Int) (hk : InI k) (ht : InI top) (vl : Value) (l : List (Int × Int)) (hl : l.length ≤ 9223372036854775807) (hR : Rd w vl 2 l.length (flat l))
    (hsep : 0 < l.length → ∀ g o n c', vl = .slice (some ⟨g, o, .none⟩) n c' → ¬ (Z g ∧ Mine w g)) :
    Calls Try.prog 46 #[.pointer (some ⟨s, 0, .none⟩), .int .i64 k, .int .i64 top, vl, .int .i64 now] w (GotTo Z w s N S k top l now) := by
  obtain ⟨m, F, V, h⟩ := h
  cases hf : F k with
  | none => exact got_none Z w s m N F V S h k top now hk vl l hR hf
  | some g => exact got_some Z w s m N F V S h hZ k top now hk ht vl l hl hR hsep g hf
end Go.Proofs.Ytiijnhgafadokaa
