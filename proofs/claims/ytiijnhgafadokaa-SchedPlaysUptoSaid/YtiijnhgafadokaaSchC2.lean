/-
  The scheduler (layer 21): Sent, and that what it keeps is new.
-/
import Derived.Test.YtiijnhgafadokaaSchC
namespace Go.Proofs.Ytiijnhgafadokaa
open Go.RowKit
set_option linter.unusedVariables false

def SentTo2 (Z : Nat → Prop) (w : World) (s N : Nat) (S : Sch) (k c now : Int) (car : List (Int × Int)) (e : Ending) (w' : World) : Prop :=
  ∃ cv, e = .returned (.tuple #[]) ∧ SchIs Z w' s N (sentS S k c now cv car) ∧ ChgZ Z w w' ∧ ∀ i, cv.ownBlock = some i → w.heap.size ≤ i
set_option maxHeartbeats 1600000 in
set_option maxRecDepth 100000 in
theorem sent_fresh (Z : Nat → Prop) (w : World) (s N : Nat) (S : Sch) (h : SchIs Z w s N S) (hZ : ∀ i, w.heap.size ≤ i → Z i) (k c now : Int) (hk : InI k) (vc : Value) (car : List (Int × Int)) (hR : Rd w vc 2 car.length (flat car)) (hcl : car.length ≤ 2000000)
    (hsep : ∀ g o n c', vc = .slice (some ⟨g, o, .none⟩) n c' → ¬ (Z g ∧ Mine w g)) (hlen : under S k < 100000) :
    Calls Try.prog 45 #[.pointer (some ⟨s, 0, .none⟩), .int .i64 k, .int .i64 c, .int .i64 now, vc] w (SentTo2 Z w s N S k c now car) := by
  obtain ⟨i0, hi, hz0, hz1, hz2⟩ := info_parts infoRec
  have HI := Lib.hid h
  obtain ⟨m, F, V, h⟩ := h
  have H := Lib.hid h
  have HZ := Lib.hid hZ
  have HR := Lib.hid hR
  have HSep := Lib.hid hsep
  have hlk := h.map.look hk
  have cs : w.cell? ⟨s, 2, .none⟩ = some (.map (some m)) := by rw [cell_blk h.blk]; rfl
  obtain ⟨-, Ac, capc, rfl, -, -⟩ := hR
  cases hf : F k with
  | none =>
    rw [hf] at hlk
    simp only [lookV] at hlk
    have E := Lib.hid (show ∀ cv, sentS S k c now cv car = S by intro cv; unfold sentS; rw [h.no k hf])
    clear h hf hZ hsep hk
    go_enter Try.func45, Try.ntmps45
    go_wp2_with fail
    refine bodyPost_ret (results_none rfl _ _ _) rfl ?_
    exact ⟨.slice .none 0 0, rfl, by rw [E.out]; exact HI.out, ChgZ.refl _ _, fun i hi => by cases hi⟩
  | some g =>
    obtain ⟨f, hop, hF⟩ := h.fl k g hf
    rw [hf] at hlk
    simp only [lookV] at hlk
    have HK := Lib.hid hf
    have HOP := Lib.hid hop
    have HF := Lib.hid hF
    have c1 : w.cell? ⟨g, 1, .none⟩ = some (.int .i64 f.next) := by rw [cell_blk hF.blk]; rfl
    have c2 : w.cell? ⟨g, 2, .none⟩ = some (V k) := by rw [cell_blk hF.blk]; rfl
    have fz : ∀ o, w.frozen? ⟨g, o, .none⟩ = false := fun o => frozen_blk hF.blk
    have f1 := fz 1
    obtain ⟨-, A, cp, hv, -, -⟩ := Rd.of_owns hF.row
    have HV := Lib.hid hv
    have hgl := lt_blk hF.blk
    have hnx := hF.next0
    have hl : f.l.length < 100000 := by unfold under at hlen; rw [hop] at hlen; exact hlen
    by_cases hc0 : c < f.next
    · have E := Lib.hid (show ∀ cv, sentS S k c now cv car = S by intro cv; unfold sentS; rw [hop]; exact if_pos (.inl hc0))
      clear h hf hZ hsep hk fz hop hF hv
      go_enter Try.func45, Try.ntmps45
      go_wp2_with fail
      refine bodyPost_ret (results_none rfl _ _ _) rfl ?_
      exact ⟨.slice .none 0 0, rfl, by rw [E.out]; exact HI.out, ChgZ.refl _ _, fun i hi => by cases hi⟩
    · by_cases hc1 : 281474976710655 < c
      · have E := Lib.hid (show ∀ cv, sentS S k c now cv car = S by intro cv; unfold sentS; rw [hop]; exact if_pos (.inr hc1))
        clear h hf hZ hsep hk fz hop hF hv
        go_enter Try.func45, Try.ntmps45
        go_wp2_with fail
        refine bodyPost_ret (results_none rfl _ _ _) rfl ?_
        exact ⟨.slice .none 0 0, rfl, by rw [E.out]; exact HI.out, ChgZ.refl _ _, fun i hi => by cases hi⟩
      · have E := Lib.hid (show ∀ cv, sentS S k c now cv car = setOp S k (some ⟨f.win, c + 1, f.l ++ [⟨c, mom21 now, cv, car⟩]⟩) by intro cv; unfold sentS; rw [hop]; exact if_neg (by omega))
        clear h hf hZ hsep hk fz hop hF hv
        go_enter Try.func45, Try.ntmps45
        go_wp2_with fail
        have HCA := Lib.hid (show Chg (At g) w (w.setCell ⟨g, 1, .none⟩ (.int .i64 (c + 1))).drew from ((Chg.refl (At g) w).putAt).drew)
        have HR2 := Lib.hid (HR.out.mono HCA.out (fun g' o c' e e2 => HSep.out g' o _ c' e (by rw [show g' = g from e2]; exact ⟨H.out.zg _ _ HK.out, HF.out.mine⟩)))
        have HBA := Lib.hid (show (w.setCell ⟨g, 1, .none⟩ (.int .i64 (c + 1))).drew.heap[g]? = some (.cells #[.int .i64 f.win, .int .i64 (c + 1), V k] 101 (0,0)) by
          show (w.setCell ⟨g, 1, .none⟩ (.int .i64 (c + 1))).heap[g]? = _
          rw [set_blk _ HF.out.blk]; rfl)
        have HOA := Lib.hid (own_chg HF.out.row HCA.out (fun i hi e => HF.out.apart (by rw [hi, show i = g from e])))
        have hrl : (rcl f.l).length = f.l.length * 3 := HF.out.row.1
        go_region_law (first
          | (refine step_append_lies _ (by rfl) _ _ _ (by rfl) 0 104 i0 _ 3 40 Try.underlying99 hi hz0 hz1 hz2 rfl (by omega) (V k) f.l.length (rcl f.l) (by rfl) (HO3.out.alloc _) ⟨w3.heap.size, 0, .none⟩ 1 1 [.int .i64 c, .int .i64 (mom21 now), .slice Av car.length cpv] (by rfl) (by rfl) (World.news_of_block (cs := #[.int .i64 c, .int .i64 (mom21 now), .slice Av car.length cpv]) (t := 104) (fr := (0, 0)) (heap_alloc_new w3 _)) (by simp [Value.oneCell']) (by omega) (by unfold maxLen; omega) (by omega) (by omega) (w3.heap.size + 1) (by simp) ?_; intro gg cap4 w4 hown4 hgrow4 hat4 hlt4; have B4 := (hgrow4.block g (by have := lt_blk HB3.out; simp; omega) (fun e => HF.out.apart e.symm)).trans (alloc_old HB3.out); have f4 : w4.frozen? ⟨g, 2, .none⟩ = false := frozen_blk B4; have c4 := cell_blk (o := 2) B4; have HB4 := Lib.hid B4; have HO4 := Lib.hid hown4; have HG4 := Lib.hid hgrow4; have HAT := Lib.hid hat4; clear B4 hown4 hgrow4 hat4)
          | (go_simp; go_at_call 72; refine (mom21_any _ _).mono ?_; rintro e w' ⟨rfl, rfl⟩)
          | (go_simp; go_at_call 73; refine (cloneR_any _ car _ HR2.out (by omega)).mono ?_; rintro e w3 ⟨cv, rfl, hcv, hC3, hcv2⟩; obtain ⟨-, Av, cpv, rfl, -, -⟩ := Rd.of_owns hcv; have HB3 := Lib.hid (hC3.same HBA.out); have c3 := cell_blk (o := 2) HB3.out; have hg3 := lt_blk HB3.out; have HO3 := Lib.hid (own_chg HOA.out hC3 (fun _ _ => not_nowhere _)); have HCV := Lib.hid hcv; have HC3 := Lib.hid hC3; have HCV2 := Lib.hid hcv2; clear hcv hC3 hcv2))
        all_goals
          go_end0
          have h2 : Chg (fun i => i = g ∨ (V k).ownBlock = some i) w w3 := (HCA.out.mono (fun i _ e => Or.inl e)).then_none HC3.out
          have h3 := (h2.alloc (.cells #[.int .i64 c, .int .i64 (mom21 now), .slice Av car.length cpv] 104)).grown HG4.out (fun k' hk' => .inr (.inr hk'))
          have hcv4 := own_chg HCV.out (((Chg.refl (fun i => (V k).ownBlock = some i) w3).alloc (.cells #[.int .i64 c, .int .i64 (mom21 now), .slice Av car.length cpv] 104)).grown HG4.out (fun k' hk' => .inr hk')) (fun i hi e => by
            obtain ⟨cur1, hh1⟩ := own_blk HCV.out hi
            obtain ⟨cur2, hh2⟩ := own_blk HO3.out e
            exact types_ne hh1 hh2 (by decide) rfl)
          have hsz := h2.size
          have fin := H.out.sent HK.out HOP.out (r := ⟨c, mom21 now, .slice Av car.length cpv, car⟩) (by omega) (by omega) hl h3 HB4.out HO4.out ⟨hcv4, ⟨by show 0 ≤ c; omega, by show c ≤ _; omega⟩, mom21_in now, hcl⟩ (fun i hi => by
            obtain rfl : gg = i := by simpa [Value.ownBlock] using hi
            rcases HAT.out with e | e
            · exact .inl e
            · exact .inr ⟨by omega, HZ.out _ (by omega)⟩)
          exact ⟨_, rfl, by rw [E.out]; exact ⟨_, _, _, fin.1⟩, fin.2, fun i hi => by have := HCV2.out i hi; have := HCA.out.size; omega⟩
end Go.Proofs.Ytiijnhgafadokaa
