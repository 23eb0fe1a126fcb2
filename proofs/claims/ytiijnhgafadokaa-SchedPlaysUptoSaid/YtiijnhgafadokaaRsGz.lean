/-
  The document's scheduler: Sent, walked.
-/
import Derived.Test.YtiijnhgafadokaaRsG
import Derived.Deep.RegionHeld3
import Derived.Deep.RegionLaw
namespace Go.Proofs.Ytiijnhgafadokaa
open Go.RowKit
set_option linter.unusedVariables false
variable {B : Nat}

set_option maxHeartbeats 100000000 in
set_option maxRecDepth 100000 in
theorem sentR_zero (w : World) (y : Nat) (R : RSch) (h : RSIs B w y R) (id c now : Int) (ad : Addr) (capc : Nat) (hlen : underR R id < 100000) :
    Calls Try.prog 55 #[.pointer (some ⟨y, 0, .none⟩), .int .i64 id, .int .i64 c, .int .i64 now, .slice (some ad) 0 capc] w (SentRTo B w y R id c now []) := by
  obtain ⟨i0, hi, hz0, hz1, hz2⟩ := info_parts infoRecR
  obtain ⟨ir, hir, hr0, hr1, hr2⟩ := info_parts infoRng
  have HI := Lib.hid h
  obtain ⟨vL, h⟩ := h
  have H := Lib.hid h
  obtain ⟨A, cL, rfl⟩ := h.slice
  have c2 : w.cell? ⟨y, 2, .none⟩ = some (.slice A R.L.length cL) := by rw [cell_blk h.blk]; rfl
  clear h
  cases hf : fnd R.L id with
  | none =>
    have E := Lib.hid (show sentRS R id c now (.slice .none 0 0) (.slice .none 0 0) [] = R by unfold sentRS; rw [hf])
    have EA := Lib.hid (show atI R.L id = -1 by unfold atI; rw [hf])
    clear hf
    go_enter Try.func55, Try.ntmps55
    go_wp2_with fail
    refine (at_any w y R HI.out id).mono ?_
    rw [EA.out]
    rintro e w' ⟨rfl, rfl⟩
    go_wp2_with fail
    refine bodyPost_ret (results_none rfl _ _ _) rfl ?_
    exact ⟨_, _, rfl, by rw [E.out]; exact HI.out, ChgR.refl _, fun i hi => by cases hi⟩
  | some i =>
    obtain ⟨f, hfi, -⟩ := fnd_some hf
    have hil := (List.getElem?_eq_some_iff.1 hfi).1
    have EA := Lib.hid (show atI R.L id = (i : Int) by unfold atI; rw [hf])
    have ES := Lib.hid (show ∀ lv cv, sentRS R id c now lv cv [] = if c < 0 ∨ 281474976710655 < c ∨ f.has = true ∧ c ≤ f.top then R else { R with L := R.L.set i (sentRF f c now lv cv []) } from fun lv cv => by unfold sentRS; rw [hf]; simp only; rw [hfi])
    have hfl : f.l.length < 100000 := by unfold underR at hlen; rw [hf] at hlen; simp only at hlen; rw [hfi] at hlen; exact hlen
    obtain ⟨g, o, c', e, hg, ⟨d0, d1, d2, d3, d4⟩, hm, hfz, hput⟩ := H.out.cellsW hfi
    cases e
    have HOK := Lib.hid (H.out.fl f (List.mem_of_getElem? hfi))
    have HFI := Lib.hid hfi
    clear hf hfi d0 d1 hlen
    by_cases h1 : c < 0
    · have E := Lib.hid (show sentRS R id c now (.slice .none 0 0) (.slice .none 0 0) [] = R by rw [ES.out]; exact if_pos (.inl h1))
      clear hput hm hfz
      go_enter Try.func55, Try.ntmps55
      go_wp2_with fail
      refine (at_any w y R HI.out id).mono ?_
      rw [EA.out]
      rintro e w' ⟨rfl, rfl⟩
      go_wp2_with fail
      refine bodyPost_ret (results_none rfl _ _ _) rfl ?_
      exact ⟨_, _, rfl, by rw [E.out]; exact HI.out, ChgR.refl _, fun i hi => by cases hi⟩
    · by_cases h2 : 281474976710655 < c
      · have E := Lib.hid (show sentRS R id c now (.slice .none 0 0) (.slice .none 0 0) [] = R by rw [ES.out]; exact if_pos (.inr (.inl h2)))
        clear hput hm hfz
        go_enter Try.func55, Try.ntmps55
        go_wp2_with fail
        refine (at_any w y R HI.out id).mono ?_
        rw [EA.out]
        rintro e w' ⟨rfl, rfl⟩
        go_wp2_with fail
        refine bodyPost_ret (results_none rfl _ _ _) rfl ?_
        exact ⟨_, _, rfl, by rw [E.out]; exact HI.out, ChgR.refl _, fun i hi => by cases hi⟩
      · by_cases h3 : f.has = true ∧ c ≤ f.top
        · have E := Lib.hid (show sentRS R id c now (.slice .none 0 0) (.slice .none 0 0) [] = R by rw [ES.out]; exact if_pos (.inr (.inr h3)))
          obtain ⟨h4, h5⟩ := h3
          rw [h4] at d3
          have hd5 : decide (c ≤ f.top) = true := decide_eq_true h5
          clear hput hm hfz h4 h5
          go_enter Try.func55, Try.ntmps55
          go_wp2_with fail
          refine (at_any w y R HI.out id).mono ?_
          rw [EA.out]
          rintro e w' ⟨rfl, rfl⟩
          go_wp2_with fail
          refine bodyPost_ret (results_none rfl _ _ _) rfl ?_
          exact ⟨_, _, rfl, by rw [E.out]; exact HI.out, ChgR.refl _, fun i hi => by cases hi⟩
        · have E := Lib.hid (show ∀ lv cv, sentRS R id c now lv cv [] = { R with L := R.L.set i (sentRF f c now lv cv []) } from fun lv cv => by rw [ES.out]; exact if_neg (fun hh => hh.elim h1 fun hh => hh.elim h2 h3))
          have f3 := hfz 3
          obtain ⟨q1, q2⟩ := hput 3 (.bool true) { f with has := true } (by omega) rfl ⟨HOK.out.row, HOK.out.recs, HOK.out.len, HOK.out.win0, HOK.out.top0⟩ (show Apart R i f.lv from H.out.apartOf HFI.out) (show ∀ q, f.lv.ownBlock = some q → B ≤ q from H.out.zl f (List.mem_of_getElem? HFI.out))
          obtain ⟨g1, o1, c1, e, hgl1, ⟨b0, b1, b2, b3, b4⟩, -, bfz, bput⟩ := q1.cellsW (k := i) (f := { f with has := true }) (by show (R.L.set i _)[i]? = _; rw [List.getElem?_set_self hil])
          simp only [Value.slice.injEq, Option.some.injEq, Addr.mk.injEq] at e
          obtain ⟨⟨rfl, rfl, -⟩, -, rfl⟩ := e
          have f2 := bfz 2
          have HCU := Lib.hid (show ∃ cur, w.heap[g]? = some (.cells cur 117 (0,0)) by
            obtain ⟨g2, o2, c2, e, -, -, -, -, -, -, cur, hh⟩ := H.out.cells HFI.out
            simp only [Value.slice.injEq, Option.some.injEq, Addr.mk.injEq] at e
            obtain ⟨⟨rfl, rfl, -⟩, -, rfl⟩ := e
            exact ⟨cur, hh⟩)
          have hyg : y ≠ g := by
            obtain ⟨cur, hh⟩ := HCU.out
            exact types_nott H.out.blk hh (by decide)
          have hgy : g ≠ y := fun e => hyg e.symm
          obtain ⟨p1, p2⟩ := bput 2 (.int .i64 c) { f with has := true, top := c } (by omega) rfl ⟨(q1.fl { f with has := true } (List.mem_of_getElem? (i := i) (by show (R.L.set i _)[i]? = _; rw [List.getElem?_set_self hil]))).row, (q1.fl { f with has := true } (List.mem_of_getElem? (i := i) (by show (R.L.set i _)[i]? = _; rw [List.getElem?_set_self hil]))).recs, HOK.out.len, HOK.out.win0, (by show 0 ≤ c ∧ c ≤ _; omega)⟩ (q1.apartOf (k := i) (f := { f with has := true }) (by show (R.L.set i _)[i]? = _; rw [List.getElem?_set_self hil])) (show ∀ q, f.lv.ownBlock = some q → B ≤ q from H.out.zl f (List.mem_of_getElem? HFI.out))
          simp only [List.set_set] at p1
          have P1 := Lib.hid p1
          have P2 := Lib.hid (q2.trans' p2)
          have ht : decide (c ≤ f.top) = true → f.has = false := fun hh => by
            cases hb : f.has with
            | false => rfl
            | true => exact absurd ⟨hb, by simpa using hh⟩ h3
          clear hput hm hfz q1 q2 bput bfz p1 p2 b0 b1 b3 b4 h3
          go_enter Try.func55, Try.ntmps55
          go_wp2_with fail
          refine (at_any w y R HI.out id).mono ?_
          rw [EA.out]
          rintro e w' ⟨rfl, rfl⟩
          go_upto_region 1 with (fail)
          go_cut [10, 45] (fun v10 t wx => v10 = .int .i64 (i : Int) ∧ t = .bool false ∧ wx = w)
          case first =>
            cases hb : f.has with
            | false =>
              rw [hb] at d3
              clear ht
              go_wp2_with fail
              go_meet
              exact ⟨rfl, (by first | rfl | (simp <;> omega)), rfl⟩
            | true =>
              rw [hb] at d3
              have hd : decide (c ≤ f.top) = false := by
                cases hd : decide (c ≤ f.top) with
                | false => rfl
                | true => rw [ht hd] at hb; cases hb
              clear ht hb
              go_wp2_with fail
              go_meet
              exact ⟨rfl, (by first | rfl | (simp <;> omega)), rfl⟩
          case rest =>
            obtain ⟨rfl, rfl, hcw⟩ := hcut
            rw [hcw]
            clear hcw ht
            go_upto_region 4 with (fail)
            generalize hw2 : (w.setCell ⟨g, o + i * 5 + 3, .none⟩ (.bool true)).setCell ⟨g, o + i * 5 + 2, .none⟩ (.int .i64 c) = w2 at P1 P2 ⊢
            have HMg := Lib.hid (show ∀ q, q < w.heap.size → At g q → MineR B w q from fun q _ e => by
              obtain ⟨cur, hh⟩ := HCU.out
              exact ⟨by rw [show q = g from e]; exact H.out.zL g rfl, cur, _, by rw [show q = g from e]; exact hh, .inr (.inl rfl)⟩)
            have hff : (R.L.set i { f with has := true, top := c })[i]? = some { f with has := true, top := c } := by rw [List.getElem?_set_self hil]
            obtain ⟨g1, o1, c1, e, hgl2, ⟨-, -, -, -, e4⟩, -, ffz, fput⟩ := P1.out.cellsW (k := i) (f := { f with has := true, top := c }) hff
            simp only [Value.slice.injEq, Option.some.injEq, Addr.mk.injEq] at e
            obtain ⟨⟨rfl, rfl, -⟩, -, rfl⟩ := e
            obtain ⟨g2, o2, c3, e, -, -, -, -, -, -, curF, hF2⟩ := P1.out.cells (k := i) (f := { f with has := true, top := c }) hff
            simp only [Value.slice.injEq, Option.some.injEq, Addr.mk.injEq] at e
            obtain ⟨⟨rfl, rfl, -⟩, -, rfl⟩ := e
            obtain ⟨Af, cf, hlv⟩ : ∃ Af cf, f.lv = .slice Af f.l.length cf := by
              obtain ⟨-, Al, cl, hv, -, -⟩ := Rd.of_owns HOK.out.row
              exact ⟨Al, cl, hv⟩
            simp only at e4
            rw [hlv] at e4
            have HLV := Lib.hid hlv
            have k2 : w2.cell? ⟨y, 2, .none⟩ = some (.slice (some ⟨g, o, .none⟩) R.L.length cL) := by rw [cell_blk P1.out.blk]; rfl
            have HFP := Lib.hid fput
            have HF2 := Lib.hid hF2
            have HROW := Lib.hid (show w2.ownsRow 0 120 3 (.slice Af f.l.length cf) f.l.length (rcl f.l) by rw [← hlv]; exact (P1.out.fl { f with has := true, top := c } (List.mem_of_getElem? hff)).row)
            have hyl := lt_blk P1.out.blk
            have hrl := rcl_len f.l
            clear fput hF2 hlv ffz f2 f3
            have HWC := Lib.hid hw2
            clear hw2
            · have HOL := Lib.hid (World.ownsRow_lit (base := 0) (e := 49) (size := 2) w2.drew #[] 0 (by omega) (by unfold maxLen; omega) rfl)
              clear c2 d2 d3 d4 hg hgl1 b2 ES EA
              as_aux_lemma =>
              refine wp_region_noPanic ?_
              refine wp_region_held_drew (S := (fun w' => w'.cell? ⟨y, 2, .none⟩ = some (.slice (some ⟨g, o, .none⟩) R.L.length cL))) (by kernel_rfl) ?_ (fun hHeld => ?_)
              · ((try dsimp only); first | go_keep | exact k2)
              refine wpAnyH_take (i := 0) (v := ?v1) rfl (by kernel_rfl) (by kernel_rfl) (by kernel_rfl) (fun _ _ _ h => h) (Or.inl ⟨by rfl, ?hy1⟩) (by assumption) ?_
              case hy1 => (intro w hSw; (try dsimp only at hSw); (try simp only [List.getElem_toArray, List.getElem_cons_zero]); go_simp; try with_reducible rfl)
              try simp only [Act.put, List.getElem_toArray, List.getElem_cons_zero, List.setIfInBounds_toArray, List.set_cons_zero, List.set_cons_succ]
              refine wpAnyH_take (i := 1) (v := ?v2) rfl (by kernel_rfl) (by kernel_rfl) (by kernel_rfl) (fun _ _ _ h => h) (Or.inl ⟨by rfl, ?hy2⟩) (by assumption) ?_
              case hy2 => (intro w hSw; (try dsimp only at hSw); (try simp only [List.getElem_toArray, List.getElem_cons_succ, List.getElem_cons_zero]); go_simp; try with_reducible rfl)
              try simp only [Act.put, List.getElem_toArray, List.getElem_cons_succ, List.getElem_cons_zero, List.setIfInBounds_toArray, List.set_cons_zero, List.set_cons_succ]
              refine wpAnyH_take (i := 2) (v := ?v3) rfl (by kernel_rfl) (by kernel_rfl) (by kernel_rfl) (fun _ _ _ h => h) (Or.inl ⟨by rfl, ?hy3⟩) (by assumption) ?_
              case hy3 => (intro w hSw; (try dsimp only at hSw); (try simp only [List.getElem_toArray, List.getElem_cons_succ, List.getElem_cons_zero]); go_simp; try with_reducible rfl)
              try simp only [Act.put, List.getElem_toArray, List.getElem_cons_succ, List.getElem_cons_zero, List.setIfInBounds_toArray, List.set_cons_zero, List.set_cons_succ]
              refine wpAnyH_take (i := 3) (v := ?v4) rfl (by kernel_rfl) (by kernel_rfl) (by kernel_rfl) (fun _ _ _ h => h) (Or.inl ⟨by rfl, ?hy4⟩) (by assumption) ?_
              case hy4 => (intro w hSw; (try dsimp only at hSw); (try simp only [List.getElem_toArray, List.getElem_cons_succ, List.getElem_cons_zero]); go_simp; try with_reducible rfl)
              try simp only [Act.put, List.getElem_toArray, List.getElem_cons_succ, List.getElem_cons_zero, List.setIfInBounds_toArray, List.set_cons_zero, List.set_cons_succ]
              refine wpAnyH_take (i := 4) (v := ?v5) rfl (by kernel_rfl) (by kernel_rfl) (by kernel_rfl) (fun _ _ _ h => h) (Or.inl ⟨by rfl, ?hy5⟩) (by assumption) ?_
              case hy5 => (intro w hSw; (try dsimp only at hSw); (try simp only [List.getElem_toArray, List.getElem_cons_succ, List.getElem_cons_zero]); go_simp; try with_reducible rfl)
              try simp only [Act.put, List.getElem_toArray, List.getElem_cons_succ, List.getElem_cons_zero, List.setIfInBounds_toArray, List.set_cons_zero, List.set_cons_succ]
              refine wpAnyH_take (i := 5) (v := ?v6) rfl (by kernel_rfl) (by kernel_rfl) (by kernel_rfl) (fun _ _ _ h => h) (Or.inl ⟨by rfl, ?hy6⟩) (by assumption) ?_
              case hy6 => (intro w hSw; (try dsimp only at hSw); (try simp only [List.getElem_toArray, List.getElem_cons_succ, List.getElem_cons_zero]); go_simp; try with_reducible rfl)
              try simp only [Act.put, List.getElem_toArray, List.getElem_cons_succ, List.getElem_cons_zero, List.setIfInBounds_toArray, List.set_cons_zero, List.set_cons_succ]
              refine wpAnyH_take (i := 6) (v := ?v7) rfl (by kernel_rfl) (by kernel_rfl) (by kernel_rfl) (fun _ _ _ h => h) (Or.inl ⟨by rfl, ?hy7⟩) (by assumption) ?_
              case hy7 => (intro w hSw; (try dsimp only at hSw); (try simp only [List.getElem_toArray, List.getElem_cons_succ, List.getElem_cons_zero]); go_simp; try with_reducible rfl)
              try simp only [Act.put, List.getElem_toArray, List.getElem_cons_succ, List.getElem_cons_zero, List.setIfInBounds_toArray, List.set_cons_zero, List.set_cons_succ]
              refine wpAnyH_take (i := 7) (v := ?v8) rfl (by kernel_rfl) (by kernel_rfl) (by kernel_rfl) (fun _ _ _ h => h) (Or.inl ⟨by rfl, ?hy8⟩) (by assumption) ?_
              case hy8 => (intro w hSw; (try dsimp only at hSw); (try simp only [List.getElem_toArray, List.getElem_cons_succ, List.getElem_cons_zero]); go_simp; try with_reducible rfl)
              try simp only [Act.put, List.getElem_toArray, List.getElem_cons_succ, List.getElem_cons_zero, List.setIfInBounds_toArray, List.set_cons_zero, List.set_cons_succ]
              refine wpAnyH_take (i := 8) (v := ?v9) rfl (by kernel_rfl) (by kernel_rfl) (by kernel_rfl) (fun _ _ _ h => h) (Or.inl ⟨by rfl, ?hy9⟩) (by assumption) ?_
              case hy9 => (intro w hSw; (try dsimp only at hSw); (try simp only [List.getElem_toArray, List.getElem_cons_succ, List.getElem_cons_zero]); go_simp; try with_reducible rfl)
              try simp only [Act.put, List.getElem_toArray, List.getElem_cons_succ, List.getElem_cons_zero, List.setIfInBounds_toArray, List.set_cons_zero, List.set_cons_succ]
              refine wpAnyH_take (i := 9) (v := ?v10) rfl (by kernel_rfl) (by kernel_rfl) (by kernel_rfl) (fun _ _ _ h => h) (Or.inl ⟨by rfl, ?hy10⟩) (by assumption) ?_
              case hy10 => (intro w hSw; (try dsimp only at hSw); (try simp only [List.getElem_toArray, List.getElem_cons_succ, List.getElem_cons_zero]); go_simp; try with_reducible rfl)
              try simp only [Act.put, List.getElem_toArray, List.getElem_cons_succ, List.getElem_cons_zero, List.setIfInBounds_toArray, List.set_cons_zero, List.set_cons_succ]
              refine wpAnyH_take (i := 10) (v := ?v11) rfl (by kernel_rfl) (by kernel_rfl) (by kernel_rfl) (fun _ _ _ h => h) (Or.inl ⟨by rfl, ?hy11⟩) (by assumption) ?_
              case hy11 => (intro w hSw; (try dsimp only at hSw); (try simp only [List.getElem_toArray, List.getElem_cons_succ, List.getElem_cons_zero]); go_simp; try with_reducible rfl)
              try simp only [Act.put, List.getElem_toArray, List.getElem_cons_succ, List.getElem_cons_zero, List.setIfInBounds_toArray, List.set_cons_zero, List.set_cons_succ]
              refine wpAnyH_take (i := 11) (v := ?v12) rfl (by kernel_rfl) (by kernel_rfl) (by kernel_rfl) (fun _ _ _ h => h) (Or.inl ⟨by rfl, ?hy12⟩) (by assumption) ?_
              case hy12 => (intro w hSw; (try dsimp only at hSw); (try simp only [List.getElem_toArray, List.getElem_cons_succ, List.getElem_cons_zero]); go_simp; try with_reducible rfl)
              try simp only [Act.put, List.getElem_toArray, List.getElem_cons_succ, List.getElem_cons_zero, List.setIfInBounds_toArray, List.set_cons_zero, List.set_cons_succ]
              refine wpAnyH_take (i := 13) (v := ?v13) rfl (by kernel_rfl) (by kernel_rfl) (by kernel_rfl) (fun _ _ _ h => h) (Or.inl ⟨by rfl, ?hy13⟩) (by assumption) ?_
              case hy13 => (intro w hSw; (try dsimp only at hSw); (try simp only [List.getElem_toArray, List.getElem_cons_succ, List.getElem_cons_zero]); go_simp; try with_reducible rfl)
              try simp only [Act.put, List.getElem_toArray, List.getElem_cons_succ, List.getElem_cons_zero, List.setIfInBounds_toArray, List.set_cons_zero, List.set_cons_succ]
              refine wpAnyH_take (i := 14) (v := ?v14) rfl (by kernel_rfl) (by kernel_rfl) (by kernel_rfl) (fun _ _ _ h => h) (Or.inl ⟨by rfl, ?hy14⟩) (by assumption) ?_
              case hy14 => (intro w hSw; (try dsimp only at hSw); (try simp only [List.getElem_toArray, List.getElem_cons_succ, List.getElem_cons_zero]); go_simp; try with_reducible rfl)
              try simp only [Act.put, List.getElem_toArray, List.getElem_cons_succ, List.getElem_cons_zero, List.setIfInBounds_toArray, List.set_cons_zero, List.set_cons_succ]
              refine wpAnyH_take (i := 17) (v := ?v15) rfl (by kernel_rfl) (by kernel_rfl) (by kernel_rfl) (fun _ _ _ h => h) (Or.inl ⟨by rfl, ?hy15⟩) (by assumption) ?_
              case hy15 => (intro w hSw; (try dsimp only at hSw); (try simp only [List.getElem_toArray, List.getElem_cons_succ, List.getElem_cons_zero]); go_simp; try with_reducible rfl)
              try simp only [Act.put, List.getElem_toArray, List.getElem_cons_succ, List.getElem_cons_zero, List.setIfInBounds_toArray, List.set_cons_zero, List.set_cons_succ]
              refine wpAnyH_ready (rs := [12, 15, 16]) (by kernel_rfl) (by simp) ?_
              refine AllReadyH.cons (o := _) rfl (fun K hK => ?_) ?_
              · go_simp
                refine hK.out _ _ ?_ (fun hHeld => ?_)
                · ((try dsimp only); first | go_keep | exact k3 | exact k4 | exact ks _)
                clear hK K
                try simp only [Act.put, List.getElem_toArray, List.getElem_cons_succ, List.getElem_cons_zero, List.setIfInBounds_toArray, List.set_cons_zero, List.set_cons_succ]
                refine wpAnyH_ready (rs := [15, 16]) (by kernel_rfl) (by simp) ?_
                refine AllReadyH.cons (o := _) rfl (fun K hK => ?_) ?_
                · (go_simp; go_at_call 85; refine (momR_any _ _).mono ?_; rintro e w' ⟨rfl, rfl⟩)
                  refine hK.out _ _ ?_ (fun hHeld => ?_)
                  · ((try dsimp only); first | go_keep | exact k3 | exact k4 | exact ks _)
                  clear hK K
                  try simp only [Act.put, List.getElem_toArray, List.getElem_cons_succ, List.getElem_cons_zero, List.setIfInBounds_toArray, List.set_cons_zero, List.set_cons_succ]
                  refine wpAnyH_ready (rs := [16]) (by kernel_rfl) (by simp) ?_
                  refine AllReadyH.cons (o := _) rfl (fun K hK => ?_) ?_
                  · go_simp
                    refine hK.out _ _ ?_ (fun hHeld => ?_)
                    · ((try dsimp only); first | go_keep | exact k3 | exact k4 | exact ks _)
                    clear hK K
                    try simp only [Act.put, List.getElem_toArray, List.getElem_cons_succ, List.getElem_cons_zero, List.setIfInBounds_toArray, List.set_cons_zero, List.set_cons_succ]
                    refine wpAnyH_ready (rs := [18]) (by kernel_rfl) (by simp) ?_
                    refine AllReadyH.cons (o := _) rfl (fun K hK => ?_) ?_
                    · (refine step_append_room (by rfl) _ _ _ (by rfl) 49 ir 2 Try.underlying45 hir hr1 w2.heap.size 0 0 0 (by rfl) ad 0 capc [] (by rfl) (by rfl) (fun j u hj => by simp at hj) (by simp) (by omega) (fun j hj => by simp at hj) ?_; show K _ (w2.drew.alloc (.cells #[] 49)); obtain ⟨w3, hw3⟩ : ∃ w3, w3 = w2.drew.alloc (.cells #[] 49) := ⟨_, rfl⟩; rw [← hw3]; have hC3 : Chg Nowhere w2 w3 := (by rw [hw3]; exact ((Chg.refl Nowhere w2).drew).alloc _); have HC3 := Lib.hid hC3; have HO3 := Lib.hid (own_chg HROW.out hC3 (fun _ _ => not_nowhere _)); have e3 : w3.cell? ⟨g, o + i * 5 + 4, .none⟩ = some (.slice Af f.l.length cf) := (hC3.cell (p := ⟨g, o + i * 5 + 4, .none⟩) (lt_blk HF2.out) (not_nowhere _)).trans e4; have k3 : w3.cell? ⟨y, 2, .none⟩ = some (.slice (some ⟨g, o, .none⟩) R.L.length cL) := (hC3.cell (p := ⟨y, 2, .none⟩) hyl (not_nowhere _)).trans k2; have hg3 : g < w3.heap.size := Nat.lt_of_lt_of_le hgl2 hC3.size; have hy3 : y < w3.heap.size := Nat.lt_of_lt_of_le hyl hC3.size; have HGV := Lib.hid (show w.heap.size ≤ w2.heap.size from P2.out.size); have HCV := Lib.hid (show w3.ownsRow 0 49 2 (.slice (some ⟨w2.heap.size, 0, .none⟩) 0 0) 0 [] by rw [hw3]; exact HOL.out); clear hw3 hC3)
                      refine hK.out _ _ ?_ (fun hHeld => ?_)
                      · ((try dsimp only); first | go_keep | exact k3 | exact k4 | exact ks _)
                      clear hK K
                      try simp only [Act.put, List.getElem_toArray, List.getElem_cons_succ, List.getElem_cons_zero, List.setIfInBounds_toArray, List.set_cons_zero, List.set_cons_succ]
                      refine wpAnyH_take (i := 19) (v := ?v16) rfl (by kernel_rfl) (by kernel_rfl) (by kernel_rfl) (fun _ _ _ h => h) (Or.inl ⟨by rfl, ?hy16⟩) (by assumption) ?_
                      case hy16 => (intro w hSw; (try dsimp only at hSw); (try simp only [List.getElem_toArray, List.getElem_cons_succ, List.getElem_cons_zero]); go_simp; try with_reducible rfl)
                      try simp only [Act.put, List.getElem_toArray, List.getElem_cons_succ, List.getElem_cons_zero, List.setIfInBounds_toArray, List.set_cons_zero, List.set_cons_succ]
                      refine wpAnyH_ready (rs := [20]) (by kernel_rfl) (by simp) ?_
                      refine AllReadyH.cons (o := _) rfl (fun K hK => ?_) ?_
                      · go_simp
                        refine hK.out _ _ ?_ (fun hHeld => ?_)
                        · ((try dsimp only); first | go_keep | exact k3 | exact k4 | exact ks _)
                        clear hK K
                        try simp only [Act.put, List.getElem_toArray, List.getElem_cons_succ, List.getElem_cons_zero, List.setIfInBounds_toArray, List.set_cons_zero, List.set_cons_succ]
                        refine wpAnyH_ready (rs := [21]) (by kernel_rfl) (by simp) ?_
                        refine AllReadyH.cons (o := _) rfl (fun K hK => ?_) ?_
                        · (refine step_append_lies _ (by rfl) _ _ _ (by rfl) 0 120 i0 _ 3 40 Try.underlying115 hi hz0 hz1 hz2 rfl (by omega) (.slice Af f.l.length cf) f.l.length (rcl f.l) (by rfl) (HO3.out.alloc _) ⟨w3.heap.size, 0, .none⟩ 1 1 [.int .i64 c, .int .i64 (mom21 now), .slice (some ⟨w2.heap.size, 0, .none⟩) 0 0] (by rfl) (by rfl) (World.news_of_block (cs := #[.int .i64 c, .int .i64 (mom21 now), .slice (some ⟨w2.heap.size, 0, .none⟩) 0 0]) (t := 120) (fr := (0, 0)) (heap_alloc_new w3 _)) (by simp [Value.oneCell']) (by omega) (by unfold maxLen; omega) (by omega) (by omega) (w3.heap.size + 1) (by simp) ?_; intro gg cap4 w4 hown4 hgrow4 hat4 hlt4; have hC34 := ((Chg.refl (fun q => (Value.slice Af f.l.length cf).ownBlock = some q) w3).alloc (.cells #[.int .i64 c, .int .i64 (mom21 now), .slice (some ⟨w2.heap.size, 0, .none⟩) 0 0] 120)).grown hgrow4 (fun k hk => .inr hk); have f4 : w4.frozen? ⟨g, o + i * 5 + 4, .none⟩ = false := frozen_blk (hC34.keep (HC3.out.same HF2.out) (fun e => by obtain ⟨cur, hh⟩ := own_blk HO3.out e; exact types_nott hh (HC3.out.same HF2.out) (by decide) rfl)); have e4' : w4.cell? ⟨g, o + i * 5 + 4, .none⟩ = some (.slice Af f.l.length cf) := (by rw [cell_blk (hC34.keep (HC3.out.same HF2.out) (fun e => by obtain ⟨cur, hh⟩ := own_blk HO3.out e; exact types_nott hh (HC3.out.same HF2.out) (by decide) rfl)), ← cell_blk (HC3.out.same HF2.out)]; exact e3); have k4 : w4.cell? ⟨y, 2, .none⟩ = some (.slice (some ⟨g, o, .none⟩) R.L.length cL) := (by rw [cell_blk (hC34.keep (HC3.out.same P1.out.blk) (fun e => by obtain ⟨cur, hh⟩ := own_blk HO3.out e; exact types_nott hh (HC3.out.same P1.out.blk) (by decide) rfl))]; rfl); have ks : ∀ v, (w4.setCell ⟨g, o + i * 5 + 4, .none⟩ v).cell? ⟨y, 2, .none⟩ = some (.slice (some ⟨g, o, .none⟩) R.L.length cL) := (fun v => (World.cell?_of_block (set_other _ (types_nott P1.out.blk HF2.out (by decide)))).trans k4); have HO4 := Lib.hid hown4; have HC34 := Lib.hid hC34; have HAT := Lib.hid hat4; clear hown4 hgrow4 hat4 hC34)
                          refine hK.out _ _ ?_ (fun hHeld => ?_)
                          · ((try dsimp only); first | go_keep | exact k3 | exact k4 | exact ks _)
                          clear hK K
                          try simp only [Act.put, List.getElem_toArray, List.getElem_cons_succ, List.getElem_cons_zero, List.setIfInBounds_toArray, List.set_cons_zero, List.set_cons_succ]
                          refine wpAnyH_take (i := 22) (v := ?v17) rfl (by kernel_rfl) (by kernel_rfl) (by kernel_rfl) (fun _ _ _ h => h) (Or.inl ⟨by rfl, ?hy17⟩) (by assumption) ?_
                          case hy17 => (intro w hSw; (try dsimp only at hSw); (try simp only [List.getElem_toArray, List.getElem_cons_succ, List.getElem_cons_zero]); go_simp; try with_reducible rfl)
                          try simp only [Act.put, List.getElem_toArray, List.getElem_cons_succ, List.getElem_cons_zero, List.setIfInBounds_toArray, List.set_cons_zero, List.set_cons_succ]
                          refine wpAnyH_take (i := 23) (v := ?v18) rfl (by kernel_rfl) (by kernel_rfl) (by kernel_rfl) (fun _ _ _ h => h) (Or.inl ⟨by rfl, ?hy18⟩) (by assumption) ?_
                          case hy18 => (intro w hSw; (try dsimp only at hSw); (try simp only [List.getElem_toArray, List.getElem_cons_succ, List.getElem_cons_zero]); go_simp; try with_reducible rfl)
                          try simp only [Act.put, List.getElem_toArray, List.getElem_cons_succ, List.getElem_cons_zero, List.setIfInBounds_toArray, List.set_cons_zero, List.set_cons_succ]
                          refine wpAnyH_ready (rs := [24]) (by kernel_rfl) (by simp) ?_
                          refine AllReadyH.cons (o := _) rfl (fun K hK => ?_) ?_
                          · go_simp
                            refine hK.out _ _ ?_ (fun hHeld => ?_)
                            · ((try dsimp only); first | go_keep | exact k3 | exact k4 | exact ks _)
                            clear hK K
                            try simp only [Act.put, List.getElem_toArray, List.getElem_cons_succ, List.getElem_cons_zero, List.setIfInBounds_toArray, List.set_cons_zero, List.set_cons_succ]
                            refine wpAnyH_done (by kernel_rfl) ?_ _
                            refine NoPanic.normal ?_
                            go_end0
                            have hcv3 := HCV.out
                            exact sent_fin w y R id i f c now [] w2 w3 w4 g o cL gg cap4 Af cf (.slice (some ⟨w2.heap.size, 0, .none⟩) 0 0) curF P1.out HLV.out hil (by omega) (by omega) hfl (by simp) HOK.out HC3.out hcv3 HO4.out HC34.out HAT.out HF2.out (H.out.apartOf HFI.out) (ChgR.of P2.out HMg.out) E.out (fun i hi => (show w2.heap.size = i by simpa [Value.ownBlock] using hi) ▸ HGV.out)
                          exact AllReadyH.nil
                        exact AllReadyH.nil
                      exact AllReadyH.nil
                    exact AllReadyH.nil
                  exact AllReadyH.nil
                refine AllReadyH.cons (o := _) rfl (fun K hK => ?_) ?_
                · go_simp
                  refine hK.out _ _ ?_ (fun hHeld => ?_)
                  · ((try dsimp only); first | go_keep | exact k3 | exact k4 | exact ks _)
                  clear hK K
                  try simp only [Act.put, List.getElem_toArray, List.getElem_cons_succ, List.getElem_cons_zero, List.setIfInBounds_toArray, List.set_cons_zero, List.set_cons_succ]
                  refine wpAnyH_ready (rs := [15]) (by kernel_rfl) (by simp) ?_
                  refine AllReadyH.cons (o := _) rfl (fun K hK => ?_) ?_
                  · (go_simp; go_at_call 85; refine (momR_any _ _).mono ?_; rintro e w' ⟨rfl, rfl⟩)
                    refine hK.out _ _ ?_ (fun hHeld => ?_)
                    · ((try dsimp only); first | go_keep | exact k3 | exact k4 | exact ks _)
                    clear hK K
                    try simp only [Act.put, List.getElem_toArray, List.getElem_cons_succ, List.getElem_cons_zero, List.setIfInBounds_toArray, List.set_cons_zero, List.set_cons_succ]
                    refine wpAnyH_ready (rs := [18]) (by kernel_rfl) (by simp) ?_
                    refine AllReadyH.cons (o := _) rfl (fun K hK => ?_) ?_
                    · (refine step_append_room (by rfl) _ _ _ (by rfl) 49 ir 2 Try.underlying45 hir hr1 w2.heap.size 0 0 0 (by rfl) ad 0 capc [] (by rfl) (by rfl) (fun j u hj => by simp at hj) (by simp) (by omega) (fun j hj => by simp at hj) ?_; show K _ (w2.drew.alloc (.cells #[] 49)); obtain ⟨w3, hw3⟩ : ∃ w3, w3 = w2.drew.alloc (.cells #[] 49) := ⟨_, rfl⟩; rw [← hw3]; have hC3 : Chg Nowhere w2 w3 := (by rw [hw3]; exact ((Chg.refl Nowhere w2).drew).alloc _); have HC3 := Lib.hid hC3; have HO3 := Lib.hid (own_chg HROW.out hC3 (fun _ _ => not_nowhere _)); have e3 : w3.cell? ⟨g, o + i * 5 + 4, .none⟩ = some (.slice Af f.l.length cf) := (hC3.cell (p := ⟨g, o + i * 5 + 4, .none⟩) (lt_blk HF2.out) (not_nowhere _)).trans e4; have k3 : w3.cell? ⟨y, 2, .none⟩ = some (.slice (some ⟨g, o, .none⟩) R.L.length cL) := (hC3.cell (p := ⟨y, 2, .none⟩) hyl (not_nowhere _)).trans k2; have hg3 : g < w3.heap.size := Nat.lt_of_lt_of_le hgl2 hC3.size; have hy3 : y < w3.heap.size := Nat.lt_of_lt_of_le hyl hC3.size; have HGV := Lib.hid (show w.heap.size ≤ w2.heap.size from P2.out.size); have HCV := Lib.hid (show w3.ownsRow 0 49 2 (.slice (some ⟨w2.heap.size, 0, .none⟩) 0 0) 0 [] by rw [hw3]; exact HOL.out); clear hw3 hC3)
                      refine hK.out _ _ ?_ (fun hHeld => ?_)
                      · ((try dsimp only); first | go_keep | exact k3 | exact k4 | exact ks _)
                      clear hK K
                      try simp only [Act.put, List.getElem_toArray, List.getElem_cons_succ, List.getElem_cons_zero, List.setIfInBounds_toArray, List.set_cons_zero, List.set_cons_succ]
                      refine wpAnyH_take (i := 19) (v := ?v19) rfl (by kernel_rfl) (by kernel_rfl) (by kernel_rfl) (fun _ _ _ h => h) (Or.inl ⟨by rfl, ?hy19⟩) (by assumption) ?_
                      case hy19 => (intro w hSw; (try dsimp only at hSw); (try simp only [List.getElem_toArray, List.getElem_cons_succ, List.getElem_cons_zero]); go_simp; try with_reducible rfl)
                      try simp only [Act.put, List.getElem_toArray, List.getElem_cons_succ, List.getElem_cons_zero, List.setIfInBounds_toArray, List.set_cons_zero, List.set_cons_succ]
                      refine wpAnyH_ready (rs := [20]) (by kernel_rfl) (by simp) ?_
                      refine AllReadyH.cons (o := _) rfl (fun K hK => ?_) ?_
                      · go_simp
                        refine hK.out _ _ ?_ (fun hHeld => ?_)
                        · ((try dsimp only); first | go_keep | exact k3 | exact k4 | exact ks _)
                        clear hK K
                        try simp only [Act.put, List.getElem_toArray, List.getElem_cons_succ, List.getElem_cons_zero, List.setIfInBounds_toArray, List.set_cons_zero, List.set_cons_succ]
                        refine wpAnyH_ready (rs := [21]) (by kernel_rfl) (by simp) ?_
                        refine AllReadyH.cons (o := _) rfl (fun K hK => ?_) ?_
                        · (refine step_append_lies _ (by rfl) _ _ _ (by rfl) 0 120 i0 _ 3 40 Try.underlying115 hi hz0 hz1 hz2 rfl (by omega) (.slice Af f.l.length cf) f.l.length (rcl f.l) (by rfl) (HO3.out.alloc _) ⟨w3.heap.size, 0, .none⟩ 1 1 [.int .i64 c, .int .i64 (mom21 now), .slice (some ⟨w2.heap.size, 0, .none⟩) 0 0] (by rfl) (by rfl) (World.news_of_block (cs := #[.int .i64 c, .int .i64 (mom21 now), .slice (some ⟨w2.heap.size, 0, .none⟩) 0 0]) (t := 120) (fr := (0, 0)) (heap_alloc_new w3 _)) (by simp [Value.oneCell']) (by omega) (by unfold maxLen; omega) (by omega) (by omega) (w3.heap.size + 1) (by simp) ?_; intro gg cap4 w4 hown4 hgrow4 hat4 hlt4; have hC34 := ((Chg.refl (fun q => (Value.slice Af f.l.length cf).ownBlock = some q) w3).alloc (.cells #[.int .i64 c, .int .i64 (mom21 now), .slice (some ⟨w2.heap.size, 0, .none⟩) 0 0] 120)).grown hgrow4 (fun k hk => .inr hk); have f4 : w4.frozen? ⟨g, o + i * 5 + 4, .none⟩ = false := frozen_blk (hC34.keep (HC3.out.same HF2.out) (fun e => by obtain ⟨cur, hh⟩ := own_blk HO3.out e; exact types_nott hh (HC3.out.same HF2.out) (by decide) rfl)); have e4' : w4.cell? ⟨g, o + i * 5 + 4, .none⟩ = some (.slice Af f.l.length cf) := (by rw [cell_blk (hC34.keep (HC3.out.same HF2.out) (fun e => by obtain ⟨cur, hh⟩ := own_blk HO3.out e; exact types_nott hh (HC3.out.same HF2.out) (by decide) rfl)), ← cell_blk (HC3.out.same HF2.out)]; exact e3); have k4 : w4.cell? ⟨y, 2, .none⟩ = some (.slice (some ⟨g, o, .none⟩) R.L.length cL) := (by rw [cell_blk (hC34.keep (HC3.out.same P1.out.blk) (fun e => by obtain ⟨cur, hh⟩ := own_blk HO3.out e; exact types_nott hh (HC3.out.same P1.out.blk) (by decide) rfl))]; rfl); have ks : ∀ v, (w4.setCell ⟨g, o + i * 5 + 4, .none⟩ v).cell? ⟨y, 2, .none⟩ = some (.slice (some ⟨g, o, .none⟩) R.L.length cL) := (fun v => (World.cell?_of_block (set_other _ (types_nott P1.out.blk HF2.out (by decide)))).trans k4); have HO4 := Lib.hid hown4; have HC34 := Lib.hid hC34; have HAT := Lib.hid hat4; clear hown4 hgrow4 hat4 hC34)
                          refine hK.out _ _ ?_ (fun hHeld => ?_)
                          · ((try dsimp only); first | go_keep | exact k3 | exact k4 | exact ks _)
                          clear hK K
                          try simp only [Act.put, List.getElem_toArray, List.getElem_cons_succ, List.getElem_cons_zero, List.setIfInBounds_toArray, List.set_cons_zero, List.set_cons_succ]
                          refine wpAnyH_take (i := 22) (v := ?v20) rfl (by kernel_rfl) (by kernel_rfl) (by kernel_rfl) (fun _ _ _ h => h) (Or.inl ⟨by rfl, ?hy20⟩) (by assumption) ?_
                          case hy20 => (intro w hSw; (try dsimp only at hSw); (try simp only [List.getElem_toArray, List.getElem_cons_succ, List.getElem_cons_zero]); go_simp; try with_reducible rfl)
                          try simp only [Act.put, List.getElem_toArray, List.getElem_cons_succ, List.getElem_cons_zero, List.setIfInBounds_toArray, List.set_cons_zero, List.set_cons_succ]
                          refine wpAnyH_take (i := 23) (v := ?v21) rfl (by kernel_rfl) (by kernel_rfl) (by kernel_rfl) (fun _ _ _ h => h) (Or.inl ⟨by rfl, ?hy21⟩) (by assumption) ?_
                          case hy21 => (intro w hSw; (try dsimp only at hSw); (try simp only [List.getElem_toArray, List.getElem_cons_succ, List.getElem_cons_zero]); go_simp; try with_reducible rfl)
                          try simp only [Act.put, List.getElem_toArray, List.getElem_cons_succ, List.getElem_cons_zero, List.setIfInBounds_toArray, List.set_cons_zero, List.set_cons_succ]
                          refine wpAnyH_ready (rs := [24]) (by kernel_rfl) (by simp) ?_
                          refine AllReadyH.cons (o := _) rfl (fun K hK => ?_) ?_
                          · go_simp
                            refine hK.out _ _ ?_ (fun hHeld => ?_)
                            · ((try dsimp only); first | go_keep | exact k3 | exact k4 | exact ks _)
                            clear hK K
                            try simp only [Act.put, List.getElem_toArray, List.getElem_cons_succ, List.getElem_cons_zero, List.setIfInBounds_toArray, List.set_cons_zero, List.set_cons_succ]
                            refine wpAnyH_done (by kernel_rfl) ?_ _
                            refine NoPanic.normal ?_
                            go_end0
                            have hcv3 := HCV.out
                            exact sent_fin w y R id i f c now [] w2 w3 w4 g o cL gg cap4 Af cf (.slice (some ⟨w2.heap.size, 0, .none⟩) 0 0) curF P1.out HLV.out hil (by omega) (by omega) hfl (by simp) HOK.out HC3.out hcv3 HO4.out HC34.out HAT.out HF2.out (H.out.apartOf HFI.out) (ChgR.of P2.out HMg.out) E.out (fun i hi => (show w2.heap.size = i by simpa [Value.ownBlock] using hi) ▸ HGV.out)
                          exact AllReadyH.nil
                        exact AllReadyH.nil
                      exact AllReadyH.nil
                    exact AllReadyH.nil
                  exact AllReadyH.nil
                exact AllReadyH.nil
              refine AllReadyH.cons (o := _) rfl (fun K hK => ?_) ?_
              · (go_simp; go_at_call 85; refine (momR_any _ _).mono ?_; rintro e w' ⟨rfl, rfl⟩)
                refine hK.out _ _ ?_ (fun hHeld => ?_)
                · ((try dsimp only); first | go_keep | exact k3 | exact k4 | exact ks _)
                clear hK K
                try simp only [Act.put, List.getElem_toArray, List.getElem_cons_succ, List.getElem_cons_zero, List.setIfInBounds_toArray, List.set_cons_zero, List.set_cons_succ]
                refine wpAnyH_ready (rs := [12, 16]) (by kernel_rfl) (by simp) ?_
                refine AllReadyH.cons (o := _) rfl (fun K hK => ?_) ?_
                · go_simp
                  refine hK.out _ _ ?_ (fun hHeld => ?_)
                  · ((try dsimp only); first | go_keep | exact k3 | exact k4 | exact ks _)
                  clear hK K
                  try simp only [Act.put, List.getElem_toArray, List.getElem_cons_succ, List.getElem_cons_zero, List.setIfInBounds_toArray, List.set_cons_zero, List.set_cons_succ]
                  refine wpAnyH_ready (rs := [16]) (by kernel_rfl) (by simp) ?_
                  refine AllReadyH.cons (o := _) rfl (fun K hK => ?_) ?_
                  · go_simp
                    refine hK.out _ _ ?_ (fun hHeld => ?_)
                    · ((try dsimp only); first | go_keep | exact k3 | exact k4 | exact ks _)
                    clear hK K
                    try simp only [Act.put, List.getElem_toArray, List.getElem_cons_succ, List.getElem_cons_zero, List.setIfInBounds_toArray, List.set_cons_zero, List.set_cons_succ]
                    refine wpAnyH_ready (rs := [18]) (by kernel_rfl) (by simp) ?_
                    refine AllReadyH.cons (o := _) rfl (fun K hK => ?_) ?_
                    · (refine step_append_room (by rfl) _ _ _ (by rfl) 49 ir 2 Try.underlying45 hir hr1 w2.heap.size 0 0 0 (by rfl) ad 0 capc [] (by rfl) (by rfl) (fun j u hj => by simp at hj) (by simp) (by omega) (fun j hj => by simp at hj) ?_; show K _ (w2.drew.alloc (.cells #[] 49)); obtain ⟨w3, hw3⟩ : ∃ w3, w3 = w2.drew.alloc (.cells #[] 49) := ⟨_, rfl⟩; rw [← hw3]; have hC3 : Chg Nowhere w2 w3 := (by rw [hw3]; exact ((Chg.refl Nowhere w2).drew).alloc _); have HC3 := Lib.hid hC3; have HO3 := Lib.hid (own_chg HROW.out hC3 (fun _ _ => not_nowhere _)); have e3 : w3.cell? ⟨g, o + i * 5 + 4, .none⟩ = some (.slice Af f.l.length cf) := (hC3.cell (p := ⟨g, o + i * 5 + 4, .none⟩) (lt_blk HF2.out) (not_nowhere _)).trans e4; have k3 : w3.cell? ⟨y, 2, .none⟩ = some (.slice (some ⟨g, o, .none⟩) R.L.length cL) := (hC3.cell (p := ⟨y, 2, .none⟩) hyl (not_nowhere _)).trans k2; have hg3 : g < w3.heap.size := Nat.lt_of_lt_of_le hgl2 hC3.size; have hy3 : y < w3.heap.size := Nat.lt_of_lt_of_le hyl hC3.size; have HGV := Lib.hid (show w.heap.size ≤ w2.heap.size from P2.out.size); have HCV := Lib.hid (show w3.ownsRow 0 49 2 (.slice (some ⟨w2.heap.size, 0, .none⟩) 0 0) 0 [] by rw [hw3]; exact HOL.out); clear hw3 hC3)
                      refine hK.out _ _ ?_ (fun hHeld => ?_)
                      · ((try dsimp only); first | go_keep | exact k3 | exact k4 | exact ks _)
                      clear hK K
                      try simp only [Act.put, List.getElem_toArray, List.getElem_cons_succ, List.getElem_cons_zero, List.setIfInBounds_toArray, List.set_cons_zero, List.set_cons_succ]
                      refine wpAnyH_take (i := 19) (v := ?v22) rfl (by kernel_rfl) (by kernel_rfl) (by kernel_rfl) (fun _ _ _ h => h) (Or.inl ⟨by rfl, ?hy22⟩) (by assumption) ?_
                      case hy22 => (intro w hSw; (try dsimp only at hSw); (try simp only [List.getElem_toArray, List.getElem_cons_succ, List.getElem_cons_zero]); go_simp; try with_reducible rfl)
                      try simp only [Act.put, List.getElem_toArray, List.getElem_cons_succ, List.getElem_cons_zero, List.setIfInBounds_toArray, List.set_cons_zero, List.set_cons_succ]
                      refine wpAnyH_ready (rs := [20]) (by kernel_rfl) (by simp) ?_
                      refine AllReadyH.cons (o := _) rfl (fun K hK => ?_) ?_
                      · go_simp
                        refine hK.out _ _ ?_ (fun hHeld => ?_)
                        · ((try dsimp only); first | go_keep | exact k3 | exact k4 | exact ks _)
                        clear hK K
                        try simp only [Act.put, List.getElem_toArray, List.getElem_cons_succ, List.getElem_cons_zero, List.setIfInBounds_toArray, List.set_cons_zero, List.set_cons_succ]
                        refine wpAnyH_ready (rs := [21]) (by kernel_rfl) (by simp) ?_
                        refine AllReadyH.cons (o := _) rfl (fun K hK => ?_) ?_
                        · (refine step_append_lies _ (by rfl) _ _ _ (by rfl) 0 120 i0 _ 3 40 Try.underlying115 hi hz0 hz1 hz2 rfl (by omega) (.slice Af f.l.length cf) f.l.length (rcl f.l) (by rfl) (HO3.out.alloc _) ⟨w3.heap.size, 0, .none⟩ 1 1 [.int .i64 c, .int .i64 (mom21 now), .slice (some ⟨w2.heap.size, 0, .none⟩) 0 0] (by rfl) (by rfl) (World.news_of_block (cs := #[.int .i64 c, .int .i64 (mom21 now), .slice (some ⟨w2.heap.size, 0, .none⟩) 0 0]) (t := 120) (fr := (0, 0)) (heap_alloc_new w3 _)) (by simp [Value.oneCell']) (by omega) (by unfold maxLen; omega) (by omega) (by omega) (w3.heap.size + 1) (by simp) ?_; intro gg cap4 w4 hown4 hgrow4 hat4 hlt4; have hC34 := ((Chg.refl (fun q => (Value.slice Af f.l.length cf).ownBlock = some q) w3).alloc (.cells #[.int .i64 c, .int .i64 (mom21 now), .slice (some ⟨w2.heap.size, 0, .none⟩) 0 0] 120)).grown hgrow4 (fun k hk => .inr hk); have f4 : w4.frozen? ⟨g, o + i * 5 + 4, .none⟩ = false := frozen_blk (hC34.keep (HC3.out.same HF2.out) (fun e => by obtain ⟨cur, hh⟩ := own_blk HO3.out e; exact types_nott hh (HC3.out.same HF2.out) (by decide) rfl)); have e4' : w4.cell? ⟨g, o + i * 5 + 4, .none⟩ = some (.slice Af f.l.length cf) := (by rw [cell_blk (hC34.keep (HC3.out.same HF2.out) (fun e => by obtain ⟨cur, hh⟩ := own_blk HO3.out e; exact types_nott hh (HC3.out.same HF2.out) (by decide) rfl)), ← cell_blk (HC3.out.same HF2.out)]; exact e3); have k4 : w4.cell? ⟨y, 2, .none⟩ = some (.slice (some ⟨g, o, .none⟩) R.L.length cL) := (by rw [cell_blk (hC34.keep (HC3.out.same P1.out.blk) (fun e => by obtain ⟨cur, hh⟩ := own_blk HO3.out e; exact types_nott hh (HC3.out.same P1.out.blk) (by decide) rfl))]; rfl); have ks : ∀ v, (w4.setCell ⟨g, o + i * 5 + 4, .none⟩ v).cell? ⟨y, 2, .none⟩ = some (.slice (some ⟨g, o, .none⟩) R.L.length cL) := (fun v => (World.cell?_of_block (set_other _ (types_nott P1.out.blk HF2.out (by decide)))).trans k4); have HO4 := Lib.hid hown4; have HC34 := Lib.hid hC34; have HAT := Lib.hid hat4; clear hown4 hgrow4 hat4 hC34)
                          refine hK.out _ _ ?_ (fun hHeld => ?_)
                          · ((try dsimp only); first | go_keep | exact k3 | exact k4 | exact ks _)
                          clear hK K
                          try simp only [Act.put, List.getElem_toArray, List.getElem_cons_succ, List.getElem_cons_zero, List.setIfInBounds_toArray, List.set_cons_zero, List.set_cons_succ]
                          refine wpAnyH_take (i := 22) (v := ?v23) rfl (by kernel_rfl) (by kernel_rfl) (by kernel_rfl) (fun _ _ _ h => h) (Or.inl ⟨by rfl, ?hy23⟩) (by assumption) ?_
                          case hy23 => (intro w hSw; (try dsimp only at hSw); (try simp only [List.getElem_toArray, List.getElem_cons_succ, List.getElem_cons_zero]); go_simp; try with_reducible rfl)
                          try simp only [Act.put, List.getElem_toArray, List.getElem_cons_succ, List.getElem_cons_zero, List.setIfInBounds_toArray, List.set_cons_zero, List.set_cons_succ]
                          refine wpAnyH_take (i := 23) (v := ?v24) rfl (by kernel_rfl) (by kernel_rfl) (by kernel_rfl) (fun _ _ _ h => h) (Or.inl ⟨by rfl, ?hy24⟩) (by assumption) ?_
                          case hy24 => (intro w hSw; (try dsimp only at hSw); (try simp only [List.getElem_toArray, List.getElem_cons_succ, List.getElem_cons_zero]); go_simp; try with_reducible rfl)
                          try simp only [Act.put, List.getElem_toArray, List.getElem_cons_succ, List.getElem_cons_zero, List.setIfInBounds_toArray, List.set_cons_zero, List.set_cons_succ]
                          refine wpAnyH_ready (rs := [24]) (by kernel_rfl) (by simp) ?_
                          refine AllReadyH.cons (o := _) rfl (fun K hK => ?_) ?_
                          · go_simp
                            refine hK.out _ _ ?_ (fun hHeld => ?_)
                            · ((try dsimp only); first | go_keep | exact k3 | exact k4 | exact ks _)
                            clear hK K
                            try simp only [Act.put, List.getElem_toArray, List.getElem_cons_succ, List.getElem_cons_zero, List.setIfInBounds_toArray, List.set_cons_zero, List.set_cons_succ]
                            refine wpAnyH_done (by kernel_rfl) ?_ _
                            refine NoPanic.normal ?_
                            go_end0
                            have hcv3 := HCV.out
                            exact sent_fin w y R id i f c now [] w2 w3 w4 g o cL gg cap4 Af cf (.slice (some ⟨w2.heap.size, 0, .none⟩) 0 0) curF P1.out HLV.out hil (by omega) (by omega) hfl (by simp) HOK.out HC3.out hcv3 HO4.out HC34.out HAT.out HF2.out (H.out.apartOf HFI.out) (ChgR.of P2.out HMg.out) E.out (fun i hi => (show w2.heap.size = i by simpa [Value.ownBlock] using hi) ▸ HGV.out)
                          exact AllReadyH.nil
                        exact AllReadyH.nil
                      exact AllReadyH.nil
                    exact AllReadyH.nil
                  exact AllReadyH.nil
                refine AllReadyH.cons (o := _) rfl (fun K hK => ?_) ?_
                · go_simp
                  refine hK.out _ _ ?_ (fun hHeld => ?_)
                  · ((try dsimp only); first | go_keep | exact k3 | exact k4 | exact ks _)
                  clear hK K
                  try simp only [Act.put, List.getElem_toArray, List.getElem_cons_succ, List.getElem_cons_zero, List.setIfInBounds_toArray, List.set_cons_zero, List.set_cons_succ]
                  refine wpAnyH_ready (rs := [12, 18]) (by kernel_rfl) (by simp) ?_
                  refine AllReadyH.cons (o := _) rfl (fun K hK => ?_) ?_
                  · go_simp
                    refine hK.out _ _ ?_ (fun hHeld => ?_)
                    · ((try dsimp only); first | go_keep | exact k3 | exact k4 | exact ks _)
                    clear hK K
                    try simp only [Act.put, List.getElem_toArray, List.getElem_cons_succ, List.getElem_cons_zero, List.setIfInBounds_toArray, List.set_cons_zero, List.set_cons_succ]
                    refine wpAnyH_ready (rs := [18]) (by kernel_rfl) (by simp) ?_
                    refine AllReadyH.cons (o := _) rfl (fun K hK => ?_) ?_
                    · (refine step_append_room (by rfl) _ _ _ (by rfl) 49 ir 2 Try.underlying45 hir hr1 w2.heap.size 0 0 0 (by rfl) ad 0 capc [] (by rfl) (by rfl) (fun j u hj => by simp at hj) (by simp) (by omega) (fun j hj => by simp at hj) ?_; show K _ (w2.drew.alloc (.cells #[] 49)); obtain ⟨w3, hw3⟩ : ∃ w3, w3 = w2.drew.alloc (.cells #[] 49) := ⟨_, rfl⟩; rw [← hw3]; have hC3 : Chg Nowhere w2 w3 := (by rw [hw3]; exact ((Chg.refl Nowhere w2).drew).alloc _); have HC3 := Lib.hid hC3; have HO3 := Lib.hid (own_chg HROW.out hC3 (fun _ _ => not_nowhere _)); have e3 : w3.cell? ⟨g, o + i * 5 + 4, .none⟩ = some (.slice Af f.l.length cf) := (hC3.cell (p := ⟨g, o + i * 5 + 4, .none⟩) (lt_blk HF2.out) (not_nowhere _)).trans e4; have k3 : w3.cell? ⟨y, 2, .none⟩ = some (.slice (some ⟨g, o, .none⟩) R.L.length cL) := (hC3.cell (p := ⟨y, 2, .none⟩) hyl (not_nowhere _)).trans k2; have hg3 : g < w3.heap.size := Nat.lt_of_lt_of_le hgl2 hC3.size; have hy3 : y < w3.heap.size := Nat.lt_of_lt_of_le hyl hC3.size; have HGV := Lib.hid (show w.heap.size ≤ w2.heap.size from P2.out.size); have HCV := Lib.hid (show w3.ownsRow 0 49 2 (.slice (some ⟨w2.heap.size, 0, .none⟩) 0 0) 0 [] by rw [hw3]; exact HOL.out); clear hw3 hC3)
                      refine hK.out _ _ ?_ (fun hHeld => ?_)
                      · ((try dsimp only); first | go_keep | exact k3 | exact k4 | exact ks _)
                      clear hK K
                      try simp only [Act.put, List.getElem_toArray, List.getElem_cons_succ, List.getElem_cons_zero, List.setIfInBounds_toArray, List.set_cons_zero, List.set_cons_succ]
                      refine wpAnyH_take (i := 19) (v := ?v25) rfl (by kernel_rfl) (by kernel_rfl) (by kernel_rfl) (fun _ _ _ h => h) (Or.inl ⟨by rfl, ?hy25⟩) (by assumption) ?_
                      case hy25 => (intro w hSw; (try dsimp only at hSw); (try simp only [List.getElem_toArray, List.getElem_cons_succ, List.getElem_cons_zero]); go_simp; try with_reducible rfl)
                      try simp only [Act.put, List.getElem_toArray, List.getElem_cons_succ, List.getElem_cons_zero, List.setIfInBounds_toArray, List.set_cons_zero, List.set_cons_succ]
                      refine wpAnyH_ready (rs := [20]) (by kernel_rfl) (by simp) ?_
                      refine AllReadyH.cons (o := _) rfl (fun K hK => ?_) ?_
                      · go_simp
                        refine hK.out _ _ ?_ (fun hHeld => ?_)
                        · ((try dsimp only); first | go_keep | exact k3 | exact k4 | exact ks _)
                        clear hK K
                        try simp only [Act.put, List.getElem_toArray, List.getElem_cons_succ, List.getElem_cons_zero, List.setIfInBounds_toArray, List.set_cons_zero, List.set_cons_succ]
                        refine wpAnyH_ready (rs := [21]) (by kernel_rfl) (by simp) ?_
                        refine AllReadyH.cons (o := _) rfl (fun K hK => ?_) ?_
                        · (refine step_append_lies _ (by rfl) _ _ _ (by rfl) 0 120 i0 _ 3 40 Try.underlying115 hi hz0 hz1 hz2 rfl (by omega) (.slice Af f.l.length cf) f.l.length (rcl f.l) (by rfl) (HO3.out.alloc _) ⟨w3.heap.size, 0, .none⟩ 1 1 [.int .i64 c, .int .i64 (mom21 now), .slice (some ⟨w2.heap.size, 0, .none⟩) 0 0] (by rfl) (by rfl) (World.news_of_block (cs := #[.int .i64 c, .int .i64 (mom21 now), .slice (some ⟨w2.heap.size, 0, .none⟩) 0 0]) (t := 120) (fr := (0, 0)) (heap_alloc_new w3 _)) (by simp [Value.oneCell']) (by omega) (by unfold maxLen; omega) (by omega) (by omega) (w3.heap.size + 1) (by simp) ?_; intro gg cap4 w4 hown4 hgrow4 hat4 hlt4; have hC34 := ((Chg.refl (fun q => (Value.slice Af f.l.length cf).ownBlock = some q) w3).alloc (.cells #[.int .i64 c, .int .i64 (mom21 now), .slice (some ⟨w2.heap.size, 0, .none⟩) 0 0] 120)).grown hgrow4 (fun k hk => .inr hk); have f4 : w4.frozen? ⟨g, o + i * 5 + 4, .none⟩ = false := frozen_blk (hC34.keep (HC3.out.same HF2.out) (fun e => by obtain ⟨cur, hh⟩ := own_blk HO3.out e; exact types_nott hh (HC3.out.same HF2.out) (by decide) rfl)); have e4' : w4.cell? ⟨g, o + i * 5 + 4, .none⟩ = some (.slice Af f.l.length cf) := (by rw [cell_blk (hC34.keep (HC3.out.same HF2.out) (fun e => by obtain ⟨cur, hh⟩ := own_blk HO3.out e; exact types_nott hh (HC3.out.same HF2.out) (by decide) rfl)), ← cell_blk (HC3.out.same HF2.out)]; exact e3); have k4 : w4.cell? ⟨y, 2, .none⟩ = some (.slice (some ⟨g, o, .none⟩) R.L.length cL) := (by rw [cell_blk (hC34.keep (HC3.out.same P1.out.blk) (fun e => by obtain ⟨cur, hh⟩ := own_blk HO3.out e; exact types_nott hh (HC3.out.same P1.out.blk) (by decide) rfl))]; rfl); have ks : ∀ v, (w4.setCell ⟨g, o + i * 5 + 4, .none⟩ v).cell? ⟨y, 2, .none⟩ = some (.slice (some ⟨g, o, .none⟩) R.L.length cL) := (fun v => (World.cell?_of_block (set_other _ (types_nott P1.out.blk HF2.out (by decide)))).trans k4); have HO4 := Lib.hid hown4; have HC34 := Lib.hid hC34; have HAT := Lib.hid hat4; clear hown4 hgrow4 hat4 hC34)
                          refine hK.out _ _ ?_ (fun hHeld => ?_)
                          · ((try dsimp only); first | go_keep | exact k3 | exact k4 | exact ks _)
                          clear hK K
                          try simp only [Act.put, List.getElem_toArray, List.getElem_cons_succ, List.getElem_cons_zero, List.setIfInBounds_toArray, List.set_cons_zero, List.set_cons_succ]
                          refine wpAnyH_take (i := 22) (v := ?v26) rfl (by kernel_rfl) (by kernel_rfl) (by kernel_rfl) (fun _ _ _ h => h) (Or.inl ⟨by rfl, ?hy26⟩) (by assumption) ?_
                          case hy26 => (intro w hSw; (try dsimp only at hSw); (try simp only [List.getElem_toArray, List.getElem_cons_succ, List.getElem_cons_zero]); go_simp; try with_reducible rfl)
                          try simp only [Act.put, List.getElem_toArray, List.getElem_cons_succ, List.getElem_cons_zero, List.setIfInBounds_toArray, List.set_cons_zero, List.set_cons_succ]
                          refine wpAnyH_take (i := 23) (v := ?v27) rfl (by kernel_rfl) (by kernel_rfl) (by kernel_rfl) (fun _ _ _ h => h) (Or.inl ⟨by rfl, ?hy27⟩) (by assumption) ?_
                          case hy27 => (intro w hSw; (try dsimp only at hSw); (try simp only [List.getElem_toArray, List.getElem_cons_succ, List.getElem_cons_zero]); go_simp; try with_reducible rfl)
                          try simp only [Act.put, List.getElem_toArray, List.getElem_cons_succ, List.getElem_cons_zero, List.setIfInBounds_toArray, List.set_cons_zero, List.set_cons_succ]
                          refine wpAnyH_ready (rs := [24]) (by kernel_rfl) (by simp) ?_
                          refine AllReadyH.cons (o := _) rfl (fun K hK => ?_) ?_
                          · go_simp
                            refine hK.out _ _ ?_ (fun hHeld => ?_)
                            · ((try dsimp only); first | go_keep | exact k3 | exact k4 | exact ks _)
                            clear hK K
                            try simp only [Act.put, List.getElem_toArray, List.getElem_cons_succ, List.getElem_cons_zero, List.setIfInBounds_toArray, List.set_cons_zero, List.set_cons_succ]
                            refine wpAnyH_done (by kernel_rfl) ?_ _
                            refine NoPanic.normal ?_
                            go_end0
                            have hcv3 := HCV.out
                            exact sent_fin w y R id i f c now [] w2 w3 w4 g o cL gg cap4 Af cf (.slice (some ⟨w2.heap.size, 0, .none⟩) 0 0) curF P1.out HLV.out hil (by omega) (by omega) hfl (by simp) HOK.out HC3.out hcv3 HO4.out HC34.out HAT.out HF2.out (H.out.apartOf HFI.out) (ChgR.of P2.out HMg.out) E.out (fun i hi => (show w2.heap.size = i by simpa [Value.ownBlock] using hi) ▸ HGV.out)
                          exact AllReadyH.nil
                        exact AllReadyH.nil
                      exact AllReadyH.nil
                    exact AllReadyH.nil
                  refine AllReadyH.cons (o := _) rfl (fun K hK => ?_) ?_
                  · (refine step_append_room (by rfl) _ _ _ (by rfl) 49 ir 2 Try.underlying45 hir hr1 w2.heap.size 0 0 0 (by rfl) ad 0 capc [] (by rfl) (by rfl) (fun j u hj => by simp at hj) (by simp) (by omega) (fun j hj => by simp at hj) ?_; show K _ (w2.drew.alloc (.cells #[] 49)); obtain ⟨w3, hw3⟩ : ∃ w3, w3 = w2.drew.alloc (.cells #[] 49) := ⟨_, rfl⟩; rw [← hw3]; have hC3 : Chg Nowhere w2 w3 := (by rw [hw3]; exact ((Chg.refl Nowhere w2).drew).alloc _); have HC3 := Lib.hid hC3; have HO3 := Lib.hid (own_chg HROW.out hC3 (fun _ _ => not_nowhere _)); have e3 : w3.cell? ⟨g, o + i * 5 + 4, .none⟩ = some (.slice Af f.l.length cf) := (hC3.cell (p := ⟨g, o + i * 5 + 4, .none⟩) (lt_blk HF2.out) (not_nowhere _)).trans e4; have k3 : w3.cell? ⟨y, 2, .none⟩ = some (.slice (some ⟨g, o, .none⟩) R.L.length cL) := (hC3.cell (p := ⟨y, 2, .none⟩) hyl (not_nowhere _)).trans k2; have hg3 : g < w3.heap.size := Nat.lt_of_lt_of_le hgl2 hC3.size; have hy3 : y < w3.heap.size := Nat.lt_of_lt_of_le hyl hC3.size; have HGV := Lib.hid (show w.heap.size ≤ w2.heap.size from P2.out.size); have HCV := Lib.hid (show w3.ownsRow 0 49 2 (.slice (some ⟨w2.heap.size, 0, .none⟩) 0 0) 0 [] by rw [hw3]; exact HOL.out); clear hw3 hC3)
                    refine hK.out _ _ ?_ (fun hHeld => ?_)
                    · ((try dsimp only); first | go_keep | exact k3 | exact k4 | exact ks _)
                    clear hK K
                    try simp only [Act.put, List.getElem_toArray, List.getElem_cons_succ, List.getElem_cons_zero, List.setIfInBounds_toArray, List.set_cons_zero, List.set_cons_succ]
                    refine wpAnyH_take (i := 19) (v := ?v28) rfl (by kernel_rfl) (by kernel_rfl) (by kernel_rfl) (fun _ _ _ h => h) (Or.inl ⟨by rfl, ?hy28⟩) (by assumption) ?_
                    case hy28 => (intro w hSw; (try dsimp only at hSw); (try simp only [List.getElem_toArray, List.getElem_cons_succ, List.getElem_cons_zero]); go_simp; try with_reducible rfl)
                    try simp only [Act.put, List.getElem_toArray, List.getElem_cons_succ, List.getElem_cons_zero, List.setIfInBounds_toArray, List.set_cons_zero, List.set_cons_succ]
                    refine wpAnyH_ready (rs := [12, 20]) (by kernel_rfl) (by simp) ?_
                    refine AllReadyH.cons (o := _) rfl (fun K hK => ?_) ?_
                    · go_simp
                      refine hK.out _ _ ?_ (fun hHeld => ?_)
                      · ((try dsimp only); first | go_keep | exact k3 | exact k4 | exact ks _)
                      clear hK K
                      try simp only [Act.put, List.getElem_toArray, List.getElem_cons_succ, List.getElem_cons_zero, List.setIfInBounds_toArray, List.set_cons_zero, List.set_cons_succ]
                      refine wpAnyH_ready (rs := [20]) (by kernel_rfl) (by simp) ?_
                      refine AllReadyH.cons (o := _) rfl (fun K hK => ?_) ?_
                      · go_simp
                        refine hK.out _ _ ?_ (fun hHeld => ?_)
                        · ((try dsimp only); first | go_keep | exact k3 | exact k4 | exact ks _)
                        clear hK K
                        try simp only [Act.put, List.getElem_toArray, List.getElem_cons_succ, List.getElem_cons_zero, List.setIfInBounds_toArray, List.set_cons_zero, List.set_cons_succ]
                        refine wpAnyH_ready (rs := [21]) (by kernel_rfl) (by simp) ?_
                        refine AllReadyH.cons (o := _) rfl (fun K hK => ?_) ?_
                        · (refine step_append_lies _ (by rfl) _ _ _ (by rfl) 0 120 i0 _ 3 40 Try.underlying115 hi hz0 hz1 hz2 rfl (by omega) (.slice Af f.l.length cf) f.l.length (rcl f.l) (by rfl) (HO3.out.alloc _) ⟨w3.heap.size, 0, .none⟩ 1 1 [.int .i64 c, .int .i64 (mom21 now), .slice (some ⟨w2.heap.size, 0, .none⟩) 0 0] (by rfl) (by rfl) (World.news_of_block (cs := #[.int .i64 c, .int .i64 (mom21 now), .slice (some ⟨w2.heap.size, 0, .none⟩) 0 0]) (t := 120) (fr := (0, 0)) (heap_alloc_new w3 _)) (by simp [Value.oneCell']) (by omega) (by unfold maxLen; omega) (by omega) (by omega) (w3.heap.size + 1) (by simp) ?_; intro gg cap4 w4 hown4 hgrow4 hat4 hlt4; have hC34 := ((Chg.refl (fun q => (Value.slice Af f.l.length cf).ownBlock = some q) w3).alloc (.cells #[.int .i64 c, .int .i64 (mom21 now), .slice (some ⟨w2.heap.size, 0, .none⟩) 0 0] 120)).grown hgrow4 (fun k hk => .inr hk); have f4 : w4.frozen? ⟨g, o + i * 5 + 4, .none⟩ = false := frozen_blk (hC34.keep (HC3.out.same HF2.out) (fun e => by obtain ⟨cur, hh⟩ := own_blk HO3.out e; exact types_nott hh (HC3.out.same HF2.out) (by decide) rfl)); have e4' : w4.cell? ⟨g, o + i * 5 + 4, .none⟩ = some (.slice Af f.l.length cf) := (by rw [cell_blk (hC34.keep (HC3.out.same HF2.out) (fun e => by obtain ⟨cur, hh⟩ := own_blk HO3.out e; exact types_nott hh (HC3.out.same HF2.out) (by decide) rfl)), ← cell_blk (HC3.out.same HF2.out)]; exact e3); have k4 : w4.cell? ⟨y, 2, .none⟩ = some (.slice (some ⟨g, o, .none⟩) R.L.length cL) := (by rw [cell_blk (hC34.keep (HC3.out.same P1.out.blk) (fun e => by obtain ⟨cur, hh⟩ := own_blk HO3.out e; exact types_nott hh (HC3.out.same P1.out.blk) (by decide) rfl))]; rfl); have ks : ∀ v, (w4.setCell ⟨g, o + i * 5 + 4, .none⟩ v).cell? ⟨y, 2, .none⟩ = some (.slice (some ⟨g, o, .none⟩) R.L.length cL) := (fun v => (World.cell?_of_block (set_other _ (types_nott P1.out.blk HF2.out (by decide)))).trans k4); have HO4 := Lib.hid hown4; have HC34 := Lib.hid hC34; have HAT := Lib.hid hat4; clear hown4 hgrow4 hat4 hC34)
                          refine hK.out _ _ ?_ (fun hHeld => ?_)
                          · ((try dsimp only); first | go_keep | exact k3 | exact k4 | exact ks _)
                          clear hK K
                          try simp only [Act.put, List.getElem_toArray, List.getElem_cons_succ, List.getElem_cons_zero, List.setIfInBounds_toArray, List.set_cons_zero, List.set_cons_succ]
                          refine wpAnyH_take (i := 22) (v := ?v29) rfl (by kernel_rfl) (by kernel_rfl) (by kernel_rfl) (fun _ _ _ h => h) (Or.inl ⟨by rfl, ?hy29⟩) (by assumption) ?_
                          case hy29 => (intro w hSw; (try dsimp only at hSw); (try simp only [List.getElem_toArray, List.getElem_cons_succ, List.getElem_cons_zero]); go_simp; try with_reducible rfl)
                          try simp only [Act.put, List.getElem_toArray, List.getElem_cons_succ, List.getElem_cons_zero, List.setIfInBounds_toArray, List.set_cons_zero, List.set_cons_succ]
                          refine wpAnyH_take (i := 23) (v := ?v30) rfl (by kernel_rfl) (by kernel_rfl) (by kernel_rfl) (fun _ _ _ h => h) (Or.inl ⟨by rfl, ?hy30⟩) (by assumption) ?_
                          case hy30 => (intro w hSw; (try dsimp only at hSw); (try simp only [List.getElem_toArray, List.getElem_cons_succ, List.getElem_cons_zero]); go_simp; try with_reducible rfl)
                          try simp only [Act.put, List.getElem_toArray, List.getElem_cons_succ, List.getElem_cons_zero, List.setIfInBounds_toArray, List.set_cons_zero, List.set_cons_succ]
                          refine wpAnyH_ready (rs := [24]) (by kernel_rfl) (by simp) ?_
                          refine AllReadyH.cons (o := _) rfl (fun K hK => ?_) ?_
                          · go_simp
                            refine hK.out _ _ ?_ (fun hHeld => ?_)
                            · ((try dsimp only); first | go_keep | exact k3 | exact k4 | exact ks _)
                            clear hK K
                            try simp only [Act.put, List.getElem_toArray, List.getElem_cons_succ, List.getElem_cons_zero, List.setIfInBounds_toArray, List.set_cons_zero, List.set_cons_succ]
                            refine wpAnyH_done (by kernel_rfl) ?_ _
                            refine NoPanic.normal ?_
                            go_end0
                            have hcv3 := HCV.out
                            exact sent_fin w y R id i f c now [] w2 w3 w4 g o cL gg cap4 Af cf (.slice (some ⟨w2.heap.size, 0, .none⟩) 0 0) curF P1.out HLV.out hil (by omega) (by omega) hfl (by simp) HOK.out HC3.out hcv3 HO4.out HC34.out HAT.out HF2.out (H.out.apartOf HFI.out) (ChgR.of P2.out HMg.out) E.out (fun i hi => (show w2.heap.size = i by simpa [Value.ownBlock] using hi) ▸ HGV.out)
                          exact AllReadyH.nil
                        exact AllReadyH.nil
                      exact AllReadyH.nil
                    refine AllReadyH.cons (o := _) rfl (fun K hK => ?_) ?_
                    · go_simp
                      refine hK.out _ _ ?_ (fun hHeld => ?_)
                      · ((try dsimp only); first | go_keep | exact k3 | exact k4 | exact ks _)
                      clear hK K
                      try simp only [Act.put, List.getElem_toArray, List.getElem_cons_succ, List.getElem_cons_zero, List.setIfInBounds_toArray, List.set_cons_zero, List.set_cons_succ]
                      refine wpAnyH_ready (rs := [12]) (by kernel_rfl) (by simp) ?_
                      refine AllReadyH.cons (o := _) rfl (fun K hK => ?_) ?_
                      · go_simp
                        refine hK.out _ _ ?_ (fun hHeld => ?_)
                        · ((try dsimp only); first | go_keep | exact k3 | exact k4 | exact ks _)
                        clear hK K
                        try simp only [Act.put, List.getElem_toArray, List.getElem_cons_succ, List.getElem_cons_zero, List.setIfInBounds_toArray, List.set_cons_zero, List.set_cons_succ]
                        refine wpAnyH_ready (rs := [21]) (by kernel_rfl) (by simp) ?_
                        refine AllReadyH.cons (o := _) rfl (fun K hK => ?_) ?_
                        · (refine step_append_lies _ (by rfl) _ _ _ (by rfl) 0 120 i0 _ 3 40 Try.underlying115 hi hz0 hz1 hz2 rfl (by omega) (.slice Af f.l.length cf) f.l.length (rcl f.l) (by rfl) (HO3.out.alloc _) ⟨w3.heap.size, 0, .none⟩ 1 1 [.int .i64 c, .int .i64 (mom21 now), .slice (some ⟨w2.heap.size, 0, .none⟩) 0 0] (by rfl) (by rfl) (World.news_of_block (cs := #[.int .i64 c, .int .i64 (mom21 now), .slice (some ⟨w2.heap.size, 0, .none⟩) 0 0]) (t := 120) (fr := (0, 0)) (heap_alloc_new w3 _)) (by simp [Value.oneCell']) (by omega) (by unfold maxLen; omega) (by omega) (by omega) (w3.heap.size + 1) (by simp) ?_; intro gg cap4 w4 hown4 hgrow4 hat4 hlt4; have hC34 := ((Chg.refl (fun q => (Value.slice Af f.l.length cf).ownBlock = some q) w3).alloc (.cells #[.int .i64 c, .int .i64 (mom21 now), .slice (some ⟨w2.heap.size, 0, .none⟩) 0 0] 120)).grown hgrow4 (fun k hk => .inr hk); have f4 : w4.frozen? ⟨g, o + i * 5 + 4, .none⟩ = false := frozen_blk (hC34.keep (HC3.out.same HF2.out) (fun e => by obtain ⟨cur, hh⟩ := own_blk HO3.out e; exact types_nott hh (HC3.out.same HF2.out) (by decide) rfl)); have e4' : w4.cell? ⟨g, o + i * 5 + 4, .none⟩ = some (.slice Af f.l.length cf) := (by rw [cell_blk (hC34.keep (HC3.out.same HF2.out) (fun e => by obtain ⟨cur, hh⟩ := own_blk HO3.out e; exact types_nott hh (HC3.out.same HF2.out) (by decide) rfl)), ← cell_blk (HC3.out.same HF2.out)]; exact e3); have k4 : w4.cell? ⟨y, 2, .none⟩ = some (.slice (some ⟨g, o, .none⟩) R.L.length cL) := (by rw [cell_blk (hC34.keep (HC3.out.same P1.out.blk) (fun e => by obtain ⟨cur, hh⟩ := own_blk HO3.out e; exact types_nott hh (HC3.out.same P1.out.blk) (by decide) rfl))]; rfl); have ks : ∀ v, (w4.setCell ⟨g, o + i * 5 + 4, .none⟩ v).cell? ⟨y, 2, .none⟩ = some (.slice (some ⟨g, o, .none⟩) R.L.length cL) := (fun v => (World.cell?_of_block (set_other _ (types_nott P1.out.blk HF2.out (by decide)))).trans k4); have HO4 := Lib.hid hown4; have HC34 := Lib.hid hC34; have HAT := Lib.hid hat4; clear hown4 hgrow4 hat4 hC34)
                          refine hK.out _ _ ?_ (fun hHeld => ?_)
                          · ((try dsimp only); first | go_keep | exact k3 | exact k4 | exact ks _)
                          clear hK K
                          try simp only [Act.put, List.getElem_toArray, List.getElem_cons_succ, List.getElem_cons_zero, List.setIfInBounds_toArray, List.set_cons_zero, List.set_cons_succ]
                          refine wpAnyH_take (i := 22) (v := ?v31) rfl (by kernel_rfl) (by kernel_rfl) (by kernel_rfl) (fun _ _ _ h => h) (Or.inl ⟨by rfl, ?hy31⟩) (by assumption) ?_
                          case hy31 => (intro w hSw; (try dsimp only at hSw); (try simp only [List.getElem_toArray, List.getElem_cons_succ, List.getElem_cons_zero]); go_simp; try with_reducible rfl)
                          try simp only [Act.put, List.getElem_toArray, List.getElem_cons_succ, List.getElem_cons_zero, List.setIfInBounds_toArray, List.set_cons_zero, List.set_cons_succ]
                          refine wpAnyH_take (i := 23) (v := ?v32) rfl (by kernel_rfl) (by kernel_rfl) (by kernel_rfl) (fun _ _ _ h => h) (Or.inl ⟨by rfl, ?hy32⟩) (by assumption) ?_
                          case hy32 => (intro w hSw; (try dsimp only at hSw); (try simp only [List.getElem_toArray, List.getElem_cons_succ, List.getElem_cons_zero]); go_simp; try with_reducible rfl)
                          try simp only [Act.put, List.getElem_toArray, List.getElem_cons_succ, List.getElem_cons_zero, List.setIfInBounds_toArray, List.set_cons_zero, List.set_cons_succ]
                          refine wpAnyH_ready (rs := [24]) (by kernel_rfl) (by simp) ?_
                          refine AllReadyH.cons (o := _) rfl (fun K hK => ?_) ?_
                          · go_simp
                            refine hK.out _ _ ?_ (fun hHeld => ?_)
                            · ((try dsimp only); first | go_keep | exact k3 | exact k4 | exact ks _)
                            clear hK K
                            try simp only [Act.put, List.getElem_toArray, List.getElem_cons_succ, List.getElem_cons_zero, List.setIfInBounds_toArray, List.set_cons_zero, List.set_cons_succ]
                            refine wpAnyH_done (by kernel_rfl) ?_ _
                            refine NoPanic.normal ?_
                            go_end0
                            have hcv3 := HCV.out
                            exact sent_fin w y R id i f c now [] w2 w3 w4 g o cL gg cap4 Af cf (.slice (some ⟨w2.heap.size, 0, .none⟩) 0 0) curF P1.out HLV.out hil (by omega) (by omega) hfl (by simp) HOK.out HC3.out hcv3 HO4.out HC34.out HAT.out HF2.out (H.out.apartOf HFI.out) (ChgR.of P2.out HMg.out) E.out (fun i hi => (show w2.heap.size = i by simpa [Value.ownBlock] using hi) ▸ HGV.out)
                          exact AllReadyH.nil
                        exact AllReadyH.nil
                      exact AllReadyH.nil
                    exact AllReadyH.nil
                  exact AllReadyH.nil
                exact AllReadyH.nil
              refine AllReadyH.cons (o := _) rfl (fun K hK => ?_) ?_
              · go_simp
                refine hK.out _ _ ?_ (fun hHeld => ?_)
                · ((try dsimp only); first | go_keep | exact k3 | exact k4 | exact ks _)
                clear hK K
                try simp only [Act.put, List.getElem_toArray, List.getElem_cons_succ, List.getElem_cons_zero, List.setIfInBounds_toArray, List.set_cons_zero, List.set_cons_succ]
                refine wpAnyH_ready (rs := [12, 15]) (by kernel_rfl) (by simp) ?_
                refine AllReadyH.cons (o := _) rfl (fun K hK => ?_) ?_
                · go_simp
                  refine hK.out _ _ ?_ (fun hHeld => ?_)
                  · ((try dsimp only); first | go_keep | exact k3 | exact k4 | exact ks _)
                  clear hK K
                  try simp only [Act.put, List.getElem_toArray, List.getElem_cons_succ, List.getElem_cons_zero, List.setIfInBounds_toArray, List.set_cons_zero, List.set_cons_succ]
                  refine wpAnyH_ready (rs := [15]) (by kernel_rfl) (by simp) ?_
                  refine AllReadyH.cons (o := _) rfl (fun K hK => ?_) ?_
                  · (go_simp; go_at_call 85; refine (momR_any _ _).mono ?_; rintro e w' ⟨rfl, rfl⟩)
                    refine hK.out _ _ ?_ (fun hHeld => ?_)
                    · ((try dsimp only); first | go_keep | exact k3 | exact k4 | exact ks _)
                    clear hK K
                    try simp only [Act.put, List.getElem_toArray, List.getElem_cons_succ, List.getElem_cons_zero, List.setIfInBounds_toArray, List.set_cons_zero, List.set_cons_succ]
                    refine wpAnyH_ready (rs := [18]) (by kernel_rfl) (by simp) ?_
                    refine AllReadyH.cons (o := _) rfl (fun K hK => ?_) ?_
                    · (refine step_append_room (by rfl) _ _ _ (by rfl) 49 ir 2 Try.underlying45 hir hr1 w2.heap.size 0 0 0 (by rfl) ad 0 capc [] (by rfl) (by rfl) (fun j u hj => by simp at hj) (by simp) (by omega) (fun j hj => by simp at hj) ?_; show K _ (w2.drew.alloc (.cells #[] 49)); obtain ⟨w3, hw3⟩ : ∃ w3, w3 = w2.drew.alloc (.cells #[] 49) := ⟨_, rfl⟩; rw [← hw3]; have hC3 : Chg Nowhere w2 w3 := (by rw [hw3]; exact ((Chg.refl Nowhere w2).drew).alloc _); have HC3 := Lib.hid hC3; have HO3 := Lib.hid (own_chg HROW.out hC3 (fun _ _ => not_nowhere _)); have e3 : w3.cell? ⟨g, o + i * 5 + 4, .none⟩ = some (.slice Af f.l.length cf) := (hC3.cell (p := ⟨g, o + i * 5 + 4, .none⟩) (lt_blk HF2.out) (not_nowhere _)).trans e4; have k3 : w3.cell? ⟨y, 2, .none⟩ = some (.slice (some ⟨g, o, .none⟩) R.L.length cL) := (hC3.cell (p := ⟨y, 2, .none⟩) hyl (not_nowhere _)).trans k2; have hg3 : g < w3.heap.size := Nat.lt_of_lt_of_le hgl2 hC3.size; have hy3 : y < w3.heap.size := Nat.lt_of_lt_of_le hyl hC3.size; have HGV := Lib.hid (show w.heap.size ≤ w2.heap.size from P2.out.size); have HCV := Lib.hid (show w3.ownsRow 0 49 2 (.slice (some ⟨w2.heap.size, 0, .none⟩) 0 0) 0 [] by rw [hw3]; exact HOL.out); clear hw3 hC3)
                      refine hK.out _ _ ?_ (fun hHeld => ?_)
                      · ((try dsimp only); first | go_keep | exact k3 | exact k4 | exact ks _)
                      clear hK K
                      try simp only [Act.put, List.getElem_toArray, List.getElem_cons_succ, List.getElem_cons_zero, List.setIfInBounds_toArray, List.set_cons_zero, List.set_cons_succ]
                      refine wpAnyH_take (i := 19) (v := ?v33) rfl (by kernel_rfl) (by kernel_rfl) (by kernel_rfl) (fun _ _ _ h => h) (Or.inl ⟨by rfl, ?hy33⟩) (by assumption) ?_
                      case hy33 => (intro w hSw; (try dsimp only at hSw); (try simp only [List.getElem_toArray, List.getElem_cons_succ, List.getElem_cons_zero]); go_simp; try with_reducible rfl)
                      try simp only [Act.put, List.getElem_toArray, List.getElem_cons_succ, List.getElem_cons_zero, List.setIfInBounds_toArray, List.set_cons_zero, List.set_cons_succ]
                      refine wpAnyH_ready (rs := [20]) (by kernel_rfl) (by simp) ?_
                      refine AllReadyH.cons (o := _) rfl (fun K hK => ?_) ?_
                      · go_simp
                        refine hK.out _ _ ?_ (fun hHeld => ?_)
                        · ((try dsimp only); first | go_keep | exact k3 | exact k4 | exact ks _)
                        clear hK K
                        try simp only [Act.put, List.getElem_toArray, List.getElem_cons_succ, List.getElem_cons_zero, List.setIfInBounds_toArray, List.set_cons_zero, List.set_cons_succ]
                        refine wpAnyH_ready (rs := [21]) (by kernel_rfl) (by simp) ?_
                        refine AllReadyH.cons (o := _) rfl (fun K hK => ?_) ?_
                        · (refine step_append_lies _ (by rfl) _ _ _ (by rfl) 0 120 i0 _ 3 40 Try.underlying115 hi hz0 hz1 hz2 rfl (by omega) (.slice Af f.l.length cf) f.l.length (rcl f.l) (by rfl) (HO3.out.alloc _) ⟨w3.heap.size, 0, .none⟩ 1 1 [.int .i64 c, .int .i64 (mom21 now), .slice (some ⟨w2.heap.size, 0, .none⟩) 0 0] (by rfl) (by rfl) (World.news_of_block (cs := #[.int .i64 c, .int .i64 (mom21 now), .slice (some ⟨w2.heap.size, 0, .none⟩) 0 0]) (t := 120) (fr := (0, 0)) (heap_alloc_new w3 _)) (by simp [Value.oneCell']) (by omega) (by unfold maxLen; omega) (by omega) (by omega) (w3.heap.size + 1) (by simp) ?_; intro gg cap4 w4 hown4 hgrow4 hat4 hlt4; have hC34 := ((Chg.refl (fun q => (Value.slice Af f.l.length cf).ownBlock = some q) w3).alloc (.cells #[.int .i64 c, .int .i64 (mom21 now), .slice (some ⟨w2.heap.size, 0, .none⟩) 0 0] 120)).grown hgrow4 (fun k hk => .inr hk); have f4 : w4.frozen? ⟨g, o + i * 5 + 4, .none⟩ = false := frozen_blk (hC34.keep (HC3.out.same HF2.out) (fun e => by obtain ⟨cur, hh⟩ := own_blk HO3.out e; exact types_nott hh (HC3.out.same HF2.out) (by decide) rfl)); have e4' : w4.cell? ⟨g, o + i * 5 + 4, .none⟩ = some (.slice Af f.l.length cf) := (by rw [cell_blk (hC34.keep (HC3.out.same HF2.out) (fun e => by obtain ⟨cur, hh⟩ := own_blk HO3.out e; exact types_nott hh (HC3.out.same HF2.out) (by decide) rfl)), ← cell_blk (HC3.out.same HF2.out)]; exact e3); have k4 : w4.cell? ⟨y, 2, .none⟩ = some (.slice (some ⟨g, o, .none⟩) R.L.length cL) := (by rw [cell_blk (hC34.keep (HC3.out.same P1.out.blk) (fun e => by obtain ⟨cur, hh⟩ := own_blk HO3.out e; exact types_nott hh (HC3.out.same P1.out.blk) (by decide) rfl))]; rfl); have ks : ∀ v, (w4.setCell ⟨g, o + i * 5 + 4, .none⟩ v).cell? ⟨y, 2, .none⟩ = some (.slice (some ⟨g, o, .none⟩) R.L.length cL) := (fun v => (World.cell?_of_block (set_other _ (types_nott P1.out.blk HF2.out (by decide)))).trans k4); have HO4 := Lib.hid hown4; have HC34 := Lib.hid hC34; have HAT := Lib.hid hat4; clear hown4 hgrow4 hat4 hC34)
                          refine hK.out _ _ ?_ (fun hHeld => ?_)
                          · ((try dsimp only); first | go_keep | exact k3 | exact k4 | exact ks _)
                          clear hK K
                          try simp only [Act.put, List.getElem_toArray, List.getElem_cons_succ, List.getElem_cons_zero, List.setIfInBounds_toArray, List.set_cons_zero, List.set_cons_succ]
                          refine wpAnyH_take (i := 22) (v := ?v34) rfl (by kernel_rfl) (by kernel_rfl) (by kernel_rfl) (fun _ _ _ h => h) (Or.inl ⟨by rfl, ?hy34⟩) (by assumption) ?_
                          case hy34 => (intro w hSw; (try dsimp only at hSw); (try simp only [List.getElem_toArray, List.getElem_cons_succ, List.getElem_cons_zero]); go_simp; try with_reducible rfl)
                          try simp only [Act.put, List.getElem_toArray, List.getElem_cons_succ, List.getElem_cons_zero, List.setIfInBounds_toArray, List.set_cons_zero, List.set_cons_succ]
                          refine wpAnyH_take (i := 23) (v := ?v35) rfl (by kernel_rfl) (by kernel_rfl) (by kernel_rfl) (fun _ _ _ h => h) (Or.inl ⟨by rfl, ?hy35⟩) (by assumption) ?_
                          case hy35 => (intro w hSw; (try dsimp only at hSw); (try simp only [List.getElem_toArray, List.getElem_cons_succ, List.getElem_cons_zero]); go_simp; try with_reducible rfl)
                          try simp only [Act.put, List.getElem_toArray, List.getElem_cons_succ, List.getElem_cons_zero, List.setIfInBounds_toArray, List.set_cons_zero, List.set_cons_succ]
                          refine wpAnyH_ready (rs := [24]) (by kernel_rfl) (by simp) ?_
                          refine AllReadyH.cons (o := _) rfl (fun K hK => ?_) ?_
                          · go_simp
                            refine hK.out _ _ ?_ (fun hHeld => ?_)
                            · ((try dsimp only); first | go_keep | exact k3 | exact k4 | exact ks _)
                            clear hK K
                            try simp only [Act.put, List.getElem_toArray, List.getElem_cons_succ, List.getElem_cons_zero, List.setIfInBounds_toArray, List.set_cons_zero, List.set_cons_succ]
                            refine wpAnyH_done (by kernel_rfl) ?_ _
                            refine NoPanic.normal ?_
                            go_end0
                            have hcv3 := HCV.out
                            exact sent_fin w y R id i f c now [] w2 w3 w4 g o cL gg cap4 Af cf (.slice (some ⟨w2.heap.size, 0, .none⟩) 0 0) curF P1.out HLV.out hil (by omega) (by omega) hfl (by simp) HOK.out HC3.out hcv3 HO4.out HC34.out HAT.out HF2.out (H.out.apartOf HFI.out) (ChgR.of P2.out HMg.out) E.out (fun i hi => (show w2.heap.size = i by simpa [Value.ownBlock] using hi) ▸ HGV.out)
                          exact AllReadyH.nil
                        exact AllReadyH.nil
                      exact AllReadyH.nil
                    exact AllReadyH.nil
                  exact AllReadyH.nil
                refine AllReadyH.cons (o := _) rfl (fun K hK => ?_) ?_
                · (go_simp; go_at_call 85; refine (momR_any _ _).mono ?_; rintro e w' ⟨rfl, rfl⟩)
                  refine hK.out _ _ ?_ (fun hHeld => ?_)
                  · ((try dsimp only); first | go_keep | exact k3 | exact k4 | exact ks _)
                  clear hK K
                  try simp only [Act.put, List.getElem_toArray, List.getElem_cons_succ, List.getElem_cons_zero, List.setIfInBounds_toArray, List.set_cons_zero, List.set_cons_succ]
                  refine wpAnyH_ready (rs := [12, 18]) (by kernel_rfl) (by simp) ?_
                  refine AllReadyH.cons (o := _) rfl (fun K hK => ?_) ?_
                  · go_simp
                    refine hK.out _ _ ?_ (fun hHeld => ?_)
                    · ((try dsimp only); first | go_keep | exact k3 | exact k4 | exact ks _)
                    clear hK K
                    try simp only [Act.put, List.getElem_toArray, List.getElem_cons_succ, List.getElem_cons_zero, List.setIfInBounds_toArray, List.set_cons_zero, List.set_cons_succ]
                    refine wpAnyH_ready (rs := [18]) (by kernel_rfl) (by simp) ?_
                    refine AllReadyH.cons (o := _) rfl (fun K hK => ?_) ?_
                    · (refine step_append_room (by rfl) _ _ _ (by rfl) 49 ir 2 Try.underlying45 hir hr1 w2.heap.size 0 0 0 (by rfl) ad 0 capc [] (by rfl) (by rfl) (fun j u hj => by simp at hj) (by simp) (by omega) (fun j hj => by simp at hj) ?_; show K _ (w2.drew.alloc (.cells #[] 49)); obtain ⟨w3, hw3⟩ : ∃ w3, w3 = w2.drew.alloc (.cells #[] 49) := ⟨_, rfl⟩; rw [← hw3]; have hC3 : Chg Nowhere w2 w3 := (by rw [hw3]; exact ((Chg.refl Nowhere w2).drew).alloc _); have HC3 := Lib.hid hC3; have HO3 := Lib.hid (own_chg HROW.out hC3 (fun _ _ => not_nowhere _)); have e3 : w3.cell? ⟨g, o + i * 5 + 4, .none⟩ = some (.slice Af f.l.length cf) := (hC3.cell (p := ⟨g, o + i * 5 + 4, .none⟩) (lt_blk HF2.out) (not_nowhere _)).trans e4; have k3 : w3.cell? ⟨y, 2, .none⟩ = some (.slice (some ⟨g, o, .none⟩) R.L.length cL) := (hC3.cell (p := ⟨y, 2, .none⟩) hyl (not_nowhere _)).trans k2; have hg3 : g < w3.heap.size := Nat.lt_of_lt_of_le hgl2 hC3.size; have hy3 : y < w3.heap.size := Nat.lt_of_lt_of_le hyl hC3.size; have HGV := Lib.hid (show w.heap.size ≤ w2.heap.size from P2.out.size); have HCV := Lib.hid (show w3.ownsRow 0 49 2 (.slice (some ⟨w2.heap.size, 0, .none⟩) 0 0) 0 [] by rw [hw3]; exact HOL.out); clear hw3 hC3)
                      refine hK.out _ _ ?_ (fun hHeld => ?_)
                      · ((try dsimp only); first | go_keep | exact k3 | exact k4 | exact ks _)
                      clear hK K
                      try simp only [Act.put, List.getElem_toArray, List.getElem_cons_succ, List.getElem_cons_zero, List.setIfInBounds_toArray, List.set_cons_zero, List.set_cons_succ]
                      refine wpAnyH_take (i := 19) (v := ?v36) rfl (by kernel_rfl) (by kernel_rfl) (by kernel_rfl) (fun _ _ _ h => h) (Or.inl ⟨by rfl, ?hy36⟩) (by assumption) ?_
                      case hy36 => (intro w hSw; (try dsimp only at hSw); (try simp only [List.getElem_toArray, List.getElem_cons_succ, List.getElem_cons_zero]); go_simp; try with_reducible rfl)
                      try simp only [Act.put, List.getElem_toArray, List.getElem_cons_succ, List.getElem_cons_zero, List.setIfInBounds_toArray, List.set_cons_zero, List.set_cons_succ]
                      refine wpAnyH_ready (rs := [20]) (by kernel_rfl) (by simp) ?_
                      refine AllReadyH.cons (o := _) rfl (fun K hK => ?_) ?_
                      · go_simp
                        refine hK.out _ _ ?_ (fun hHeld => ?_)
                        · ((try dsimp only); first | go_keep | exact k3 | exact k4 | exact ks _)
                        clear hK K
                        try simp only [Act.put, List.getElem_toArray, List.getElem_cons_succ, List.getElem_cons_zero, List.setIfInBounds_toArray, List.set_cons_zero, List.set_cons_succ]
                        refine wpAnyH_ready (rs := [21]) (by kernel_rfl) (by simp) ?_
                        refine AllReadyH.cons (o := _) rfl (fun K hK => ?_) ?_
                        · (refine step_append_lies _ (by rfl) _ _ _ (by rfl) 0 120 i0 _ 3 40 Try.underlying115 hi hz0 hz1 hz2 rfl (by omega) (.slice Af f.l.length cf) f.l.length (rcl f.l) (by rfl) (HO3.out.alloc _) ⟨w3.heap.size, 0, .none⟩ 1 1 [.int .i64 c, .int .i64 (mom21 now), .slice (some ⟨w2.heap.size, 0, .none⟩) 0 0] (by rfl) (by rfl) (World.news_of_block (cs := #[.int .i64 c, .int .i64 (mom21 now), .slice (some ⟨w2.heap.size, 0, .none⟩) 0 0]) (t := 120) (fr := (0, 0)) (heap_alloc_new w3 _)) (by simp [Value.oneCell']) (by omega) (by unfold maxLen; omega) (by omega) (by omega) (w3.heap.size + 1) (by simp) ?_; intro gg cap4 w4 hown4 hgrow4 hat4 hlt4; have hC34 := ((Chg.refl (fun q => (Value.slice Af f.l.length cf).ownBlock = some q) w3).alloc (.cells #[.int .i64 c, .int .i64 (mom21 now), .slice (some ⟨w2.heap.size, 0, .none⟩) 0 0] 120)).grown hgrow4 (fun k hk => .inr hk); have f4 : w4.frozen? ⟨g, o + i * 5 + 4, .none⟩ = false := frozen_blk (hC34.keep (HC3.out.same HF2.out) (fun e => by obtain ⟨cur, hh⟩ := own_blk HO3.out e; exact types_nott hh (HC3.out.same HF2.out) (by decide) rfl)); have e4' : w4.cell? ⟨g, o + i * 5 + 4, .none⟩ = some (.slice Af f.l.length cf) := (by rw [cell_blk (hC34.keep (HC3.out.same HF2.out) (fun e => by obtain ⟨cur, hh⟩ := own_blk HO3.out e; exact types_nott hh (HC3.out.same HF2.out) (by decide) rfl)), ← cell_blk (HC3.out.same HF2.out)]; exact e3); have k4 : w4.cell? ⟨y, 2, .none⟩ = some (.slice (some ⟨g, o, .none⟩) R.L.length cL) := (by rw [cell_blk (hC34.keep (HC3.out.same P1.out.blk) (fun e => by obtain ⟨cur, hh⟩ := own_blk HO3.out e; exact types_nott hh (HC3.out.same P1.out.blk) (by decide) rfl))]; rfl); have ks : ∀ v, (w4.setCell ⟨g, o + i * 5 + 4, .none⟩ v).cell? ⟨y, 2, .none⟩ = some (.slice (some ⟨g, o, .none⟩) R.L.length cL) := (fun v => (World.cell?_of_block (set_other _ (types_nott P1.out.blk HF2.out (by decide)))).trans k4); have HO4 := Lib.hid hown4; have HC34 := Lib.hid hC34; have HAT := Lib.hid hat4; clear hown4 hgrow4 hat4 hC34)
                          refine hK.out _ _ ?_ (fun hHeld => ?_)
                          · ((try dsimp only); first | go_keep | exact k3 | exact k4 | exact ks _)
                          clear hK K
                          try simp only [Act.put, List.getElem_toArray, List.getElem_cons_succ, List.getElem_cons_zero, List.setIfInBounds_toArray, List.set_cons_zero, List.set_cons_succ]
                          refine wpAnyH_take (i := 22) (v := ?v37) rfl (by kernel_rfl) (by kernel_rfl) (by kernel_rfl) (fun _ _ _ h => h) (Or.inl ⟨by rfl, ?hy37⟩) (by assumption) ?_
                          case hy37 => (intro w hSw; (try dsimp only at hSw); (try simp only [List.getElem_toArray, List.getElem_cons_succ, List.getElem_cons_zero]); go_simp; try with_reducible rfl)
                          try simp only [Act.put, List.getElem_toArray, List.getElem_cons_succ, List.getElem_cons_zero, List.setIfInBounds_toArray, List.set_cons_zero, List.set_cons_succ]
                          refine wpAnyH_take (i := 23) (v := ?v38) rfl (by kernel_rfl) (by kernel_rfl) (by kernel_rfl) (fun _ _ _ h => h) (Or.inl ⟨by rfl, ?hy38⟩) (by assumption) ?_
                          case hy38 => (intro w hSw; (try dsimp only at hSw); (try simp only [List.getElem_toArray, List.getElem_cons_succ, List.getElem_cons_zero]); go_simp; try with_reducible rfl)
                          try simp only [Act.put, List.getElem_toArray, List.getElem_cons_succ, List.getElem_cons_zero, List.setIfInBounds_toArray, List.set_cons_zero, List.set_cons_succ]
                          refine wpAnyH_ready (rs := [24]) (by kernel_rfl) (by simp) ?_
                          refine AllReadyH.cons (o := _) rfl (fun K hK => ?_) ?_
                          · go_simp
                            refine hK.out _ _ ?_ (fun hHeld => ?_)
                            · ((try dsimp only); first | go_keep | exact k3 | exact k4 | exact ks _)
                            clear hK K
                            try simp only [Act.put, List.getElem_toArray, List.getElem_cons_succ, List.getElem_cons_zero, List.setIfInBounds_toArray, List.set_cons_zero, List.set_cons_succ]
                            refine wpAnyH_done (by kernel_rfl) ?_ _
                            refine NoPanic.normal ?_
                            go_end0
                            have hcv3 := HCV.out
                            exact sent_fin w y R id i f c now [] w2 w3 w4 g o cL gg cap4 Af cf (.slice (some ⟨w2.heap.size, 0, .none⟩) 0 0) curF P1.out HLV.out hil (by omega) (by omega) hfl (by simp) HOK.out HC3.out hcv3 HO4.out HC34.out HAT.out HF2.out (H.out.apartOf HFI.out) (ChgR.of P2.out HMg.out) E.out (fun i hi => (show w2.heap.size = i by simpa [Value.ownBlock] using hi) ▸ HGV.out)
                          exact AllReadyH.nil
                        exact AllReadyH.nil
                      exact AllReadyH.nil
                    exact AllReadyH.nil
                  refine AllReadyH.cons (o := _) rfl (fun K hK => ?_) ?_
                  · (refine step_append_room (by rfl) _ _ _ (by rfl) 49 ir 2 Try.underlying45 hir hr1 w2.heap.size 0 0 0 (by rfl) ad 0 capc [] (by rfl) (by rfl) (fun j u hj => by simp at hj) (by simp) (by omega) (fun j hj => by simp at hj) ?_; show K _ (w2.drew.alloc (.cells #[] 49)); obtain ⟨w3, hw3⟩ : ∃ w3, w3 = w2.drew.alloc (.cells #[] 49) := ⟨_, rfl⟩; rw [← hw3]; have hC3 : Chg Nowhere w2 w3 := (by rw [hw3]; exact ((Chg.refl Nowhere w2).drew).alloc _); have HC3 := Lib.hid hC3; have HO3 := Lib.hid (own_chg HROW.out hC3 (fun _ _ => not_nowhere _)); have e3 : w3.cell? ⟨g, o + i * 5 + 4, .none⟩ = some (.slice Af f.l.length cf) := (hC3.cell (p := ⟨g, o + i * 5 + 4, .none⟩) (lt_blk HF2.out) (not_nowhere _)).trans e4; have k3 : w3.cell? ⟨y, 2, .none⟩ = some (.slice (some ⟨g, o, .none⟩) R.L.length cL) := (hC3.cell (p := ⟨y, 2, .none⟩) hyl (not_nowhere _)).trans k2; have hg3 : g < w3.heap.size := Nat.lt_of_lt_of_le hgl2 hC3.size; have hy3 : y < w3.heap.size := Nat.lt_of_lt_of_le hyl hC3.size; have HGV := Lib.hid (show w.heap.size ≤ w2.heap.size from P2.out.size); have HCV := Lib.hid (show w3.ownsRow 0 49 2 (.slice (some ⟨w2.heap.size, 0, .none⟩) 0 0) 0 [] by rw [hw3]; exact HOL.out); clear hw3 hC3)
                    refine hK.out _ _ ?_ (fun hHeld => ?_)
                    · ((try dsimp only); first | go_keep | exact k3 | exact k4 | exact ks _)
                    clear hK K
                    try simp only [Act.put, List.getElem_toArray, List.getElem_cons_succ, List.getElem_cons_zero, List.setIfInBounds_toArray, List.set_cons_zero, List.set_cons_succ]
                    refine wpAnyH_take (i := 19) (v := ?v39) rfl (by kernel_rfl) (by kernel_rfl) (by kernel_rfl) (fun _ _ _ h => h) (Or.inl ⟨by rfl, ?hy39⟩) (by assumption) ?_
                    case hy39 => (intro w hSw; (try dsimp only at hSw); (try simp only [List.getElem_toArray, List.getElem_cons_succ, List.getElem_cons_zero]); go_simp; try with_reducible rfl)
                    try simp only [Act.put, List.getElem_toArray, List.getElem_cons_succ, List.getElem_cons_zero, List.setIfInBounds_toArray, List.set_cons_zero, List.set_cons_succ]
                    refine wpAnyH_ready (rs := [12, 20]) (by kernel_rfl) (by simp) ?_
                    refine AllReadyH.cons (o := _) rfl (fun K hK => ?_) ?_
                    · go_simp
                      refine hK.out _ _ ?_ (fun hHeld => ?_)
                      · ((try dsimp only); first | go_keep | exact k3 | exact k4 | exact ks _)
                      clear hK K
                      try simp only [Act.put, List.getElem_toArray, List.getElem_cons_succ, List.getElem_cons_zero, List.setIfInBounds_toArray, List.set_cons_zero, List.set_cons_succ]
                      refine wpAnyH_ready (rs := [20]) (by kernel_rfl) (by simp) ?_
                      refine AllReadyH.cons (o := _) rfl (fun K hK => ?_) ?_
                      · go_simp
                        refine hK.out _ _ ?_ (fun hHeld => ?_)
                        · ((try dsimp only); first | go_keep | exact k3 | exact k4 | exact ks _)
                        clear hK K
                        try simp only [Act.put, List.getElem_toArray, List.getElem_cons_succ, List.getElem_cons_zero, List.setIfInBounds_toArray, List.set_cons_zero, List.set_cons_succ]
                        refine wpAnyH_ready (rs := [21]) (by kernel_rfl) (by simp) ?_
                        refine AllReadyH.cons (o := _) rfl (fun K hK => ?_) ?_
                        · (refine step_append_lies _ (by rfl) _ _ _ (by rfl) 0 120 i0 _ 3 40 Try.underlying115 hi hz0 hz1 hz2 rfl (by omega) (.slice Af f.l.length cf) f.l.length (rcl f.l) (by rfl) (HO3.out.alloc _) ⟨w3.heap.size, 0, .none⟩ 1 1 [.int .i64 c, .int .i64 (mom21 now), .slice (some ⟨w2.heap.size, 0, .none⟩) 0 0] (by rfl) (by rfl) (World.news_of_block (cs := #[.int .i64 c, .int .i64 (mom21 now), .slice (some ⟨w2.heap.size, 0, .none⟩) 0 0]) (t := 120) (fr := (0, 0)) (heap_alloc_new w3 _)) (by simp [Value.oneCell']) (by omega) (by unfold maxLen; omega) (by omega) (by omega) (w3.heap.size + 1) (by simp) ?_; intro gg cap4 w4 hown4 hgrow4 hat4 hlt4; have hC34 := ((Chg.refl (fun q => (Value.slice Af f.l.length cf).ownBlock = some q) w3).alloc (.cells #[.int .i64 c, .int .i64 (mom21 now), .slice (some ⟨w2.heap.size, 0, .none⟩) 0 0] 120)).grown hgrow4 (fun k hk => .inr hk); have f4 : w4.frozen? ⟨g, o + i * 5 + 4, .none⟩ = false := frozen_blk (hC34.keep (HC3.out.same HF2.out) (fun e => by obtain ⟨cur, hh⟩ := own_blk HO3.out e; exact types_nott hh (HC3.out.same HF2.out) (by decide) rfl)); have e4' : w4.cell? ⟨g, o + i * 5 + 4, .none⟩ = some (.slice Af f.l.length cf) := (by rw [cell_blk (hC34.keep (HC3.out.same HF2.out) (fun e => by obtain ⟨cur, hh⟩ := own_blk HO3.out e; exact types_nott hh (HC3.out.same HF2.out) (by decide) rfl)), ← cell_blk (HC3.out.same HF2.out)]; exact e3); have k4 : w4.cell? ⟨y, 2, .none⟩ = some (.slice (some ⟨g, o, .none⟩) R.L.length cL) := (by rw [cell_blk (hC34.keep (HC3.out.same P1.out.blk) (fun e => by obtain ⟨cur, hh⟩ := own_blk HO3.out e; exact types_nott hh (HC3.out.same P1.out.blk) (by decide) rfl))]; rfl); have ks : ∀ v, (w4.setCell ⟨g, o + i * 5 + 4, .none⟩ v).cell? ⟨y, 2, .none⟩ = some (.slice (some ⟨g, o, .none⟩) R.L.length cL) := (fun v => (World.cell?_of_block (set_other _ (types_nott P1.out.blk HF2.out (by decide)))).trans k4); have HO4 := Lib.hid hown4; have HC34 := Lib.hid hC34; have HAT := Lib.hid hat4; clear hown4 hgrow4 hat4 hC34)
                          refine hK.out _ _ ?_ (fun hHeld => ?_)
                          · ((try dsimp only); first | go_keep | exact k3 | exact k4 | exact ks _)
                          clear hK K
                          try simp only [Act.put, List.getElem_toArray, List.getElem_cons_succ, List.getElem_cons_zero, List.setIfInBounds_toArray, List.set_cons_zero, List.set_cons_succ]
                          refine wpAnyH_take (i := 22) (v := ?v40) rfl (by kernel_rfl) (by kernel_rfl) (by kernel_rfl) (fun _ _ _ h => h) (Or.inl ⟨by rfl, ?hy40⟩) (by assumption) ?_
                          case hy40 => (intro w hSw; (try dsimp only at hSw); (try simp only [List.getElem_toArray, List.getElem_cons_succ, List.getElem_cons_zero]); go_simp; try with_reducible rfl)
                          try simp only [Act.put, List.getElem_toArray, List.getElem_cons_succ, List.getElem_cons_zero, List.setIfInBounds_toArray, List.set_cons_zero, List.set_cons_succ]
                          refine wpAnyH_take (i := 23) (v := ?v41) rfl (by kernel_rfl) (by kernel_rfl) (by kernel_rfl) (fun _ _ _ h => h) (Or.inl ⟨by rfl, ?hy41⟩) (by assumption) ?_
                          case hy41 => (intro w hSw; (try dsimp only at hSw); (try simp only [List.getElem_toArray, List.getElem_cons_succ, List.getElem_cons_zero]); go_simp; try with_reducible rfl)
                          try simp only [Act.put, List.getElem_toArray, List.getElem_cons_succ, List.getElem_cons_zero, List.setIfInBounds_toArray, List.set_cons_zero, List.set_cons_succ]
                          refine wpAnyH_ready (rs := [24]) (by kernel_rfl) (by simp) ?_
                          refine AllReadyH.cons (o := _) rfl (fun K hK => ?_) ?_
                          · go_simp
                            refine hK.out _ _ ?_ (fun hHeld => ?_)
                            · ((try dsimp only); first | go_keep | exact k3 | exact k4 | exact ks _)
                            clear hK K
                            try simp only [Act.put, List.getElem_toArray, List.getElem_cons_succ, List.getElem_cons_zero, List.setIfInBounds_toArray, List.set_cons_zero, List.set_cons_succ]
                            refine wpAnyH_done (by kernel_rfl) ?_ _
                            refine NoPanic.normal ?_
                            go_end0
                            have hcv3 := HCV.out
                            exact sent_fin w y R id i f c now [] w2 w3 w4 g o cL gg cap4 Af cf (.slice (some ⟨w2.heap.size, 0, .none⟩) 0 0) curF P1.out HLV.out hil (by omega) (by omega) hfl (by simp) HOK.out HC3.out hcv3 HO4.out HC34.out HAT.out HF2.out (H.out.apartOf HFI.out) (ChgR.of P2.out HMg.out) E.out (fun i hi => (show w2.heap.size = i by simpa [Value.ownBlock] using hi) ▸ HGV.out)
                          exact AllReadyH.nil
                        exact AllReadyH.nil
                      exact AllReadyH.nil
                    refine AllReadyH.cons (o := _) rfl (fun K hK => ?_) ?_
                    · go_simp
                      refine hK.out _ _ ?_ (fun hHeld => ?_)
                      · ((try dsimp only); first | go_keep | exact k3 | exact k4 | exact ks _)
                      clear hK K
                      try simp only [Act.put, List.getElem_toArray, List.getElem_cons_succ, List.getElem_cons_zero, List.setIfInBounds_toArray, List.set_cons_zero, List.set_cons_succ]
                      refine wpAnyH_ready (rs := [12]) (by kernel_rfl) (by simp) ?_
                      refine AllReadyH.cons (o := _) rfl (fun K hK => ?_) ?_
                      · go_simp
                        refine hK.out _ _ ?_ (fun hHeld => ?_)
                        · ((try dsimp only); first | go_keep | exact k3 | exact k4 | exact ks _)
                        clear hK K
                        try simp only [Act.put, List.getElem_toArray, List.getElem_cons_succ, List.getElem_cons_zero, List.setIfInBounds_toArray, List.set_cons_zero, List.set_cons_succ]
                        refine wpAnyH_ready (rs := [21]) (by kernel_rfl) (by simp) ?_
                        refine AllReadyH.cons (o := _) rfl (fun K hK => ?_) ?_
                        · (refine step_append_lies _ (by rfl) _ _ _ (by rfl) 0 120 i0 _ 3 40 Try.underlying115 hi hz0 hz1 hz2 rfl (by omega) (.slice Af f.l.length cf) f.l.length (rcl f.l) (by rfl) (HO3.out.alloc _) ⟨w3.heap.size, 0, .none⟩ 1 1 [.int .i64 c, .int .i64 (mom21 now), .slice (some ⟨w2.heap.size, 0, .none⟩) 0 0] (by rfl) (by rfl) (World.news_of_block (cs := #[.int .i64 c, .int .i64 (mom21 now), .slice (some ⟨w2.heap.size, 0, .none⟩) 0 0]) (t := 120) (fr := (0, 0)) (heap_alloc_new w3 _)) (by simp [Value.oneCell']) (by omega) (by unfold maxLen; omega) (by omega) (by omega) (w3.heap.size + 1) (by simp) ?_; intro gg cap4 w4 hown4 hgrow4 hat4 hlt4; have hC34 := ((Chg.refl (fun q => (Value.slice Af f.l.length cf).ownBlock = some q) w3).alloc (.cells #[.int .i64 c, .int .i64 (mom21 now), .slice (some ⟨w2.heap.size, 0, .none⟩) 0 0] 120)).grown hgrow4 (fun k hk => .inr hk); have f4 : w4.frozen? ⟨g, o + i * 5 + 4, .none⟩ = false := frozen_blk (hC34.keep (HC3.out.same HF2.out) (fun e => by obtain ⟨cur, hh⟩ := own_blk HO3.out e; exact types_nott hh (HC3.out.same HF2.out) (by decide) rfl)); have e4' : w4.cell? ⟨g, o + i * 5 + 4, .none⟩ = some (.slice Af f.l.length cf) := (by rw [cell_blk (hC34.keep (HC3.out.same HF2.out) (fun e => by obtain ⟨cur, hh⟩ := own_blk HO3.out e; exact types_nott hh (HC3.out.same HF2.out) (by decide) rfl)), ← cell_blk (HC3.out.same HF2.out)]; exact e3); have k4 : w4.cell? ⟨y, 2, .none⟩ = some (.slice (some ⟨g, o, .none⟩) R.L.length cL) := (by rw [cell_blk (hC34.keep (HC3.out.same P1.out.blk) (fun e => by obtain ⟨cur, hh⟩ := own_blk HO3.out e; exact types_nott hh (HC3.out.same P1.out.blk) (by decide) rfl))]; rfl); have ks : ∀ v, (w4.setCell ⟨g, o + i * 5 + 4, .none⟩ v).cell? ⟨y, 2, .none⟩ = some (.slice (some ⟨g, o, .none⟩) R.L.length cL) := (fun v => (World.cell?_of_block (set_other _ (types_nott P1.out.blk HF2.out (by decide)))).trans k4); have HO4 := Lib.hid hown4; have HC34 := Lib.hid hC34; have HAT := Lib.hid hat4; clear hown4 hgrow4 hat4 hC34)
                          refine hK.out _ _ ?_ (fun hHeld => ?_)
                          · ((try dsimp only); first | go_keep | exact k3 | exact k4 | exact ks _)
                          clear hK K
                          try simp only [Act.put, List.getElem_toArray, List.getElem_cons_succ, List.getElem_cons_zero, List.setIfInBounds_toArray, List.set_cons_zero, List.set_cons_succ]
                          refine wpAnyH_take (i := 22) (v := ?v42) rfl (by kernel_rfl) (by kernel_rfl) (by kernel_rfl) (fun _ _ _ h => h) (Or.inl ⟨by rfl, ?hy42⟩) (by assumption) ?_
                          case hy42 => (intro w hSw; (try dsimp only at hSw); (try simp only [List.getElem_toArray, List.getElem_cons_succ, List.getElem_cons_zero]); go_simp; try with_reducible rfl)
                          try simp only [Act.put, List.getElem_toArray, List.getElem_cons_succ, List.getElem_cons_zero, List.setIfInBounds_toArray, List.set_cons_zero, List.set_cons_succ]
                          refine wpAnyH_take (i := 23) (v := ?v43) rfl (by kernel_rfl) (by kernel_rfl) (by kernel_rfl) (fun _ _ _ h => h) (Or.inl ⟨by rfl, ?hy43⟩) (by assumption) ?_
                          case hy43 => (intro w hSw; (try dsimp only at hSw); (try simp only [List.getElem_toArray, List.getElem_cons_succ, List.getElem_cons_zero]); go_simp; try with_reducible rfl)
                          try simp only [Act.put, List.getElem_toArray, List.getElem_cons_succ, List.getElem_cons_zero, List.setIfInBounds_toArray, List.set_cons_zero, List.set_cons_succ]
                          refine wpAnyH_ready (rs := [24]) (by kernel_rfl) (by simp) ?_
                          refine AllReadyH.cons (o := _) rfl (fun K hK => ?_) ?_
                          · go_simp
                            refine hK.out _ _ ?_ (fun hHeld => ?_)
                            · ((try dsimp only); first | go_keep | exact k3 | exact k4 | exact ks _)
                            clear hK K
                            try simp only [Act.put, List.getElem_toArray, List.getElem_cons_succ, List.getElem_cons_zero, List.setIfInBounds_toArray, List.set_cons_zero, List.set_cons_succ]
                            refine wpAnyH_done (by kernel_rfl) ?_ _
                            refine NoPanic.normal ?_
                            go_end0
                            have hcv3 := HCV.out
                            exact sent_fin w y R id i f c now [] w2 w3 w4 g o cL gg cap4 Af cf (.slice (some ⟨w2.heap.size, 0, .none⟩) 0 0) curF P1.out HLV.out hil (by omega) (by omega) hfl (by simp) HOK.out HC3.out hcv3 HO4.out HC34.out HAT.out HF2.out (H.out.apartOf HFI.out) (ChgR.of P2.out HMg.out) E.out (fun i hi => (show w2.heap.size = i by simpa [Value.ownBlock] using hi) ▸ HGV.out)
                          exact AllReadyH.nil
                        exact AllReadyH.nil
                      exact AllReadyH.nil
                    exact AllReadyH.nil
                  exact AllReadyH.nil
                exact AllReadyH.nil
              exact AllReadyH.nil
end Go.Proofs.Ytiijnhgafadokaa
