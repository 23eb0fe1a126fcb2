/-
  The document's window: Below tells what the window's Below tells.
-/
import Derived.Test.YtiijnhgafadokaaRefB
import Derived.Deep.QuietTactic
import Derived.BigQuiet
namespace Go.Proofs.Ytiijnhgafadokaa
open Go.RowKit Wins
set_option linter.unusedVariables false

theorem bel_skip (W : Win) (most : Int) (lo c : Nat) (M : List (Int × Int)) : ∀ d, c ≤ d → (∀ j, c ≤ j → j < d → hasB W (lo + j) = false) → bel W most lo d M = bel W most lo c M
  | 0, h, _ => by obtain rfl : c = 0 := by omega
                  rfl
  | d + 1, h, hb => by
    rcases (by omega : c = d + 1 ∨ c ≤ d) with rfl | hc
    · rfl
    · rw [bel, if_pos (hb d hc (by omega))]
      exact bel_skip W most lo c M d hc fun j h1 h2 => hb j h1 (by omega)
theorem bel_hit0 (W : Win) (most : Int) (lo j : Nat) (h : hasB W (lo + j) = true) :
    bel W most lo (j + 1) [] = if most ≤ 0 then [] else bel W most lo j [(((lo + j : Nat) : Int), ((lo + j : Nat) : Int) + 1)].reverse := by
  rw [bel, if_neg (by rw [h]; decide)]
  simp
theorem bel_hit1 (W : Win) (most : Int) (lo j : Nat) (r : Int × Int) (l : List (Int × Int)) (h : hasB W (lo + j) = true) :
    bel W most lo (j + 1) (r :: l).reverse = if r.1 = ((lo + j : Nat) : Int) + 1 then bel W most lo j ((((lo + j : Nat) : Int), r.2) :: l).reverse
      else if most ≤ (l.length : Int) + 1 then (r :: l).reverse else bel W most lo j ((((lo + j : Nat) : Int), ((lo + j : Nat) : Int) + 1) :: r :: l).reverse := by
  rw [bel, if_neg (by rw [h]; decide)]
  have hl : (r :: l).reverse.getLast? = some r := by simp
  rw [hl]
  simp only [List.reverse_cons]
  have hlen : (l.reverse ++ [r]).length = l.length + 1 := by simp
  rw [hlen]
  have e : (l.reverse ++ [r]).set (l.length + 1 - 1) (((lo + j : Nat) : Int), r.2) = l.reverse ++ [(((lo + j : Nat) : Int), r.2)] := by
    rw [List.set_append_right _ _ (by simp)]; simp
  rw [e]
  by_cases hr : r.1 = ((lo + j : Nat) : Int) + 1
  · rw [if_pos hr, if_pos hr]
  · rw [if_neg hr, if_neg hr]
    by_cases hm : most ≤ (l.length : Int) + 1
    · rw [if_pos hm, if_pos (by omega)]
    · rw [if_neg hm, if_neg (by omega)]
theorem hasR_iff {L : List Int} {x : Int} : hasR L x = true ↔ x ∈ L := by
  unfold hasR; rw [List.any_eq_true]
  exact ⟨fun ⟨y, h, e⟩ => by rw [beq_iff_eq] at e; rwa [← e], fun h => ⟨x, h, by simp⟩⟩
/-- The window and the row know the same numbers. -/
structure Same (W : Win) (L : List Int) : Prop where
  sees : Sees W (hasR L)
  next : (W.next : Int) = topR L + 1
  nodup : L.Nodup
def NInv (L : List Int) (T last nx : Int) (k : Nat) : Prop :=
  (∀ x ∈ L.take k, x < last → T - 1024 < x → x ≤ nx) ∧ (nx = -1 ∨ nx ∈ L ∧ nx < last ∧ T - 1024 < nx)
theorem NInv.zero (L : List Int) (T last : Int) : NInv L T last (-1) 0 := ⟨fun x h => by simp at h, .inl rfl⟩
theorem NInv.skip {L : List Int} {T last nx y : Int} {k : Nat} (h : NInv L T last nx k) (hy : L[k]? = some y) (hs : y < last → T - 1024 < y → y ≤ nx) : NInv L T last nx (k + 1) := by
  refine ⟨fun x hx => ?_, h.2⟩
  rw [List.take_add_one, hy] at hx
  rcases List.mem_append.1 hx with hx | hx
  · exact h.1 x hx
  · simp at hx; subst hx; exact hs
theorem NInv.take {L : List Int} {T last nx y : Int} {k : Nat} (h : NInv L T last nx k) (hy : L[k]? = some y) (h1 : y < last) (h2 : nx < y) (h3 : T - 1024 < y) : NInv L T last y (k + 1) := by
  refine ⟨fun x hx a1 a2 => ?_, .inr ⟨List.mem_of_getElem? hy, h1, h3⟩⟩
  rw [List.take_add_one, hy] at hx
  rcases List.mem_append.1 hx with hx | hx
  · have := h.1 x hx a1 a2; omega
  · simp at hx; omega
theorem scan_none {W : Win} {L : List Int} {d : Nat} {most : Int} (hS : Same W L) (hd : lowest W + d < W.next) (h : NInv L (topR L) ((lowest W + d : Nat) : Int) (-1) L.length) (M : List (Int × Int)) :
    bel W most (lowest W) d M = M := by
  rw [bel_skip W most (lowest W) 0 M d (by omega) fun j _ hj => ?_]
  · rfl
  · have hn := hS.next
    rw [hS.sees.has (by unfold lowest; omega)]
    cases hh : hasR L ((lowest W + j : Nat) : Int) with
    | false => rfl
    | true =>
      have h1 := h.1
      rw [List.take_length] at h1
      have := h1 _ (hasR_iff.1 hh) (by omega) (by unfold lowest at *; omega)
      omega
theorem scan_some {W : Win} {L : List Int} {d : Nat} {most nx : Int} (hS : Same W L) (hL : Small L) (hd : lowest W + d < W.next) (h : NInv L (topR L) ((lowest W + d : Nat) : Int) nx L.length) (h0 : nx ≠ -1) :
    ∃ j, j < d ∧ nx = ((lowest W + j : Nat) : Int) ∧ hasB W (lowest W + j) = true ∧ ∀ M, bel W most (lowest W) d M = bel W most (lowest W) (j + 1) M := by
  have hn := hS.next
  obtain ⟨hm, h1, h2⟩ : nx ∈ L ∧ nx < ((lowest W + d : Nat) : Int) ∧ topR L - 1024 < nx := by rcases h.2 with e | e; exact absurd e h0; exact e
  have hnn := (hL.1 nx hm).1
  obtain ⟨j, rfl⟩ : ∃ j : Nat, nx = ((lowest W + j : Nat) : Int) := ⟨(nx - lowest W).toNat, by unfold lowest at *; omega⟩
  refine ⟨j, by omega, rfl, ?_, fun M => ?_⟩
  · rw [hS.sees.has (by unfold lowest; omega), hasR_iff]; exact hm
  · rw [bel_skip W most (lowest W) (j + 1) M d (by omega) fun i hi hid => ?_]
    rw [hS.sees.has (by unfold lowest; omega)]
    cases hh : hasR L ((lowest W + i : Nat) : Int) with
    | false => rfl
    | true =>
      have h1 := h.1
      rw [List.take_length] at h1
      have := h1 _ (hasR_iff.1 hh) (by omega) (by unfold lowest at *; omega)
      omega

theorem rtop_q (b : Nat) (v : Value) (L : List Int) (T : Int) (w : World) (n : Nat) (h : RefAt w b v L) (hT : Hid (T = topR L)) :
    Calls Try.prog 37 #[.pointer (some ⟨b, 0, none⟩)] (w.drewN n) fun e w'' => e = .returned (.int .i64 T) ∧ ∃ m, w'' = w.drewN m :=
  Calls.quiet_of_same ((rtop_any b v L _ (h.chg ((Chg.refl Nowhere _).drewN n) (fun _ _ => not_nowhere _))).mono fun e w' hh => ⟨by rw [hT.out]; exact hh.1, hh.2.symm⟩)

set_option maxHeartbeats 3200000 in
set_option maxRecDepth 100000 in
theorem rbelow_any (b : Nat) (most : Int) (v : Value) (L : List Int) (W : Win) (w : World) (h : RefAt w b v L) (hS : Same W L) :
    Calls Try.prog 39 #[.pointer (some ⟨b, 0, none⟩), .int .i64 most] w (BelowTo w (below W most)) := by
  obtain ⟨i0, hi, hz0, hz1, hz2⟩ := info_parts infoRange
  have hs := h.small.2
  have t1 := topR_le h.small.1
  have t2 := topR_ge L
  have H := Lib.hid h
  have HS := Lib.hid hS
  obtain ⟨A, cp, rfl, hA⟩ := h.read
  have HA := Lib.hid hA
  have hnx := hS.next
  clear hA h hS
  obtain ⟨T, hT⟩ : ∃ T, T = topR L := ⟨_, rfl⟩
  rw [← hT] at t1 t2 hnx
  have HT := Lib.hid hT
  have W1 : IntKind.i64.wrap (T - 1024) = T - 1024 := wrap_i64 (by omega)
  clear hT
  have c0 := H.out.cell
  go_enter Try.func39, Try.ntmps39
  go_wp2_with fail
  refine (rtop_any _ _ _ _ H.out).mono ?_
  rw [← HT.out]
  rintro e w' ⟨rfl, rfl⟩
  by_cases hL0 : L.length = 0
  · obtain rfl : L = [] := List.length_eq_zero_iff.1 hL0
    have hw : W.next = 0 := by have := HT.out; rw [topR_nil] at this; omega
    have HB := Lib.hid (show below W most = [] by unfold below lowest; rw [hw]; rfl)
    go_wp2_with fail
    go_loopw [5, 6] (fun l t wr => l = .slice none 0 0 ∧ wr = w) (fun _ _ _ => 0)
    case atStart => exact ⟨rfl, rfl⟩
    case round =>
      obtain ⟨rfl, rfl⟩ := hrel
      go_wp2_with fail
      go_ret
      rw [HB.out]
      exact ⟨_, rfl, World.ownsRow_nil _ _ _ _, Chg.refl _ _⟩
  · obtain ⟨g, rfl, hg, hcell⟩ := HA.out (by omega)
    have HCL := Lib.hid hcell
    clear hcell HA
    have hbl := lt_blk H.out.blk
    obtain ⟨d0, hd0⟩ : ∃ d0 : Nat, T = ((lowest W + d0 : Nat) : Int) ∧ lowest W + d0 + 1 = W.next ∧ d0 < 1024 := by
      have : T ≠ -1 := by
        intro e
        obtain ⟨y, hy⟩ : ∃ y, L[0]? = some y := ⟨_, List.getElem?_eq_getElem (by omega)⟩
        have h1 := topR_max (List.mem_of_getElem? hy)
        have h2 := (H.out.small.1 y (List.mem_of_getElem? hy)).1
        rw [← HT.out] at h1
        omega
      exact ⟨W.next - 1 - lowest W, by unfold lowest; omega, by unfold lowest; omega, by unfold lowest; omega⟩
    obtain ⟨hdT, hd1, hd2⟩ := hd0
    have hn1 : (W.next : Int) ≤ T + 1 := by omega
    have hn2 : T + 1 ≤ (W.next : Int) := by omega
    have hda : lowest W + d0 + 1 ≤ W.next := by omega
    have hdb : W.next ≤ lowest W + d0 + 1 := by omega
    have HDT := Lib.hid hdT
    clear hdT hd1 hnx
    obtain ⟨F, hF⟩ : ∃ F, F = bel W most (lowest W) d0 [].reverse := ⟨_, rfl⟩
    have EF := Lib.hid (show below W most = F.reverse by
      rw [below, hF]
      have : W.next - 1 - lowest W = d0 := by omega
      rw [this]; rfl)
    have HF := Lib.hid hF
    clear hF
    go_wp2_with fail
    go_loopw [5, 6] (fun q t wr => ∃ (d : Nat) (l : List (Int × Int)) (x : Int), t = .int .i64 x ∧ x = ((lowest W + d : Nat) : Int) ∧ d ≤ d0 ∧ bel W most (lowest W) d l.reverse = F ∧ l.length + d ≤ 1024 ∧ wr.ownsRow w.heap.size 49 2 q l.length (flat l) ∧ Chg Nowhere w wr) (fun _ t _ => (intOf t - lowest W).toNat)
    case atStart => exact ⟨d0, [], _, rfl, HDT.out, by omega, HF.out.symm, by simp; omega, World.ownsRow_nil _ _ _ _, Chg.refl _ _⟩
    case round => as_aux_lemma =>
      obtain ⟨d, l, x, rfl, hx, hdd, hbel, hlen, hO, hC⟩ := hrel
      have HO := Lib.hid hO
      have HC := Lib.hid hC
      have HB := Lib.hid hbel
      have c1 := (H.out.chg hC (fun _ _ => not_nowhere _)).cell
      obtain ⟨-, A1, cap1, rfl, -, -⟩ := Rd.of_owns hO
      have X := Lib.hid hx
      have hx0 : 0 ≤ x := by omega
      have hxl : (lowest W : Int) ≤ x := by omega
      have hx1 : x ≤ 281474976710656 := by omega
      clear hbel hO hC hx
      go_wp2_with fail
      go_loopw [7, 8] (fun n i wq => ∃ (k : Nat) (nx : Int), k ≤ L.length ∧ i = .int .i64 k ∧ n = .int .i64 nx ∧ -1 ≤ nx ∧ nx ≤ 281474976710656 ∧ Hid (NInv L T x nx k) ∧ Chg Nowhere wr wq) (fun _ i _ => 1000 - (intOf i).toNat)
      case atStart => exact ⟨0, -1, by omega, rfl, rfl, by omega, by omega, Lib.hid (NInv.zero _ _ _), Chg.refl _ _⟩
      case round => as_aux_lemma =>
        obtain ⟨k, nx, hk, rfl, rfl, hn1, hn2, hI, hC⟩ := hrel
        have HCQ := Lib.hid hC
        have HRQ := Lib.hid (H.out.chg (HC.out.trans' hC) (fun _ _ => not_nowhere _))
        have cq := HRQ.out.cell
        by_cases hk2 : k < L.length
        · obtain ⟨y, hy⟩ : ∃ y, L[k]? = some y := ⟨_, List.getElem?_eq_getElem hk2⟩
          have c2 := ((HC.out.trans' hC).cell (p := ⟨g, k, none⟩) hg (not_nowhere _)).trans (HCL.out _ _ hy)
          have hy2 := (H.out.small.1 y (List.mem_of_getElem? hy)).2
          have HY := Lib.hid hy
          clear hy hC
          by_cases a1 : y < x
          · by_cases a2 : nx < y
            · by_cases a3 : T - 1024 < y
              · have E := Lib.hid (hI.out.take HY.out a1 a2 a3)
                go_wp2_with fail
                go_quiet ((go_at_call 37; exact rtop_q _ _ _ _ _ _ HRQ.out HT))
                all_goals
                  try rw [W1]
                  go_wp2_with fail
                  go_roundw
                  case rel => exact ⟨k + 1, y, by omega, by go_num, rfl, by omega, by omega, E, HCQ.out.drewN _⟩
                  case measure => simp [intOf]; omega
              · have E := Lib.hid (hI.out.skip HY.out (fun _ h => absurd h a3))
                have hd : decide (T - 1024 < y) = false := by simpa using a3
                have hd2 : decide (IntKind.i64.wrap (T - 1024) < y) = false := by rw [W1]; exact hd
                clear a3
                go_wp2_with fail
                go_quiet ((go_at_call 37; exact rtop_q _ _ _ _ _ _ HRQ.out HT))
                all_goals
                  try rw [W1]
                  go_wp2_with fail
                  go_roundw
                  case rel => exact ⟨k + 1, nx, by omega, by go_num, rfl, by omega, by omega, E, HCQ.out.drewN _⟩
                  case measure => simp [intOf]; omega
            · have E := Lib.hid (hI.out.skip HY.out (fun _ _ => by omega))
              have hd : decide (nx < y) = false := by simpa using a2
              clear a2
              go_wp2_with fail
              go_quiet (fail)
              all_goals
                go_wp2_with fail
                go_roundw
                case rel => exact ⟨k + 1, nx, by omega, by go_num, rfl, by omega, by omega, E, HCQ.out.drewN _⟩
                case measure => simp [intOf]; omega
          · have E := Lib.hid (hI.out.skip HY.out (fun h => absurd h a1))
            have hd : decide (y < x) = false := by simpa using a1
            clear a1
            go_wp2_with fail
            go_quiet (fail)
            all_goals
              go_wp2_with fail
              go_roundw
              case rel => exact ⟨k + 1, nx, by omega, by go_num, rfl, by omega, by omega, E, HCQ.out.drewN _⟩
              case measure => simp [intOf]; omega
        · obtain rfl : k = L.length := by omega
          replace HO := Lib.hid (owns_chg HO.out hC (fun _ _ => not_nowhere _))
          replace HC := Lib.hid (HC.out.trans' hC)
          have hI2 := hI.out
          rw [X.out, HT.out] at hI2
          clear hC HCQ hI
          by_cases hnn : nx = -1
          · subst hnn
            have HFL := Lib.hid (show l.reverse = F by rw [← HB.out]; exact (scan_none HS.out (by omega) hI2 _).symm)
            have Q := Lib.hid (show below W most = l by rw [EF.out, ← HFL.out, List.reverse_reverse])
            clear hI2
            go_wp2_with fail
            go_ret
            exact ⟨_, rfl, by rw [Q.out]; exact HO.out, HC.out⟩
          · obtain ⟨j, hj, hnj, hh, hb⟩ := scan_some (most := most) HS.out H.out.small (by omega) hI2 hnn
            have hb2 := HB.out
            rw [hb] at hb2
            have NJ := Lib.hid hnj
            clear hb hI2 hnn
            have hnn : 0 ≤ nx := by omega
            have hnl2 : (lowest W : Int) ≤ nx := by omega
            have hnl : nx < x := by have := X.out; omega
            clear hnj
            rcases l with _ | ⟨r, l0⟩
            · rw [List.reverse_nil, bel_hit0 _ _ _ _ hh, ← NJ.out] at hb2
              by_cases hm : most ≤ 0
              · rw [if_pos hm] at hb2
                have Q := Lib.hid (show below W most = [] by rw [EF.out, ← hb2]; rfl)
                clear hb2 hh
                go_wp2_with fail
                go_ret
                exact ⟨_, rfl, by rw [Q.out]; exact HO.out, HC.out⟩
              · rw [if_neg hm] at hb2
                have HB2 := Lib.hid hb2
                have hsz := HC.out.size
                have hO1 := Lib.hid (World.ownsRow_lit (base := w.heap.size) (e := 49) (size := 2) wr #[.int .i64 nx, .int .i64 (nx + 1)] 1 hsz (by unfold maxLen; omega) rfl)
                clear hb2 hh
                rcases HO.out.2 with ⟨hv, _⟩ | ⟨g', cap', cur', hv, hgb, hgh, _, _, _, _⟩
                · obtain ⟨rfl, hcp⟩ : A1 = none ∧ cap1 = 0 := by simpa using hv
                  subst hcp
                  clear hv
                  go_wp2_with (at_builtin; refine wpList_append_own_none rfl _ _ 45 rfl w.heap.size 49 i0 2 Try.underlying45 hi _ 1 [.int .i64 nx, .int .i64 (nx + 1)] rfl hO1.out rfl ?_)
                  go_roundw
                  case rel => exact ⟨j, [(nx, nx + 1)], nx, rfl, NJ.out, by omega, by rw [NJ.out] at HB2 ⊢; exact HB2.out, by simp at hlen ⊢; omega, hO1.out, HC.out.alloc _⟩
                  case measure => simp [intOf]; omega
                · obtain ⟨rfl, rfl⟩ : A1 = some ⟨g', 0, none⟩ ∧ cap1 = cap' := by simpa using hv
                  clear hv
                  go_wp2_with fail
                  go_roundw
                  case rel => exact ⟨j, [(nx, nx + 1)], nx, rfl, NJ.out, by omega, by rw [NJ.out] at HB2 ⊢; exact HB2.out, by simp at hlen ⊢; omega, hO1.out, HC.out.alloc _⟩
                  case measure => simp [intOf]; omega
            · rw [bel_hit1 _ _ _ _ _ _ hh, ← NJ.out] at hb2
              rcases HO.out.2 with ⟨_, h0⟩ | ⟨g', cap', cur', hv, hgb, hgh, _, _, _, _⟩
              · exact absurd h0 (by simp)
              · obtain ⟨rfl, rfl⟩ : A1 = some ⟨g', 0, none⟩ ∧ cap1 = cap' := by simpa using hv
                have hcell := (HO.out.cellAt 0 (by simp)).trans (show (flat (r :: l0))[0]? = some (.int .i64 r.1) from rfl)
                have hfz := HO.out.frozenAt 0
                have hsz := HC.out.size
                clear hv
                simp only [List.length_cons] at hlen
                by_cases hr1 : r.1 = nx + 1
                · rw [if_pos hr1] at hb2
                  have tt : (r.1 == nx + 1) = true := by simp [hr1]
                  have hst := (HO.out.stored 0 (.int .i64 nx)).1
                  have HST := Lib.hid (show _ from hst)
                  have HB2 := Lib.hid hb2
                  clear hb2 hh hr1 hst
                  go_wp2_with fail
                  go_roundw
                  case rel => exact ⟨j, (nx, r.2) :: l0, nx, rfl, NJ.out, by omega, by rw [NJ.out] at HB2 ⊢; exact HB2.out, by simp; omega, HST.out, HC.out.put (.inr hgb)⟩
                  case measure => simp [intOf]; omega
                · rw [if_neg hr1] at hb2
                  have tt : (r.1 == nx + 1) = false := by simpa using hr1
                  clear hr1
                  by_cases hm : most ≤ (l0.length : Int) + 1
                  · rw [if_pos hm] at hb2
                    have Q := Lib.hid (show below W most = r :: l0 by rw [EF.out, ← hb2, List.reverse_reverse])
                    clear hb2 hh
                    go_wp2_with fail
                    go_ret
                    exact ⟨_, rfl, by rw [Q.out]; exact HO.out, HC.out⟩
                  · rw [if_neg hm] at hb2
                    have HB2 := Lib.hid hb2
                    have hO1 := Lib.hid (World.ownsRow_lit (base := w.heap.size) (e := 49) (size := 2) wr #[.int .i64 nx, .int .i64 (nx + 1)] 1 hsz (by unfold maxLen; omega) rfl)
                    have hcl := Lib.hid ((HO.out.alloc (.cells #[.int .i64 nx, .int .i64 (nx + 1)] 49)).cells (g := g') rfl)
                    have hones : ∀ y ∈ flat (r :: l0), y.oneCell' = true := by
                      intro y hy
                      obtain ⟨q, _, hq⟩ := List.mem_flatMap.1 hy
                      simp [rcells] at hq
                      rcases hq with rfl | rfl <;> rfl
                    have hfl := flat_len (r :: l0)
                    clear hb2 hh
                    go_wp2_with (at_builtin; refine wpList_append_own _ rfl _ _ 45 rfl w.heap.size 49 i0 (.agg #[.int .i64 0, .int .i64 0]) 2 16 Try.underlying45 hi hz0 hz1 hz2 rfl (by decide) (.slice (some ⟨wr.heap.size, 0, none⟩) 1 1) 1 [.int .i64 nx, .int .i64 (nx + 1)] rfl hO1.out ⟨g', 0, none⟩ (l0.length + 1) cap1 (flat (r :: l0)) rfl hfl hcl.out hones (by unfold maxLen; omega) (by omega) (by simp; try omega) ?_; intro v' w3 hown' hgrow3 hnil3; have HC3 := Lib.hid ((HC.out.alloc _).grown hgrow3 (fun k hk => .inl (by obtain rfl : wr.heap.size = k := (by simpa [Value.ownBlock] using hk); exact hsz))); have HO3 := Lib.hid hown'; clear hown' hgrow3 hnil3)
                    go_roundw
                    case rel => exact ⟨j, (nx, nx + 1) :: r :: l0, nx, rfl, NJ.out, by omega, by rw [NJ.out] at HB2 ⊢; exact HB2.out, by simp; omega, by rw [List.length_cons, List.length_cons, Nat.add_comm]; exact HO3.out, HC3.out⟩
                    case measure => simp [intOf]; omega
end Go.Proofs.Ytiijnhgafadokaa
