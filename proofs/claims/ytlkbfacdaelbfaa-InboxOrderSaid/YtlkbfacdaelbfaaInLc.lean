/-
  InboxOrder: the walk.
-/
import Derived.Test.YtlkbfacdaelbfaaInLa
namespace Go.Proofs.Ytlkbfacdaelbfaa
open Go.RowKit Go.Deep Ae
set_option linter.unusedVariables false
set_option linter.unusedSimpArgs false

theorem sb_append (l m : List Nat) : sb (l ++ m) = sb l ++ sb m := by
  apply ByteArray.ext
  apply Array.ext'
  simp [sb, strOfNums_data]
theorem sb_size (l : List Nat) : (sb l).size = l.length := by
  show (sb l).data.size = _
  rw [← Array.length_toList]
  simp [sb, strOfNums_data]
/-- What the law knows of the inbox: of the text so much was read, and what is there is the text's. -/
structure Ord19 (w0 : World) (F : Nat → Prop) (wr : World) (o : Nat) (lb : List Nat) (x : In) : Prop where
  s : InS w0 F wr o x
  size : x.size = 1000
  sub : ∀ n : Int, Ra.mem x.L n → n < lb.length
  byte : ∀ n : Int, (x.done : Int) ≤ n → Ra.mem x.L n → x.byte n = lb.getD n.toNat 0
theorem Ord19.idle {w0 wr w' : World} {F : Nat → Prop} {o : Nat} {lb : List Nat} {x : In} (h : Ord19 w0 F wr o lb x) (hc : Chg Nowhere wr w') : Ord19 w0 F w' o lb x := ⟨h.s.idle hc, h.size, h.sub, h.byte⟩
theorem Ord19.le {w0 wr : World} {F : Nat → Prop} {o : Nat} {lb : List Nat} {x : In} (h : Ord19 w0 F wr o lb x) : x.done ≤ lb.length := by
  by_cases h0 : x.done = 0
  · omega
  · have := h.sub _ (h.s.ok.low (x.done - 1) (by omega) (by omega))
    omega
/-- A piece is taken. -/
theorem Ord19.put {w0 wr w' : World} {F F' : Nat → Prop} {o : Nat} {lb : List Nat} {x x' : In} {a n : Nat} (h : Ord19 w0 F wr o lb x) (han : a + n ≤ lb.length) (hp : x.Put x' (x.lo (a : Int)) (x.hi (a : Int) ((lb.drop a).take n).length) (fun m => ((lb.drop a).take n).getD (m - (a : Int)).toNat 0)) (h2 : InS w0 F' w' o x') : Ord19 w0 F' w' o lb x' := by
  have hl : ((lb.drop a).take n).length = n := List.length_take_of_le (by rw [List.length_drop]; omega)
  rw [hl] at hp
  have hle := h.le
  have hhi : x.hi (a : Int) n ≤ a + n ∨ x.hi (a : Int) n = x.done := by unfold In.hi; split <;> omega
  have hlo : (a : Int) ≤ x.lo (a : Int) ∨ x.lo (a : Int) = x.done ∧ x.hi (a : Int) n = x.done := by unfold In.hi In.lo; split <;> omega
  have hld := x.lo_ge (a : Int)
  refine ⟨h2, by rw [hp.size]; exact h.size, fun m hm => ?_, fun m h1 hm => ?_⟩
  · rcases (hp.has m).1 hm with h3 | h3
    · exact h.sub m h3
    · omega
  · rw [hp.done] at h1
    by_cases hx : Ra.mem x.L m
    · rw [hp.old m h1 hx]; exact h.byte m h1 hx
    · rcases (hp.has m).1 hm with h3 | h3
      · exact absurd h3 hx
      · rw [hp.new m h1 hx h3.1 h3.2]
        show ((lb.drop a).take n).getD (m - (a : Int)).toNat 0 = _
        rw [List.getD_eq_getElem?_getD, List.getD_eq_getElem?_getD, List.getElem?_take_of_lt (by omega), List.getElem?_drop]
        congr 2
        omega
/-- What is read is the text's next. -/
theorem Ord19.read {w0 wr w' : World} {F F' : Nat → Prop} {o : Nat} {lb : List Nat} {x : In} {n : Nat} {y : Int} (h : Ord19 w0 F wr o lb x) (hy : NextIs x.L x.done y) (hn : (n : Int) ≤ y - x.done) (h2 : InS w0 F' w' o (x.read n)) : Ord19 w0 F' w' o lb (x.read n) ∧ lb.take x.done ++ x.bs.take n = lb.take (x.read n).done := by
  have hh := h.s.ok.here hy
  refine ⟨⟨h2, h.size, h.sub, fun m h1 hm => ?_⟩, ?_⟩
  · have h3 : ((x.done + n : Nat) : Int) ≤ m := h1
    rw [In.read_byte x n (by omega)]
    exact h.byte m (by omega) hm
  · show _ = lb.take (x.done + n)
    have hle := h.le
    have hyl : y ≤ lb.length := by
      by_cases h0 : y = x.done
      · omega
      · have := h.sub _ (hy.all (y - 1) (by omega) (by omega)); omega
    apply List.ext_getElem?
    intro i
    by_cases hi : i < x.done
    · rw [List.getElem?_append_left (by rw [List.length_take]; omega), List.getElem?_take_of_lt hi, List.getElem?_take_of_lt (by omega)]
    · have hlt : (lb.take x.done).length = x.done := List.length_take_of_le (by omega)
      rw [List.getElem?_append_right (by omega), hlt]
      by_cases hi2 : i < x.done + n
      · rw [List.getElem?_take_of_lt (by omega), List.getElem?_take_of_lt hi2]
        have := h.byte i (by omega) (hy.all i (by omega) (by omega))
        simp only [In.byte, show ((i : Int) - (x.done : Int)).toNat = i - x.done by omega, Int.toNat_natCast] at this
        rw [List.getD_eq_getElem?_getD, List.getD_eq_getElem?_getD, List.getElem?_eq_getElem (by omega : i - x.done < x.bs.length), List.getElem?_eq_getElem (by omega : i < lb.length)] at this
        simp only [Option.getD_some] at this
        rw [List.getElem?_eq_getElem (by omega : i - x.done < x.bs.length), List.getElem?_eq_getElem (by omega : i < lb.length), this]
      · rw [List.getElem?_eq_none (by rw [List.length_take]; omega), List.getElem?_eq_none (by rw [List.length_take]; omega)]
/-- Behind the whole text: all of it is there. -/
theorem Ord19.full {w0 wr : World} {F : Nat → Prop} {o : Nat} {lb : List Nat} {x : In} (h : Ord19 w0 F wr o lb x) (ha : ∀ n : Int, (x.done : Int) ≤ n → n < lb.length → Ra.mem x.L n) : NextIs x.L x.done lb.length := by
  have := h.le
  exact ⟨by omega, fun hm => by have := h.sub _ hm; omega, fun y h1 h2 => ha y (by omega) h2, .inr (by
    have := h.s.ok.s2
    have h4 := h.s.ok.len
    unfold Ra.M
    by_cases h0 : lb.length = x.done
    · rcases Nat.eq_zero_or_pos x.done with h5 | h5
      · omega
      · have := (h.s.ok.good.mem_bounds (h.s.ok.low (x.done - 1) (by omega) (by omega))).2
        unfold Ra.M at this
        omega
    · have := (h.s.ok.good.mem_bounds (ha ((lb.length : Int) - 1) (by omega) (by omega))).2
      unfold Ra.M at this
      omega)⟩
theorem Ord19.end_ {w0 wr : World} {F : Nat → Prop} {o : Nat} {lb : List Nat} {x : In} (h : Ord19 w0 F wr o lb x) (hd : x.done = lb.length) : Ra.total x.L - (x.done : Int) = 0 ∧ ∀ y, NextIs x.L x.done y → x.beyond y = [] := by
  constructor
  · rw [h.s.ok.total, Ra.cnt_none fun i h1 _ => (Ra.hs_false _ _).2 fun hm => by have := h.sub _ hm; omega]
    omega
  · intro y hy
    have hge := hy.ge
    rw [In.beyond, List.filter_eq_nil_iff.2, List.take_nil]
    intro r hr
    have hg := h.s.ok.good.row r hr
    have := h.sub r.1 ⟨r, hr, by omega, by omega⟩
    simp [lowR]
    omega
set_option maxHeartbeats 8000000 in
set_option maxRecDepth 100000 in
theorem inboxOrder_walk (B : Option Addr) (cb : Nat) (lb0 : List Nat) (s1 s2 : Option Addr) (cap1 cap2 : Nat) (fr ln : List Int) (w : World) (hb : RdB w (.slice B lb0.length cb) lb0) (hby0 : Byt lb0) (hlm : lb0.length ≤ cb) (hcm : cb ≤ maxLen) (h1 : IntsAt w s1 cap1 fr) (h2 : IntsAt w s2 cap2 ln) (hf : ∀ z ∈ fr, -9223372036854775808 ≤ z ∧ z ≤ 9223372036854775807) (hl : ∀ z ∈ ln, -9223372036854775808 ≤ z ∧ z ≤ 9223372036854775807) :
    Calls Try.prog 6 #[.slice B lb0.length cb, .slice s1 fr.length cap1, .slice s2 ln.length cap2] w (Gives w (.bool true)) := by
  have HF := Lib.hid h1
  have HG := Lib.hid h2
  have HFI := Lib.hid hf
  have HGI := Lib.hid hl
  have hb1 : (fr.length : Int) ≤ 9223372036854775807 := by have := h1.fits; have := h1.small; unfold maxLen at this; omega
  have hb2 : (ln.length : Int) ≤ 9223372036854775807 := by have := h2.fits; have := h2.small; unfold maxLen at this; omega
  have hb3 : (lb0.length : Int) ≤ 9223372036854775807 := by unfold maxLen at hcm; omega
  obtain ⟨M1, hM1⟩ : ∃ N, N = fr.length := ⟨_, rfl⟩
  obtain ⟨M2, hM2⟩ : ∃ N, N = ln.length := ⟨_, rfl⟩
  obtain ⟨n0, hn0⟩ : ∃ N, N = lb0.length := ⟨_, rfl⟩
  have HB0 := Lib.hid hb
  rw [← hM1, ← hM2, ← hn0]
  rw [← hM1] at hb1
  rw [← hM2] at hb2
  rw [← hn0] at hb3 hlm HB0
  have HM1 := Lib.hid hM1
  have HM2 := Lib.hid hM2
  have HN0 := Lib.hid hn0
  have HBY0 := Lib.hid hby0
  clear h1 h2 hf hl hM1 hM2 hn0 hb hby0 hcm
  by_cases hbig : 1000 < n0
  · have hbi : (1000 : Int) < (n0 : Int) := by omega
    have hbd : decide ((1000 : Int) < (n0 : Int)) = true := decide_eq_true hbi
    have hcb1 : 1000 ≤ cb := by omega
    have hcb2 : (1000 : Int) ≤ (cb : Int) := by omega
    go_enter Try.func6, Try.ntmps6
    go_upto_region 4 with (first
      | (go_at_call 34; refine (shown19_any w).mono ?_; rintro e w1 ⟨rfl, h1⟩; have H1 := Lib.hid h1; clear h1))
    obtain ⟨nb, hnb⟩ : ∃ nb, nb = 1000 := ⟨_, rfl⟩
    obtain ⟨lb, hlb⟩ : ∃ lb, lb = lb0.take 1000 := ⟨_, rfl⟩
    have hlbl : lb.length = nb := by rw [hlb, hnb]; exact List.length_take_of_le (by rw [← HN0.out]; omega)
    have hby : Byt lb := by rw [hlb]; exact HBY0.out.take _
    have hrd : RdB w (.slice B nb cb) lb := by rw [hlb, hnb]; exact HB0.out.takeS (by rw [← HN0.out]; omega)
    have hcbn : nb ≤ cb := by omega
    have hnbl : nb ≤ 1000 := by omega
    rw [← hnb]
    clear hnb hlb hbig hbi hbd hcb1 hcb2 hlm hb3
    have HLB := Lib.hid hlbl
    have HBY := Lib.hid hby
    have HRD := Lib.hid hrd
    have hncb := hcbn
    clear hlbl hby hrd hcbn
    go_upto_region 8 with (first
      | (go_at_call 35; refine (InS.new_ w _ H1.out 1000 1000 (by decide)).mono ?_; rintro e w2 ⟨o, F, rfl, h1, -, -⟩; have HX0 := Lib.hid (show Ord19 w F w2 o lb (In.start 1000) from ⟨h1, rfl, fun n hn => absurd hn (Ra.mem_nil n), fun n _ hn => absurd hn (Ra.mem_nil n)⟩); clear h1))
    go_wp2_with fail
    go_loopw [9, 10] (fun ov i wr => ∃ (k : Nat) (x : In) (F : Nat → Prop), i = .int .i64 (k : Int) ∧ ov = .string (sb (lb.take x.done)) ∧ k ≤ 60 ∧ Hid (Ord19 w F wr o lb x)) (fun _ i _ => 60 - (intOf i).toNat)
    case atStart => exact ⟨0, _, F, rfl, rfl, by omega, HX0⟩
    case round =>
      obtain ⟨k, x, F, rfl, rfl, hk, HX⟩ := hrel
      obtain ⟨so, hso⟩ : ∃ so, so = sb (lb.take x.done) := ⟨_, rfl⟩
      rw [← hso]
      have HSO := Lib.hid hso
      clear hso
      have HDL := Lib.hid (show x.done ≤ 1000 by have := HX.out.le; have := HLB.out; omega)
      go_upto_region 9 with fail
      go_cut [44] (fun t wx => (∃ q : Bool, t = .bool q ∧ (q = true → k < M1 ∧ k < M2 ∧ k < 60 ∧ 0 < nb)) ∧ wx = wr)
      case first =>
        by_cases h1 : k < M1
        · have a1 : (k : Int) < (M1 : Int) := by omega
          by_cases h2 : k < M2
          · have a2 : (k : Int) < (M2 : Int) := by omega
            by_cases h3 : k < 60
            · have a3 : (k : Int) < 60 := by omega
              by_cases h4 : 0 < nb
              · have a4 : (0 : Int) < (nb : Int) := by omega
                go_wp2_with fail
                go_meet
                exact ⟨⟨_, rfl, fun _ => ⟨h1, h2, h3, h4⟩⟩, rfl⟩
              · have a4 : ¬ ((0 : Int) < (nb : Int)) := by omega
                go_wp2_with fail
                go_meet
                exact ⟨⟨_, rfl, fun h => by simp at h⟩, rfl⟩
            · have a3 : ¬ ((k : Int) < 60) := by omega
              go_wp2_with fail
              go_meet
              exact ⟨⟨_, rfl, fun h => by simp at h⟩, rfl⟩
          · have a2 : ¬ ((k : Int) < (M2 : Int)) := by omega
            go_wp2_with fail
            go_meet
            exact ⟨⟨_, rfl, fun h => by simp at h⟩, rfl⟩
        · have a1 : ¬ ((k : Int) < (M1 : Int)) := by omega
          go_wp2_with fail
          go_meet
          exact ⟨⟨_, rfl, fun h => by simp at h⟩, rfl⟩
      case rest =>
        obtain ⟨⟨q, rfl, hq⟩, rfl⟩ := hcut
        cases q with
        | true =>
          obtain ⟨h1, h2, h3, h4⟩ := hq rfl
          clear hq
          obtain ⟨g1, o1, rfl, hg1, hx1⟩ := HF.out.cells (by rw [← HM1.out]; omega)
          obtain ⟨g2, o2, rfl, hg2, hx2⟩ := HG.out.cells (by rw [← HM2.out]; omega)
          obtain ⟨z1, hz1⟩ : ∃ z, fr[k]? = some z := ⟨_, List.getElem?_eq_getElem (by rw [← HM1.out]; exact h1)⟩
          obtain ⟨z2, hz2⟩ : ∃ z, ln[k]? = some z := ⟨_, List.getElem?_eq_getElem (by rw [← HM2.out]; exact h2)⟩
          have c1 : wc.cell? ⟨g1, o1 + k, none⟩ = some (.int .i64 z1) := (HX.out.s.chg.cell (p := ⟨g1, o1 + k, none⟩) hg1 (not_nowhere _)).trans (hx1 _ _ hz1)
          have c2 : wc.cell? ⟨g2, o2 + k, none⟩ = some (.int .i64 z2) := (HX.out.s.chg.cell (p := ⟨g2, o2 + k, none⟩) hg2 (not_nowhere _)).trans (hx2 _ _ hz2)
          have Z1 := Lib.hid (HFI.out z1 (List.mem_of_getElem? hz1))
          have Z2 := Lib.hid (HGI.out z2 (List.mem_of_getElem? hz2))
          have a1 : (k : Int) < (M1 : Int) := by omega
          have a2 : (k : Int) < (M2 : Int) := by omega
          clear hx1 hx2 hz1 hz2
          go_upto_region 12 with (go_at_call 36; refine (kind19_any z1 nb _ Z1.out (by omega) (by omega)).mono ?_; rintro e w6 ⟨a, ha, rfl, rfl⟩)
          obtain ⟨p, hp⟩ : ∃ p : Nat, (nb : Int) - (a : Int) = (p : Int) := ⟨nb - a, by omega⟩
          have HKI := Lib.hid (show Calls Try.prog 36 #[.int .i64 z2, .int .i64 ((p : Int) + 1)] wc (Kind19To (p + 1) wc) from by have := kind19_any z2 (p + 1) wc Z2.out (by omega) (by omega); push_cast at this; exact this)
          go_upto_region 13 with (go_at_call 36; refine HKI.out.mono ?_; rintro e w6 ⟨n, hn, rfl, rfl⟩)
          obtain ⟨e, he⟩ : ∃ e : Nat, (a : Int) + (n : Int) = (e : Int) := ⟨a + n, by omega⟩
          have hae : a ≤ e := by omega
          have heb : e ≤ nb := by omega
          have hec : e ≤ cb := by omega
          have hca : ¬ (cb = a) := by omega
          have hac : a ≤ cb := by omega
          have HEA := Lib.hid (show e - a = n by omega)
          have HAN := Lib.hid (show a + n ≤ lb.length by rw [HLB.out]; omega)
          have HPC := Lib.hid (show ∀ w', Chg F wc w' → RdB w' (.slice (B.map (fun x => x.add a)) (e - a) (cb - a)) ((lb.drop a).take n) from fun w' hc => by
            have := (HRD.out.same (HX.out.s.old hc)).cut (lo := a) (hi := e) (m := cb) hae heb hec (Nat.le_refl _)
            rw [cutB, if_neg hca, HEA.out] at this
            rw [HEA.out]
            exact this)
          have hpl : ((lb.drop a).take n).length ≤ 1000000 := by rw [List.length_take]; omega
          clear c1 c2 HKI
          go_upto_region 14 with (go_at_call 37; refine (HX.out.s.take (by have := HDL.out; omega) (a : Int) _ _ HPC.out ((HBY.out.drop a).take n) hpl).mono ?_; rintro e9 wv ⟨x2, F2, rfl, q1, q2, -, -⟩; have HX2 := Lib.hid (HX.out.put HAN.out q1 q2); have HD2 := Lib.hid q1.done; clear q1 q2)
          clear HPC hpl HX
          go_cut [75] (fun t wx => (∃ q : Bool, t = .bool q) ∧ wx = wv)
          case first =>
            go_wp2_with fail
            all_goals
              go_meet
              exact ⟨⟨_, rfl⟩, rfl⟩
          case rest =>
            obtain ⟨⟨q, rfl⟩, rfl⟩ := hcut
            have HDL2 := Lib.hid (show x2.done ≤ 1000 by rw [HD2.out]; exact HDL.out)
            cases q with
            | true =>
              go_wp2_with (first
                | (go_at_call 38; refine (HX2.out.s.read (by have := HDL2.out; omega) (a : Int)).mono ?_; rintro e8 w8 ⟨v8, y8, n8, F8, rfl, r1, r2, r3, r4, -, -, -⟩; have hrr := HX2.out.read r1 (by omega) r4; have HX8 := Lib.hid hrr.1; have HT8 := Lib.hid hrr.2; have HCV := Lib.hid (conv_rd (rd_own r3.1)); obtain ⟨A8, c8, rfl⟩ := ownR_shape r3.1; obtain ⟨m8, hm8⟩ : (∃ m, m = (x2.bs.take n8).length) := ⟨_, rfl⟩; rw [← hm8] at HCV ⊢; have hcv := HCV.out; obtain ⟨s8, hs8⟩ : (∃ s, s = sb (x2.bs.take n8)) := ⟨_, rfl⟩; rw [← hs8] at hcv; have HS8 := Lib.hid hs8; have hsz : ¬ (9223372036854775807 < so.size + s8.size) := (by rw [HSO.out, hs8, sb_size, sb_size, List.length_take, List.length_take]; have := HX2.out.s.ok.len; have := HX2.out.s.ok.s2; have := HDL.out; omega); clear hrr r1 r2 r3 r4 hm8 hs8 HCV))
              go_roundw
              case rel => exact ⟨k + 1, x2.read n8, F8, by go_num, by rw [← HT8.out, sb_append, ← HS8.out, HD2.out, ← HSO.out], by omega, HX8⟩
              case measure => simp [intOf]; omega
            | false =>
              go_wp2_with fail
              go_roundw
              case rel => exact ⟨k + 1, x2, F2, by go_num, by rw [HD2.out, ← HSO.out], by omega, HX2⟩
              case measure => simp [intOf]; omega
        | false =>
          clear hq
          have HRW := Lib.hid (show ∀ w', Chg F wc w' → RdB w' (.slice B nb cb) lb from fun w' hc => HRD.out.same (HX.out.s.old hc))
          have HPL := Lib.hid (show ((lb.drop 0).take nb) = lb by rw [List.drop_zero, List.take_of_length_le (by rw [HLB.out]; omega)])
          have hlbb : lb.length ≤ 1000000 := by rw [HLB.out]; omega
          go_upto_region 17 with (go_at_call 37; refine (HX.out.s.take (by have := HDL.out; omega) 0 _ lb HRW.out HBY.out hlbb).mono ?_; rintro e9 wv ⟨x2, F2, rfl, q1, q2, -, -⟩; have HX2 := Lib.hid (HX.out.put (a := 0) (n := nb) (by rw [HLB.out]; omega) (by rw [HPL.out]; exact q1) q2); have HD2 := Lib.hid q1.done; have HFU := Lib.hid (show ∀ m : Int, (x2.done : Int) ≤ m → m < lb.length → Ra.mem x2.L m from fun m h1 h2 => (q1.has m).2 (.inr (by rw [q1.done] at h1; have h5 := HX.out.size; have h6 := HLB.out; unfold In.lo In.hi; rw [if_pos (by omega), if_pos (by omega)]; omega))); clear q1 q2)
          have HNX := Lib.hid (HX2.out.full HFU.out)
          have HLE := Lib.hid HX2.out.le
          have HDL2 := Lib.hid (show x2.done ≤ 1000 by rw [HD2.out]; exact HDL.out)
          clear HX HRW
          go_upto_region 18 with (go_at_call 38; refine (HX2.out.s.read (by have := HDL2.out; omega) 2000).mono ?_; rintro e8 w8 ⟨v8, y8, n8, F8, rfl, r1, r2, r3, r4, -, -, -⟩; have hrr := HX2.out.read r1 (by omega) r4; have hy8 := r1.only HNX.out; have HDE := Lib.hid (show (x2.read n8).done = lb.length by show x2.done + n8 = lb.length; rw [hy8] at r2; have := HLE.out; have := HLB.out; omega); have HX8 := Lib.hid hrr.1; have HT8 := Lib.hid hrr.2; have HCV := Lib.hid (conv_rd (rd_own r3.1)); obtain ⟨A8, c8, rfl⟩ := ownR_shape r3.1; obtain ⟨m8, hm8⟩ : (∃ m, m = (x2.bs.take n8).length) := ⟨_, rfl⟩; rw [← hm8] at HCV ⊢; have hcv := HCV.out; obtain ⟨s8, hs8⟩ : (∃ s, s = sb (x2.bs.take n8)) := ⟨_, rfl⟩; rw [← hs8] at hcv; have HS8 := Lib.hid hs8; have hsz : ¬ (9223372036854775807 < so.size + s8.size) := (by rw [HSO.out, hs8, sb_size, sb_size, List.length_take, List.length_take]; have := HX2.out.s.ok.len; have := HX2.out.s.ok.s2; have := HDL.out; omega); clear hrr r1 r2 r3 r4 hm8 hs8 HCV hy8)
          have hall : so ++ s8 = sb lb := by
            rw [HSO.out, HS8.out, ← sb_append, ← HD2.out, HT8.out, HDE.out, List.take_length]
          obtain ⟨sl, hsl⟩ : ∃ s, s = sb lb := ⟨_, rfl⟩
          rw [← hsl] at hall
          have hcv2 : (convert 47 9 (.slice B nb cb)).run Try.prog w8 = .ok (.string sl) w8 := by rw [hsl]; exact conv_rd (HRD.out.same HX8.out.s.chg)
          obtain ⟨x3, hx3⟩ : ∃ x3, x3 = x2.read n8 := ⟨_, rfl⟩
          rw [← hx3] at HX8 HDE
          obtain ⟨E1, E2⟩ := HX8.out.end_ HDE.out
          have HE1 := Lib.hid E1
          have HE2 := Lib.hid E2
          have hd3 : x3.done ≤ 800000 := by rw [HDE.out, HLB.out]; omega
          have HQHeld := Lib.hid (show ∀ w', Chg Nowhere w8 w' → Calls Try.prog 39 #[.pointer (some ⟨o, 0, none⟩)] w' (Gives w' (.int .i64 0)) from fun w' hc => by have := (HX8.out.s.idle hc).held hd3; rwa [HE1.out] at this)
          have HQDone := Lib.hid (show ∀ w', Chg Nowhere w8 w' → Calls Try.prog 40 #[.pointer (some ⟨o, 0, none⟩)] w' (Gives w' (.int .i64 (nb : Int))) from fun w' hc => by have := (HX8.out.s.idle hc).done; rwa [HDE.out, HLB.out] at this)
          have HQBey := Lib.hid (show ∀ w', Chg Nowhere w8 w' → Calls Try.prog 41 #[.pointer (some ⟨o, 0, none⟩)] w' (fun e w2 => (∃ A c, e = .returned (.slice A 0 c)) ∧ Chg Nowhere w' w2) from fun w' hc => by
            refine (beyondIn_any o F8 x3 w' (HX8.out.s.idle hc).at' HX8.out.s.ok (by omega)).mono ?_
            rintro e w2 ⟨v, y, rfl, q1, q2, -, q4⟩
            rw [HE2.out y q1] at q2
            obtain ⟨A, c, rfl⟩ := ownR_shape q2
            exact ⟨⟨A, c, rfl⟩, q4⟩)
          have HC0 := Lib.hid (Chg.refl Nowhere w8)
          have HCW := Lib.hid HX8.out.s.chg
          clear E1 E2 hsl hx3 hd3 HX2 HX8 HNX HFU
          go_wp2_with (first
            | (go_at_call 41; refine (HQBey.out _ HC2.out).mono ?_; rintro e v3 ⟨⟨A, c, rfl⟩, qc⟩; have HC3 := Lib.hid (HC2.out.then_none qc); clear qc)
            | (go_at_call 40; refine (HQDone.out _ HC1.out).mono ?_; rintro e v2 ⟨rfl, qc⟩; have HC2 := Lib.hid (HC1.out.then_none qc); clear qc)
            | (go_at_call 39; refine (HQHeld.out _ HC0.out).mono ?_; rintro e v1 ⟨rfl, qc⟩; have HC1 := Lib.hid (HC0.out.then_none qc); clear qc))
          go_ret
          exact ⟨rfl, HCW.out.then_none HC3.out⟩
  · have hbi : ¬ ((1000 : Int) < (n0 : Int)) := by omega
    have hbd : decide ((1000 : Int) < (n0 : Int)) = false := decide_eq_false hbi
    go_enter Try.func6, Try.ntmps6
    go_upto_region 4 with (first
      | (go_at_call 34; refine (shown19_any w).mono ?_; rintro e w1 ⟨rfl, h1⟩; have H1 := Lib.hid h1; clear h1))
    obtain ⟨nb, hnb⟩ : ∃ nb, nb = n0 := ⟨_, rfl⟩
    obtain ⟨lb, hlb⟩ : ∃ lb, lb = lb0 := ⟨_, rfl⟩
    have hlbl : lb.length = nb := by rw [hlb, hnb]; exact HN0.out.symm
    have hby : Byt lb := by rw [hlb]; exact HBY0.out
    have hrd : RdB w (.slice B nb cb) lb := by rw [hlb, hnb]; exact HB0.out
    have hcbn : nb ≤ cb := by omega
    have hnbl : nb ≤ 1000 := by omega
    rw [← hnb]
    clear hnb hlb hbig hbi hbd hlm hb3
    have HLB := Lib.hid hlbl
    have HBY := Lib.hid hby
    have HRD := Lib.hid hrd
    have hncb := hcbn
    clear hlbl hby hrd hcbn
    go_upto_region 8 with (first
      | (go_at_call 35; refine (InS.new_ w _ H1.out 1000 1000 (by decide)).mono ?_; rintro e w2 ⟨o, F, rfl, h1, -, -⟩; have HX0 := Lib.hid (show Ord19 w F w2 o lb (In.start 1000) from ⟨h1, rfl, fun n hn => absurd hn (Ra.mem_nil n), fun n _ hn => absurd hn (Ra.mem_nil n)⟩); clear h1))
    go_wp2_with fail
    go_loopw [9, 10] (fun ov i wr => ∃ (k : Nat) (x : In) (F : Nat → Prop), i = .int .i64 (k : Int) ∧ ov = .string (sb (lb.take x.done)) ∧ k ≤ 60 ∧ Hid (Ord19 w F wr o lb x)) (fun _ i _ => 60 - (intOf i).toNat)
    case atStart => exact ⟨0, _, F, rfl, rfl, by omega, HX0⟩
    case round =>
      obtain ⟨k, x, F, rfl, rfl, hk, HX⟩ := hrel
      obtain ⟨so, hso⟩ : ∃ so, so = sb (lb.take x.done) := ⟨_, rfl⟩
      rw [← hso]
      have HSO := Lib.hid hso
      clear hso
      have HDL := Lib.hid (show x.done ≤ 1000 by have := HX.out.le; have := HLB.out; omega)
      go_upto_region 9 with fail
      go_cut [44] (fun t wx => (∃ q : Bool, t = .bool q ∧ (q = true → k < M1 ∧ k < M2 ∧ k < 60 ∧ 0 < nb)) ∧ wx = wr)
      case first =>
        by_cases h1 : k < M1
        · have a1 : (k : Int) < (M1 : Int) := by omega
          by_cases h2 : k < M2
          · have a2 : (k : Int) < (M2 : Int) := by omega
            by_cases h3 : k < 60
            · have a3 : (k : Int) < 60 := by omega
              by_cases h4 : 0 < nb
              · have a4 : (0 : Int) < (nb : Int) := by omega
                go_wp2_with fail
                go_meet
                exact ⟨⟨_, rfl, fun _ => ⟨h1, h2, h3, h4⟩⟩, rfl⟩
              · have a4 : ¬ ((0 : Int) < (nb : Int)) := by omega
                go_wp2_with fail
                go_meet
                exact ⟨⟨_, rfl, fun h => by simp at h⟩, rfl⟩
            · have a3 : ¬ ((k : Int) < 60) := by omega
              go_wp2_with fail
              go_meet
              exact ⟨⟨_, rfl, fun h => by simp at h⟩, rfl⟩
          · have a2 : ¬ ((k : Int) < (M2 : Int)) := by omega
            go_wp2_with fail
            go_meet
            exact ⟨⟨_, rfl, fun h => by simp at h⟩, rfl⟩
        · have a1 : ¬ ((k : Int) < (M1 : Int)) := by omega
          go_wp2_with fail
          go_meet
          exact ⟨⟨_, rfl, fun h => by simp at h⟩, rfl⟩
      case rest =>
        obtain ⟨⟨q, rfl, hq⟩, rfl⟩ := hcut
        cases q with
        | true =>
          obtain ⟨h1, h2, h3, h4⟩ := hq rfl
          clear hq
          obtain ⟨g1, o1, rfl, hg1, hx1⟩ := HF.out.cells (by rw [← HM1.out]; omega)
          obtain ⟨g2, o2, rfl, hg2, hx2⟩ := HG.out.cells (by rw [← HM2.out]; omega)
          obtain ⟨z1, hz1⟩ : ∃ z, fr[k]? = some z := ⟨_, List.getElem?_eq_getElem (by rw [← HM1.out]; exact h1)⟩
          obtain ⟨z2, hz2⟩ : ∃ z, ln[k]? = some z := ⟨_, List.getElem?_eq_getElem (by rw [← HM2.out]; exact h2)⟩
          have c1 : wc.cell? ⟨g1, o1 + k, none⟩ = some (.int .i64 z1) := (HX.out.s.chg.cell (p := ⟨g1, o1 + k, none⟩) hg1 (not_nowhere _)).trans (hx1 _ _ hz1)
          have c2 : wc.cell? ⟨g2, o2 + k, none⟩ = some (.int .i64 z2) := (HX.out.s.chg.cell (p := ⟨g2, o2 + k, none⟩) hg2 (not_nowhere _)).trans (hx2 _ _ hz2)
          have Z1 := Lib.hid (HFI.out z1 (List.mem_of_getElem? hz1))
          have Z2 := Lib.hid (HGI.out z2 (List.mem_of_getElem? hz2))
          have a1 : (k : Int) < (M1 : Int) := by omega
          have a2 : (k : Int) < (M2 : Int) := by omega
          clear hx1 hx2 hz1 hz2
          go_upto_region 12 with (go_at_call 36; refine (kind19_any z1 nb _ Z1.out (by omega) (by omega)).mono ?_; rintro e w6 ⟨a, ha, rfl, rfl⟩)
          obtain ⟨p, hp⟩ : ∃ p : Nat, (nb : Int) - (a : Int) = (p : Int) := ⟨nb - a, by omega⟩
          have HKI := Lib.hid (show Calls Try.prog 36 #[.int .i64 z2, .int .i64 ((p : Int) + 1)] wc (Kind19To (p + 1) wc) from by have := kind19_any z2 (p + 1) wc Z2.out (by omega) (by omega); push_cast at this; exact this)
          go_upto_region 13 with (go_at_call 36; refine HKI.out.mono ?_; rintro e w6 ⟨n, hn, rfl, rfl⟩)
          obtain ⟨e, he⟩ : ∃ e : Nat, (a : Int) + (n : Int) = (e : Int) := ⟨a + n, by omega⟩
          have hae : a ≤ e := by omega
          have heb : e ≤ nb := by omega
          have hec : e ≤ cb := by omega
          have hca : ¬ (cb = a) := by omega
          have hac : a ≤ cb := by omega
          have HEA := Lib.hid (show e - a = n by omega)
          have HAN := Lib.hid (show a + n ≤ lb.length by rw [HLB.out]; omega)
          have HPC := Lib.hid (show ∀ w', Chg F wc w' → RdB w' (.slice (B.map (fun x => x.add a)) (e - a) (cb - a)) ((lb.drop a).take n) from fun w' hc => by
            have := (HRD.out.same (HX.out.s.old hc)).cut (lo := a) (hi := e) (m := cb) hae heb hec (Nat.le_refl _)
            rw [cutB, if_neg hca, HEA.out] at this
            rw [HEA.out]
            exact this)
          have hpl : ((lb.drop a).take n).length ≤ 1000000 := by rw [List.length_take]; omega
          clear c1 c2 HKI
          go_upto_region 14 with (go_at_call 37; refine (HX.out.s.take (by have := HDL.out; omega) (a : Int) _ _ HPC.out ((HBY.out.drop a).take n) hpl).mono ?_; rintro e9 wv ⟨x2, F2, rfl, q1, q2, -, -⟩; have HX2 := Lib.hid (HX.out.put HAN.out q1 q2); have HD2 := Lib.hid q1.done; clear q1 q2)
          clear HPC hpl HX
          go_cut [75] (fun t wx => (∃ q : Bool, t = .bool q) ∧ wx = wv)
          case first =>
            go_wp2_with fail
            all_goals
              go_meet
              exact ⟨⟨_, rfl⟩, rfl⟩
          case rest =>
            obtain ⟨⟨q, rfl⟩, rfl⟩ := hcut
            have HDL2 := Lib.hid (show x2.done ≤ 1000 by rw [HD2.out]; exact HDL.out)
            cases q with
            | true =>
              go_wp2_with (first
                | (go_at_call 38; refine (HX2.out.s.read (by have := HDL2.out; omega) (a : Int)).mono ?_; rintro e8 w8 ⟨v8, y8, n8, F8, rfl, r1, r2, r3, r4, -, -, -⟩; have hrr := HX2.out.read r1 (by omega) r4; have HX8 := Lib.hid hrr.1; have HT8 := Lib.hid hrr.2; have HCV := Lib.hid (conv_rd (rd_own r3.1)); obtain ⟨A8, c8, rfl⟩ := ownR_shape r3.1; obtain ⟨m8, hm8⟩ : (∃ m, m = (x2.bs.take n8).length) := ⟨_, rfl⟩; rw [← hm8] at HCV ⊢; have hcv := HCV.out; obtain ⟨s8, hs8⟩ : (∃ s, s = sb (x2.bs.take n8)) := ⟨_, rfl⟩; rw [← hs8] at hcv; have HS8 := Lib.hid hs8; have hsz : ¬ (9223372036854775807 < so.size + s8.size) := (by rw [HSO.out, hs8, sb_size, sb_size, List.length_take, List.length_take]; have := HX2.out.s.ok.len; have := HX2.out.s.ok.s2; have := HDL.out; omega); clear hrr r1 r2 r3 r4 hm8 hs8 HCV))
              go_roundw
              case rel => exact ⟨k + 1, x2.read n8, F8, by go_num, by rw [← HT8.out, sb_append, ← HS8.out, HD2.out, ← HSO.out], by omega, HX8⟩
              case measure => simp [intOf]; omega
            | false =>
              go_wp2_with fail
              go_roundw
              case rel => exact ⟨k + 1, x2, F2, by go_num, by rw [HD2.out, ← HSO.out], by omega, HX2⟩
              case measure => simp [intOf]; omega
        | false =>
          clear hq
          have HRW := Lib.hid (show ∀ w', Chg F wc w' → RdB w' (.slice B nb cb) lb from fun w' hc => HRD.out.same (HX.out.s.old hc))
          have HPL := Lib.hid (show ((lb.drop 0).take nb) = lb by rw [List.drop_zero, List.take_of_length_le (by rw [HLB.out]; omega)])
          have hlbb : lb.length ≤ 1000000 := by rw [HLB.out]; omega
          go_upto_region 17 with (go_at_call 37; refine (HX.out.s.take (by have := HDL.out; omega) 0 _ lb HRW.out HBY.out hlbb).mono ?_; rintro e9 wv ⟨x2, F2, rfl, q1, q2, -, -⟩; have HX2 := Lib.hid (HX.out.put (a := 0) (n := nb) (by rw [HLB.out]; omega) (by rw [HPL.out]; exact q1) q2); have HD2 := Lib.hid q1.done; have HFU := Lib.hid (show ∀ m : Int, (x2.done : Int) ≤ m → m < lb.length → Ra.mem x2.L m from fun m h1 h2 => (q1.has m).2 (.inr (by rw [q1.done] at h1; have h5 := HX.out.size; have h6 := HLB.out; unfold In.lo In.hi; rw [if_pos (by omega), if_pos (by omega)]; omega))); clear q1 q2)
          have HNX := Lib.hid (HX2.out.full HFU.out)
          have HLE := Lib.hid HX2.out.le
          have HDL2 := Lib.hid (show x2.done ≤ 1000 by rw [HD2.out]; exact HDL.out)
          clear HX HRW
          go_upto_region 18 with (go_at_call 38; refine (HX2.out.s.read (by have := HDL2.out; omega) 2000).mono ?_; rintro e8 w8 ⟨v8, y8, n8, F8, rfl, r1, r2, r3, r4, -, -, -⟩; have hrr := HX2.out.read r1 (by omega) r4; have hy8 := r1.only HNX.out; have HDE := Lib.hid (show (x2.read n8).done = lb.length by show x2.done + n8 = lb.length; rw [hy8] at r2; have := HLE.out; have := HLB.out; omega); have HX8 := Lib.hid hrr.1; have HT8 := Lib.hid hrr.2; have HCV := Lib.hid (conv_rd (rd_own r3.1)); obtain ⟨A8, c8, rfl⟩ := ownR_shape r3.1; obtain ⟨m8, hm8⟩ : (∃ m, m = (x2.bs.take n8).length) := ⟨_, rfl⟩; rw [← hm8] at HCV ⊢; have hcv := HCV.out; obtain ⟨s8, hs8⟩ : (∃ s, s = sb (x2.bs.take n8)) := ⟨_, rfl⟩; rw [← hs8] at hcv; have HS8 := Lib.hid hs8; have hsz : ¬ (9223372036854775807 < so.size + s8.size) := (by rw [HSO.out, hs8, sb_size, sb_size, List.length_take, List.length_take]; have := HX2.out.s.ok.len; have := HX2.out.s.ok.s2; have := HDL.out; omega); clear hrr r1 r2 r3 r4 hm8 hs8 HCV hy8)
          have hall : so ++ s8 = sb lb := by
            rw [HSO.out, HS8.out, ← sb_append, ← HD2.out, HT8.out, HDE.out, List.take_length]
          obtain ⟨sl, hsl⟩ : ∃ s, s = sb lb := ⟨_, rfl⟩
          rw [← hsl] at hall
          have hcv2 : (convert 47 9 (.slice B nb cb)).run Try.prog w8 = .ok (.string sl) w8 := by rw [hsl]; exact conv_rd (HRD.out.same HX8.out.s.chg)
          obtain ⟨x3, hx3⟩ : ∃ x3, x3 = x2.read n8 := ⟨_, rfl⟩
          rw [← hx3] at HX8 HDE
          obtain ⟨E1, E2⟩ := HX8.out.end_ HDE.out
          have HE1 := Lib.hid E1
          have HE2 := Lib.hid E2
          have hd3 : x3.done ≤ 800000 := by rw [HDE.out, HLB.out]; omega
          have HQHeld := Lib.hid (show ∀ w', Chg Nowhere w8 w' → Calls Try.prog 39 #[.pointer (some ⟨o, 0, none⟩)] w' (Gives w' (.int .i64 0)) from fun w' hc => by have := (HX8.out.s.idle hc).held hd3; rwa [HE1.out] at this)
          have HQDone := Lib.hid (show ∀ w', Chg Nowhere w8 w' → Calls Try.prog 40 #[.pointer (some ⟨o, 0, none⟩)] w' (Gives w' (.int .i64 (nb : Int))) from fun w' hc => by have := (HX8.out.s.idle hc).done; rwa [HDE.out, HLB.out] at this)
          have HQBey := Lib.hid (show ∀ w', Chg Nowhere w8 w' → Calls Try.prog 41 #[.pointer (some ⟨o, 0, none⟩)] w' (fun e w2 => (∃ A c, e = .returned (.slice A 0 c)) ∧ Chg Nowhere w' w2) from fun w' hc => by
            refine (beyondIn_any o F8 x3 w' (HX8.out.s.idle hc).at' HX8.out.s.ok (by omega)).mono ?_
            rintro e w2 ⟨v, y, rfl, q1, q2, -, q4⟩
            rw [HE2.out y q1] at q2
            obtain ⟨A, c, rfl⟩ := ownR_shape q2
            exact ⟨⟨A, c, rfl⟩, q4⟩)
          have HC0 := Lib.hid (Chg.refl Nowhere w8)
          have HCW := Lib.hid HX8.out.s.chg
          clear E1 E2 hsl hx3 hd3 HX2 HX8 HNX HFU
          go_wp2_with (first
            | (go_at_call 41; refine (HQBey.out _ HC2.out).mono ?_; rintro e v3 ⟨⟨A, c, rfl⟩, qc⟩; have HC3 := Lib.hid (HC2.out.then_none qc); clear qc)
            | (go_at_call 40; refine (HQDone.out _ HC1.out).mono ?_; rintro e v2 ⟨rfl, qc⟩; have HC2 := Lib.hid (HC1.out.then_none qc); clear qc)
            | (go_at_call 39; refine (HQHeld.out _ HC0.out).mono ?_; rintro e v1 ⟨rfl, qc⟩; have HC1 := Lib.hid (HC0.out.then_none qc); clear qc))
          go_ret
          exact ⟨rfl, HCW.out.then_none HC3.out⟩
def intB (z : {z : Int // -9223372036854775808 ≤ z ∧ z ≤ 9223372036854775807}) : List Value := [.int .i64 z.1]
theorem intB_read {H : Type} {enc : TypeId × Value → H} {w : World} {base : Nat} {spare : Nat → Bool} {held : Bool} {m : Nat} {cs : List Value} {y : DataW H × List MemPlace}
    (h : DataW.trod enc Try.prog w base spare held m 3 cs = some y) : ∃ z, cs = intB z := by
  obtain ⟨n0, h0, _, w0⟩ := DataW.trod_int Try.underlying3 h
  exact ⟨⟨n0, bounds_i64 w0⟩, h0⟩
theorem intsB_open {w : World} {s : Option Addr} {cap : Nat} {zs : List {z : Int // -9223372036854775808 ≤ z ∧ z ≤ 9223372036854775807}} (hle : zs.length ≤ cap) (hcap : cap ≤ maxLen)
    (hz : 0 < zs.length → ∃ g o, s = some ⟨g, o, none⟩ ∧ g < w.heap.size ∧ ∀ (i : Nat) z, zs[i]? = some z → ∀ j u, (intB z)[j]? = some u → w.cell? ⟨g, o + (i * 1 + j), none⟩ = some u) : IntsAt w s cap (zs.map (·.1)) := by
  refine ⟨by rw [List.length_map]; exact hle, hcap, fun h0 => ?_⟩
  rw [List.length_map] at h0
  obtain ⟨g, o, h1, h2, h3⟩ := hz h0
  refine ⟨g, o, h1, h2, fun i z hi => ?_⟩
  rw [List.getElem?_map] at hi
  obtain ⟨y, hy, rfl⟩ := Option.map_eq_some_iff.1 hi
  have := h3 i y hy 0 _ rfl
  rwa [Nat.mul_one, Nat.add_zero] at this
theorem intsB_in (zs : List {z : Int // -9223372036854775808 ≤ z ∧ z ≤ 9223372036854775807}) : ∀ z ∈ zs.map (·.1), -9223372036854775808 ≤ z ∧ z ≤ 9223372036854775807 := fun z hz => by
  obtain ⟨y, _, rfl⟩ := List.mem_map.1 hz
  exact y.2
theorem inboxOrder_walk' (B s1 s2 : Option Addr) (cb cap1 cap2 : Nat) (w : World) (bs0 : List {n : Nat // n < 256}) (fr ln : List {z : Int // -9223372036854775808 ≤ z ∧ z ≤ 9223372036854775807}) (hb : bs0.length ≤ cb) (hcm : cb ≤ maxLen)
    (hz0 : 0 < bs0.length → ∃ g o, B = some ⟨g, o, none⟩ ∧ g < w.heap.size ∧ ∀ (i : Nat) z, bs0[i]? = some z → ∀ (j : Nat) u, (oneB z)[j]? = some u → w.cell? ⟨g, o + (i * 1 + j), none⟩ = some u) (h1 : fr.length ≤ cap1) (hc1 : cap1 ≤ maxLen)
    (hz1 : 0 < fr.length → ∃ g o, s1 = some ⟨g, o, none⟩ ∧ g < w.heap.size ∧ ∀ (i : Nat) z, fr[i]? = some z → ∀ j u, (intB z)[j]? = some u → w.cell? ⟨g, o + (i * 1 + j), none⟩ = some u) (h2 : ln.length ≤ cap2) (hc2 : cap2 ≤ maxLen)
    (hz2 : 0 < ln.length → ∃ g o, s2 = some ⟨g, o, none⟩ ∧ g < w.heap.size ∧ ∀ (i : Nat) z, ln[i]? = some z → ∀ j u, (intB z)[j]? = some u → w.cell? ⟨g, o + (i * 1 + j), none⟩ = some u) :
    Calls Try.prog 6 #[.slice B bs0.length cb, .slice s1 fr.length cap1, .slice s2 ln.length cap2] w (Gives w (.bool true)) := by
  have hr := bytes_open hb hz0
  have := inboxOrder_walk B cb (bs0.map (·.1)) s1 s2 cap1 cap2 (fr.map (·.1)) (ln.map (·.1)) w (by rw [List.length_map]; exact hr) (byt_vals _) (by rw [List.length_map]; exact hb) hcm (intsB_open h1 hc1 hz1) (intsB_open h2 hc2 hz2) (intsB_in _) (intsB_in _)
  rw [List.length_map, List.length_map, List.length_map] at this
  exact this
end Go.Proofs.Ytlkbfacdaelbfaa
