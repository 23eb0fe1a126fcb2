/-
  The laws' own helpers (layer 17): kind, same; one object and two (what a law keeps of them).
-/
import Derived.Test.YtlkbfacdaelbfaaRaL
namespace Go.Proofs.Ytlkbfacdaelbfaa
open Go.RowKit
set_option linter.unusedVariables false

def Kind17To (n : Int) (w : World) (e : Ending) (w' : World) : Prop := ∃ k : Nat, (k : Int) < n ∧ e = .returned (.int .i64 (k : Int)) ∧ w = w'
set_option maxHeartbeats 800000 in
theorem kind17_any (c n : Int) (w : World) (hc : -9223372036854775808 ≤ c ∧ c ≤ 9223372036854775807) (hn : n = 4 ∨ n = 2001) : Calls Try.prog 19 #[.int .i64 c, .int .i64 n] w (Kind17To n w) := by
  have hK : ∃ k : Nat, (k : Int) < n ∧ (c < 0 → -(c + 1).tmod n = (k : Int)) ∧ (0 ≤ c → c % n = (k : Int)) := by
    rcases (by omega : c < 0 ∨ 0 ≤ c) with h0 | h0
    · obtain ⟨y, hy⟩ : ∃ y : Nat, c + 1 = -(y : Int) := ⟨(-(c + 1)).toNat, by omega⟩
      refine ⟨((y : Int) % n).toNat, by rcases hn with rfl | rfl <;> omega, fun _ => ?_, fun _ => by omega⟩
      rw [hy, Int.neg_tmod, Int.neg_neg, Int.tmod_eq_emod_of_nonneg (by omega)]
      rcases hn with rfl | rfl <;> omega
    · exact ⟨(c % n).toNat, by rcases hn with rfl | rfl <;> omega, fun _ => by omega, fun _ => by rcases hn with rfl | rfl <;> omega⟩
  obtain ⟨k, hk, e1, e2⟩ := hK
  by_cases hneg : c < 0
  all_goals
    first | (have e := e1 hneg) | (have e := e2 (by omega))
    have HE := Lib.hid e
    clear e1 e2 e
    rcases hn with rfl | rfl
    all_goals
      go_enter Try.func19, Try.ntmps19
      go_wp2_with fail
      go_ret
      first
      | (rw [HE.out]; exact ⟨k, hk, rfl, rfl⟩)
      | exact ⟨k, hk, by rw [← HE.out]; rfl, rfl⟩

set_option maxHeartbeats 1600000 in
theorem same17_any (va vb : Value) (la lb : List (Int × Int)) (w : World) (ha : Rd w va 2 la.length (flat la)) (hb : Rd w vb 2 lb.length (flat lb)) (hl : la.length ≤ 1000000000000) (hl2 : lb.length ≤ 1000000000000) :
    Calls Try.prog 18 #[va, vb] w fun e w' => e = .returned (.bool (decide (la = lb))) ∧ Chg Nowhere w w' := by
  obtain ⟨-, A, cp, rfl, -, hA⟩ := ha
  obtain ⟨-, B, cq, rfl, -, hB⟩ := hb
  have HA := Lib.hid hA
  have HB := Lib.hid hB
  clear hA hB
  by_cases hlen : la.length = lb.length
  · have HL := Lib.hid hlen
    rw [← hlen]
    clear hlen hl2
    go_enter Try.func18, Try.ntmps18
    go_wp2_with fail
    go_loopw [5] (fun i wr => ∃ k : Nat, k ≤ la.length ∧ i = .int .i64 k ∧ Hid (la.take k = lb.take k) ∧ Chg Nowhere w wr) (fun i _ => la.length - (intOf i).toNat)
    case atStart => exact ⟨0, by omega, rfl, Lib.hid rfl, Chg.refl _ _⟩
    case round =>
      obtain ⟨k, hk, rfl, HK, hC⟩ := hrel
      have HC := Lib.hid hC
      by_cases hk2 : k < la.length
      · obtain ⟨x, hx⟩ : ∃ x, la[k]? = some x := ⟨_, List.getElem?_eq_getElem hk2⟩
        obtain ⟨y, hy⟩ : ∃ y, lb[k]? = some y := ⟨_, List.getElem?_eq_getElem (by rw [← HL.out]; exact hk2)⟩
        obtain ⟨g, o, rfl, hg, hcell⟩ := HA.out (by omega)
        obtain ⟨g', o', rfl, hg', hcell'⟩ := HB.out (by rw [← HL.out]; omega)
        have hl1 := flat_len la
        have hl3 : (flat lb).length = la.length * 2 := by rw [flat_len, HL.out]
        have a0 : wr.cell? ⟨g, o + k * 2, .none⟩ = _ := (hC.cell (p := ⟨g, o + k * 2, .none⟩) hg (not_nowhere _)).trans ((hcell (k * 2) (by omega)).trans (flat_get _ _ _ hx).1)
        have a1 : wr.cell? ⟨g, o + k * 2 + 1, .none⟩ = _ := (hC.cell (p := ⟨g, o + k * 2 + 1, .none⟩) hg (not_nowhere _)).trans ((hcell (k * 2 + 1) (by omega)).trans (flat_get _ _ _ hx).2)
        have b0 : wr.cell? ⟨g', o' + k * 2, .none⟩ = _ := (hC.cell (p := ⟨g', o' + k * 2, .none⟩) hg' (not_nowhere _)).trans ((hcell' (k * 2) (by omega)).trans (flat_get _ _ _ hy).1)
        have b1 : wr.cell? ⟨g', o' + k * 2 + 1, .none⟩ = _ := (hC.cell (p := ⟨g', o' + k * 2 + 1, .none⟩) hg' (not_nowhere _)).trans ((hcell' (k * 2 + 1) (by omega)).trans (flat_get _ _ _ hy).2)
        have HXY := Lib.hid (show x = y → la.take (k + 1) = lb.take (k + 1) from fun e => by rw [List.take_add_one, List.take_add_one, hx, hy, HK.out, e])
        have HNE := Lib.hid (show x ≠ y → la ≠ lb from fun e e2 => e (by rw [e2, hy] at hx; exact (Option.some.inj hx).symm))
        clear hcell hcell' hx hy hl1 hl3
        obtain ⟨x1, x2⟩ := x
        obtain ⟨y1, y2⟩ := y
        simp only at a0 a1 b0 b1
        by_cases h1 : x1 = y1
        · subst h1
          by_cases h2 : x2 = y2
          · subst h2
            have HT := Lib.hid (HXY.out rfl)
            clear HNE
            go_wp2_with fail
            go_quiet (fail)
            go_wp2_with fail
            go_roundw
            case rel => exact ⟨k + 1, by omega, by go_num, HT, HC.out.drewN _⟩
            case measure => simp [intOf]; omega
          · have E := Lib.hid (show decide (la = lb) = false from decide_eq_false (HNE.out (by simpa using h2)))
            have t2 : (x2 == y2) = false := by simpa using h2
            clear hC h2 HNE HXY
            go_wp2_with fail
            go_quiet (fail)
            go_wp2_with fail
            go_ret
            rw [E.out]
            exact ⟨rfl, HC.out.drewN _⟩
        · have E := Lib.hid (show decide (la = lb) = false from decide_eq_false (HNE.out (by simp [h1])))
          have t1 : (x1 == y1) = false := by simpa using h1
          clear hC h1 HNE HXY
          go_wp2_with fail
          go_quiet (fail)
          go_wp2_with fail
          go_ret
          rw [E.out]
          exact ⟨rfl, HC.out.drewN _⟩
      · obtain rfl : k = la.length := by omega
        have E := Lib.hid (show decide (la = lb) = true by
          have := HK.out
          rw [List.take_length, HL.out, List.take_length] at this
          exact decide_eq_true this)
        go_wp2_with fail
        go_ret
        rw [E.out]
        exact ⟨rfl, HC.out⟩
  · have E := Lib.hid (show decide (la = lb) = false from decide_eq_false (fun e => hlen (by rw [e])))
    have t1 : (((la.length : Nat) : Int) == ((lb.length : Nat) : Int)) = false := by simp; omega
    have t2 : (((la.length : Nat) : Int) != ((lb.length : Nat) : Int)) = true := by simp; omega
    go_enter Try.func18, Try.ntmps18
    go_wp2_with fail
    go_ret
    rw [E.out]
    exact ⟨rfl, Chg.refl _ _⟩

/-- What a law keeps of an object that it made. -/
structure Rn (w0 : World) (o : Nat) (L : List Ra.Row) (w : World) : Prop where
  at' : ∃ v, RaAt w o v L ∧ ∀ i, v.ownBlock = some i → w0.heap.size ≤ i
  good : Ra.Good L
  new : w0.heap.size ≤ o
  chg : Chg Nowhere w0 w
theorem Rn.idle {w0 : World} {o : Nat} {L : List Ra.Row} {w w' : World} (h : Rn w0 o L w) (hc : Chg Nowhere w w') : Rn w0 o L w' := by
  obtain ⟨v, h1, h2⟩ := h.at'
  exact ⟨⟨v, h1.idle hc, h2⟩, h.good, h.new, h.chg.then_none hc⟩
theorem Rn.moved {w0 : World} {o : Nat} {L' : List Ra.Row} {w w' : World} {v : Value} (h : Chg Nowhere w0 w) (ho : w0.heap.size ≤ o) (hv : ∀ i, v.ownBlock = some i → w0.heap.size ≤ i) (hg : Ra.Good L') (hm : Moved w o v L' w') : Rn w0 o L' w' := by
  obtain ⟨⟨v', h1, h2⟩, h3⟩ := hm
  refine ⟨⟨v', h1, fun i hi => ?_⟩, hg, ho, h.trans h3 fun i hi hs => ?_⟩
  · rcases h2 i hi with h4 | h4
    · exact hv i h4
    · exact Nat.le_trans h.size h4
  · rcases hs with rfl | hs
    · omega
    · exact absurd (hv i hs) (by omega)
/-- Blocks of other types stay. -/
def Keeps (w w' : World) : Prop := ∀ (g : Nat) (cs : Array Value) (t : TypeId), t ≠ 33 → t ≠ 89 → w.heap[g]? = some (.cells cs t (0, 0)) → w'.heap[g]? = some (.cells cs t (0, 0))
theorem Keeps.of_chg {w w' : World} (h : Chg Nowhere w w') : Keeps w w' := fun g cs t _ _ hg => h.same hg
theorem Keeps.trans {a b c : World} (h : Keeps a b) (k : Keeps b c) : Keeps a c := fun g cs t h1 h2 hg => k g cs t h1 h2 (h g cs t h1 h2 hg)
theorem Moved.keeps {w w' : World} {o : Nat} {v : Value} {L L' : List Ra.Row} (h : RaAt w o v L) (m : Moved w o v L' w') : Keeps w w' := fun g cs t h1 h2 hg => by
  refine m.chg.keep hg ?_
  rintro (rfl | e)
  · rw [h.blk] at hg
    simp only [Option.some.injEq, Obj.cells.injEq] at hg
    exact h2 hg.2.1.symm
  · obtain ⟨cur, hh⟩ := own_blk h.row e
    rw [hg] at hh
    simp only [Option.some.injEq, Obj.cells.injEq] at hh
    exact h1 hh.2.1
def AddPost (w0 w : World) (o : Nat) (L : List Ra.Row) (f t : Int) : Ending → World → Prop := fun e w' => ∃ L', e = .returned (.int .i64 (Ra.total L' - Ra.total L)) ∧ (∀ n, Ra.mem L' n ↔ Ra.mem L n ∨ (max f 0 ≤ n ∧ n < min t Ra.M)) ∧ L'.length ≤ L.length + 1 ∧ Rn w0 o L' w' ∧ Keeps w w'
theorem Rn.add {w0 : World} {o : Nat} {L : List Ra.Row} {w : World} (h : Rn w0 o L w) (hn : L.length ≤ 1000000) (f t : Int) : Calls Try.prog 16 #[.pointer (some ⟨o, 0, none⟩), .int .i64 f, .int .i64 t] w (AddPost w0 w o L f t) := by
  obtain ⟨v, h1, h2⟩ := h.at'
  refine (add_any o v L f t w h1 h.good hn).mono ?_
  rintro e w' ⟨L', rfl, q1, q2, q3, q4⟩
  exact ⟨L', rfl, q2, q3, Rn.moved h.chg h.new h2 q1 q4, q4.keeps h1⟩
def SubPost (w0 w : World) (o : Nat) (L : List Ra.Row) (f t : Int) : Ending → World → Prop := fun e w' => ∃ L', e = .returned (.int .i64 (Ra.total L - Ra.total L')) ∧ (∀ n, Ra.mem L' n ↔ Ra.mem L n ∧ ¬ (max f 0 ≤ n ∧ n < min t Ra.M)) ∧ L'.length ≤ L.length + 1 ∧ Rn w0 o L' w' ∧ Keeps w w'
theorem Rn.cut {w0 : World} {o : Nat} {L : List Ra.Row} {w : World} (h : Rn w0 o L w) (hn : L.length ≤ 1000000) (f t : Int) : Calls Try.prog 23 #[.pointer (some ⟨o, 0, none⟩), .int .i64 f, .int .i64 t] w (SubPost w0 w o L f t) := by
  obtain ⟨v, h1, h2⟩ := h.at'
  refine (cut_any o v L f t w h1 h.good hn).mono ?_
  rintro e w' ⟨L', rfl, q1, q2, q3, q4⟩
  exact ⟨L', rfl, q2, q3, Rn.moved h.chg h.new h2 q1 q4, q4.keeps h1⟩
def NewPost (w0 : World) (L : List Ra.Row) : Ending → World → Prop := fun e w' => ∃ o, e = .returned (.pointer (some ⟨o, 0, none⟩)) ∧ Rn w0 o L w'
theorem Rn.new_ (w0 w : World) (hc : Chg Nowhere w0 w) : Calls Try.prog 15 #[] w (NewPost w0 []) := by
  refine (newRa_any w).mono ?_
  rintro e w' ⟨o, v, rfl, h1, h2, h3, h4⟩
  exact ⟨o, rfl, ⟨v, h1, fun i hi => Nat.le_trans hc.size (h3 i hi)⟩, Ra.good_nil, Nat.le_trans hc.size h2, hc.then_none h4⟩
theorem Rn.gap {w0 : World} {o : Nat} {L : List Ra.Row} {w : World} (h : Rn w0 o L w) (hn : L.length ≤ 1000000) (f t : Int) : Calls Try.prog 20 #[.pointer (some ⟨o, 0, none⟩), .int .i64 f, .int .i64 t] w (GivesGap w L f t) := by
  obtain ⟨v, h1, h2⟩ := h.at'
  exact gap_any o v L f t w h1 h.good (by omega)
theorem Rn.has {w0 : World} {o : Nat} {L : List Ra.Row} {w : World} (h : Rn w0 o L w) (hn : L.length ≤ 1000000) (n : Int) : Calls Try.prog 21 #[.pointer (some ⟨o, 0, none⟩), .int .i64 n] w (GivesHas w L n) := by
  obtain ⟨v, h1, h2⟩ := h.at'
  exact hasRa_any o v L n w h1 h.good (by omega)
theorem Rn.next {w0 : World} {o : Nat} {L : List Ra.Row} {w : World} (h : Rn w0 o L w) (hn : L.length ≤ 1000000) (n : Int) : Calls Try.prog 30 #[.pointer (some ⟨o, 0, none⟩), .int .i64 n] w (GivesNext w L n) := by
  obtain ⟨v, h1, h2⟩ := h.at'
  exact nextRa_any o v L n w h1 h.good (by omega)
theorem Rn.covers {w0 : World} {o : Nat} {L : List Ra.Row} {w : World} (h : Rn w0 o L w) (hn : L.length ≤ 1000000) (f t : Int) : Calls Try.prog 32 #[.pointer (some ⟨o, 0, none⟩), .int .i64 f, .int .i64 t] w (GivesCov w L f t) := by
  obtain ⟨v, h1, h2⟩ := h.at'
  exact covers_any o v L f t w h1 h.good (by omega)
theorem Rn.total {w0 : World} {o : Nat} {L : List Ra.Row} {w : World} (h : Rn w0 o L w) (hn : L.length ≤ 1000000) : Calls Try.prog 27 #[.pointer (some ⟨o, 0, none⟩)] w (Gives w (.int .i64 (Ra.total L))) := by
  obtain ⟨v, h1, h2⟩ := h.at'
  exact totalRa_any o v L w h1 h.good (by omega)
theorem Rn.list {w0 : World} {o : Nat} {L : List Ra.Row} {w : World} (h : Rn w0 o L w) (hn : L.length ≤ 1000000) : Calls Try.prog 17 #[.pointer (some ⟨o, 0, none⟩)] w (CloneRTo w L) := by
  obtain ⟨v, h1, h2⟩ := h.at'
  exact listRa_any o v L w h1 (by omega)
/-- Two objects that go their own ways. -/
structure Two (w0 : World) (a b : Nat) (La Lb : List Ra.Row) (w : World) : Prop where
  at' : ∃ va vb, RaAt w a va La ∧ RaAt w b vb Lb ∧ (∀ i, va.ownBlock = some i → w0.heap.size ≤ i) ∧ (∀ i, vb.ownBlock = some i → w0.heap.size ≤ i) ∧ (∀ i, va.ownBlock = some i → vb.ownBlock ≠ some i)
  ga : Ra.Good La
  gb : Ra.Good Lb
  na : w0.heap.size ≤ a
  nb : w0.heap.size ≤ b
  ne : a ≠ b
  chg : Chg Nowhere w0 w
theorem Two.idle {w0 : World} {a b : Nat} {La Lb : List Ra.Row} {w w' : World} (h : Two w0 a b La Lb w) (hc : Chg Nowhere w w') : Two w0 a b La Lb w' := by
  obtain ⟨va, vb, h1, h2, h3⟩ := h.at'
  exact ⟨⟨va, vb, h1.idle hc, h2.idle hc, h3⟩, h.ga, h.gb, h.na, h.nb, h.ne, h.chg.then_none hc⟩
theorem Two.a {w0 : World} {a b : Nat} {La Lb : List Ra.Row} {w : World} (h : Two w0 a b La Lb w) : Rn w0 a La w := by
  obtain ⟨va, vb, h1, h2, h3, h4, h5⟩ := h.at'
  exact ⟨⟨va, h1, h3⟩, h.ga, h.na, h.chg⟩
theorem Two.swap {w0 : World} {a b : Nat} {La Lb : List Ra.Row} {w : World} (h : Two w0 a b La Lb w) : Two w0 b a Lb La w := by
  obtain ⟨va, vb, h1, h2, h3, h4, h5⟩ := h.at'
  exact ⟨⟨vb, va, h2, h1, h4, h3, fun i hi hj => h5 i hj hi⟩, h.gb, h.ga, h.nb, h.na, fun e => h.ne e.symm, h.chg⟩
theorem RaAt.apart {w : World} {a b : Nat} {va : Value} {cs : Array Value} {L : List Ra.Row} {t : TypeId} (h : RaAt w a va L) (hb : w.heap[b]? = some (.cells cs t (0, 0))) (ht : t ≠ 33) : va.ownBlock ≠ some b := fun e => by
  obtain ⟨cur, hh⟩ := own_blk h.row e
  rw [hb] at hh
  simp only [Option.some.injEq, Obj.cells.injEq] at hh
  exact ht hh.2.1
theorem Two.moved {w0 : World} {a b : Nat} {La Lb La' : List Ra.Row} {w w' : World} {va vb : Value} (h : Two w0 a b La Lb w) (h1 : RaAt w a va La) (h2 : RaAt w b vb Lb) (h3 : ∀ i, va.ownBlock = some i → w0.heap.size ≤ i) (h4 : ∀ i, vb.ownBlock = some i → w0.heap.size ≤ i) (h5 : ∀ i, va.ownBlock = some i → vb.ownBlock ≠ some i) (hg : Ra.Good La') (hm : Moved w a va La' w') : Two w0 a b La' Lb w' := by
  have hr := Rn.moved h.chg h.na h3 hg hm
  obtain ⟨⟨va', q1, q2⟩, q3⟩ := hm
  refine ⟨⟨va', vb, q1, h2.chg q3 ?_ (fun i hi hs => ?_), fun i hi => ?_, h4, fun i hi hj => ?_⟩, hg, h.gb, h.na, h.nb, h.ne, hr.chg⟩
  · rintro (e | e)
    · exact h.ne e.symm
    · exact h1.apart h2.blk (by decide) e
  · rcases hs with rfl | hs
    · exact h2.apart h1.blk (by decide) hi
    · exact h5 i hs hi
  · rcases q2 i hi with h6 | h6
    · exact h3 i h6
    · exact Nat.le_trans h.chg.size h6
  · rcases q2 i hi with h6 | h6
    · exact h5 i h6 hj
    · obtain ⟨cur, hh⟩ := own_blk h2.row hj
      have := lt_blk hh
      omega
def AddPost2 (w0 w : World) (a b : Nat) (La Lb : List Ra.Row) (f t : Int) : Ending → World → Prop := fun e w' => ∃ L', e = .returned (.int .i64 (Ra.total L' - Ra.total La)) ∧ (∀ n, Ra.mem L' n ↔ Ra.mem La n ∨ (max f 0 ≤ n ∧ n < min t Ra.M)) ∧ L'.length ≤ La.length + 1 ∧ Two w0 a b L' Lb w' ∧ Keeps w w'
theorem Two.add {w0 : World} {a b : Nat} {La Lb : List Ra.Row} {w : World} (h : Two w0 a b La Lb w) (hn : La.length ≤ 1000000) (f t : Int) : Calls Try.prog 16 #[.pointer (some ⟨a, 0, none⟩), .int .i64 f, .int .i64 t] w (AddPost2 w0 w a b La Lb f t) := by
  obtain ⟨va, vb, h1, h2, h3, h4, h5⟩ := h.at'
  refine (add_any a va La f t w h1 h.ga hn).mono ?_
  rintro e w' ⟨L', rfl, q1, q2, q3, q4⟩
  exact ⟨L', rfl, q2, q3, h.moved h1 h2 h3 h4 h5 q1 q4, q4.keeps h1⟩
def NewPost2 (w0 : World) (a : Nat) (La Lb : List Ra.Row) : Ending → World → Prop := fun e w' => ∃ b, e = .returned (.pointer (some ⟨b, 0, none⟩)) ∧ Two w0 a b La Lb w'
theorem Rn.second {w0 : World} {a b : Nat} {La Lb : List Ra.Row} {v : Value} {w w' : World} (h : Rn w0 a La w) (hg : Ra.Good Lb) (h1 : RaAt w' b v Lb) (h2 : w.heap.size ≤ b) (h3 : ∀ i, v.ownBlock = some i → w.heap.size ≤ i) (h4 : Chg Nowhere w w') : Two w0 a b La Lb w' := by
  obtain ⟨va, q1, q2⟩ := h.at'
  refine ⟨⟨va, v, q1.idle h4, h1, q2, fun i hi => Nat.le_trans h.chg.size (h3 i hi), fun i hi hj => ?_⟩, h.good, hg, h.new, Nat.le_trans h.chg.size h2, fun e => ?_, h.chg.then_none h4⟩
  · obtain ⟨cur, hh⟩ := own_blk q1.row hi
    have := lt_blk hh
    have := h3 i hj
    omega
  · have := lt_blk q1.blk
    omega
theorem Rn.new2 {w0 : World} {a : Nat} {La : List Ra.Row} {w : World} (h : Rn w0 a La w) : Calls Try.prog 15 #[] w (NewPost2 w0 a La []) := by
  refine (newRa_any w).mono ?_
  rintro e w' ⟨b, v, rfl, h1, h2, h3, h4⟩
  exact ⟨b, rfl, h.second Ra.good_nil h1 h2 h3 h4⟩
/-- A list with given numbers is that list. -/
theorem Ra.is_list {L K : List Ra.Row} {P : Int → Prop} (hL : Ra.Good L) (hK : Ra.Good K) (h : ∀ n, Ra.mem L n ↔ P n) (hk : ∀ n, Ra.mem K n ↔ P n) : L = K :=
  Ra.good_unique hL hK fun n => (h n).trans (hk n).symm
end Go.Proofs.Ytlkbfacdaelbfaa
