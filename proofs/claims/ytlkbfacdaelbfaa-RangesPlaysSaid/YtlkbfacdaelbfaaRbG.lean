/-
  Layer 17: an object of the program's and one of the document's, side by side; what an answer is is told by the list alone.
-/
import Derived.Test.YtlkbfacdaelbfaaRbF
namespace Go.Proofs.Ytlkbfacdaelbfaa
open Go.RowKit
set_option linter.unusedVariables false

theorem NextIs.only {L : List Ra.Row} {n x y : Int} (h : NextIs L n x) (k : NextIs L n y) : x = y := by
  rcases Int.lt_trichotomy x y with h1 | h1 | h1
  · exact absurd (k.all x h.ge h1) h.no
  · exact h1
  · exact absurd (h.all y k.ge h1) k.no
theorem GapIs.only {L : List Ra.Row} {f t : Int} {g g2 : Ra.Row} {b b2 : Bool} (h : GapIs L f t g b) (k : GapIs L f t g2 b2) : g = g2 ∧ b = b2 := by
  cases b with
  | false =>
    cases b2 with
    | false => exact ⟨(h.no rfl).1.trans (k.no rfl).1.symm, rfl⟩
    | true =>
      obtain ⟨p1, p2, p3, p4⟩ := k.yes rfl
      exact absurd ((h.no rfl).2 g2.1 p1.1 (by omega)) (p3 g2.1 (by omega) (by omega))
  | true =>
    obtain ⟨q1, q2, q3, q4⟩ := h.yes rfl
    cases b2 with
    | false => exact absurd ((k.no rfl).2 g.1 q1.1 (by omega)) (q3 g.1 (by omega) (by omega))
    | true =>
      obtain ⟨p1, p2, p3, p4⟩ := k.yes rfl
      have e1 : g.1 = g2.1 := by
        rcases Int.lt_trichotomy g.1 g2.1 with h1 | h1 | h1
        · exact absurd (p2 g.1 q1.1 h1) (q3 g.1 (by omega) (by omega))
        · exact h1
        · exact absurd (q2 g2.1 p1.1 h1) (p3 g2.1 (by omega) (by omega))
      have e2 : g.2 = g2.2 := by
        rcases Int.lt_trichotomy g.2 g2.2 with h1 | h1 | h1
        · rcases q4 with h2 | h2
          · omega
          · exact absurd h2 (p3 g.2 (by omega) h1)
        · exact h1
        · rcases p4 with h2 | h2
          · omega
          · exact absurd h2 (q3 g2.2 (by omega) h1)
      exact ⟨Prod.ext e1 e2, rfl⟩
theorem iff_only {b c : Bool} {P : Prop} (h : b = true ↔ P) (k : c = true ↔ P) : b = c := by
  cases b <;> cases c <;> simp_all
/-- Blocks of other types than those of ranges stay. -/
def Keeps3 (w w' : World) : Prop := ∀ (g : Nat) (cs : Array Value) (t : TypeId), t ≠ 33 → t ≠ 89 → t ≠ 42 → w.heap[g]? = some (.cells cs t (0, 0)) → w'.heap[g]? = some (.cells cs t (0, 0))
theorem Keeps3.of_chg {w w' : World} (h : Chg Nowhere w w') : Keeps3 w w' := fun g cs t _ _ _ hg => h.same hg
theorem Keeps3.trans {a b c : World} (h : Keeps3 a b) (k : Keeps3 b c) : Keeps3 a c := fun g cs t h1 h2 h3 hg => k g cs t h1 h2 h3 (h g cs t h1 h2 h3 hg)
theorem Moved.keeps3 {w w' : World} {o : Nat} {v : Value} {L L' : List Ra.Row} (h : RaAt w o v L) (m : Moved w o v L' w') : Keeps3 w w' := fun g cs t h1 h2 _ hg => m.keeps h g cs t h1 h2 hg
theorem RMoved.keeps3 {w w' : World} {o : Nat} {v : Value} {L L' : List Ra.Row} (h : RbAt w o v L) (m : RMoved w o v L' w') : Keeps3 w w' := fun g cs t h1 _ h2 hg => by
  refine m.chg.keep hg ?_
  rintro (rfl | e)
  · rw [h.blk] at hg
    simp only [Option.some.injEq, Obj.cells.injEq] at hg
    exact h2 hg.2.1.symm
  · obtain ⟨cur, hh⟩ := own_blk h.row e
    rw [hg] at hh
    simp only [Option.some.injEq, Obj.cells.injEq] at hh
    exact h1 hh.2.1
/-- One of the program's, one of the document's. -/
structure Both (w0 : World) (a b : Nat) (La Lb : List Ra.Row) (w : World) : Prop where
  at' : ∃ va vb, RaAt w a va La ∧ RbAt w b vb Lb ∧ (∀ i, va.ownBlock = some i → w0.heap.size ≤ i) ∧ (∀ i, vb.ownBlock = some i → w0.heap.size ≤ i) ∧ (∀ i, va.ownBlock = some i → vb.ownBlock ≠ some i)
  ga : Ra.Good La
  gb : Ra.Good Lb
  na : w0.heap.size ≤ a
  nb : w0.heap.size ≤ b
  chg : Chg Nowhere w0 w
theorem Both.idle {w0 : World} {a b : Nat} {La Lb : List Ra.Row} {w w' : World} (h : Both w0 a b La Lb w) (hc : Chg Nowhere w w') : Both w0 a b La Lb w' := by
  obtain ⟨va, vb, h1, h2, h3⟩ := h.at'
  exact ⟨⟨va, vb, h1.idle hc, h2.idle hc, h3⟩, h.ga, h.gb, h.na, h.nb, h.chg.then_none hc⟩
theorem Both.a {w0 : World} {a b : Nat} {La Lb : List Ra.Row} {w : World} (h : Both w0 a b La Lb w) : Rn w0 a La w := by
  obtain ⟨va, vb, h1, h2, h3, h4, h5⟩ := h.at'
  exact ⟨⟨va, h1, h3⟩, h.ga, h.na, h.chg⟩
theorem Both.b {w0 : World} {a b : Nat} {La Lb : List Ra.Row} {w : World} (h : Both w0 a b La Lb w) : ∃ vb, RbAt w b vb Lb := by
  obtain ⟨va, vb, h1, h2, h3, h4, h5⟩ := h.at'
  exact ⟨vb, h2⟩
theorem Both.ne {w0 : World} {a b : Nat} {La Lb : List Ra.Row} {w : World} (h : Both w0 a b La Lb w) : a ≠ b := by
  rintro rfl
  obtain ⟨va, vb, h1, h2, h3, h4, h5⟩ := h.at'
  have := h1.blk
  rw [h2.blk] at this
  simp at this
theorem Both.moved {w0 : World} {a b : Nat} {La Lb La' : List Ra.Row} {w w' : World} {va vb : Value} (h : Both w0 a b La Lb w) (h1 : RaAt w a va La) (h2 : RbAt w b vb Lb) (h3 : ∀ i, va.ownBlock = some i → w0.heap.size ≤ i) (h4 : ∀ i, vb.ownBlock = some i → w0.heap.size ≤ i) (h5 : ∀ i, va.ownBlock = some i → vb.ownBlock ≠ some i) (hg : Ra.Good La') (hm : Moved w a va La' w') : Both w0 a b La' Lb w' := by
  have hr := Rn.moved h.chg h.na h3 hg hm
  obtain ⟨⟨va', q1, q2⟩, q3⟩ := hm
  refine ⟨⟨va', vb, q1, h2.chg q3 ?_ (fun i hi hs => ?_), fun i hi => ?_, h4, fun i hi hj => ?_⟩, hg, h.gb, h.na, h.nb, hr.chg⟩
  · rintro (e | e)
    · exact h.ne e.symm
    · exact h1.apart h2.blk (by decide) e
  · rcases hs with rfl | hs
    · exact h2.apart h1.blk (by decide) hi
    · exact h5 i hs hi
  · rcases q2 i hi with h6 | h6
    · exact h3 i h6
    · exact Nat.le_trans h.chg.size h6
  · rcases q2 i hi with h6 | h6
    · exact h5 i h6 hj
    · obtain ⟨cur, hh⟩ := own_blk h2.row hj
      have := lt_blk hh
      omega
theorem Both.rmoved {w0 : World} {a b : Nat} {La Lb Lb' : List Ra.Row} {w w' : World} {va vb : Value} (h : Both w0 a b La Lb w) (h1 : RaAt w a va La) (h2 : RbAt w b vb Lb) (h3 : ∀ i, va.ownBlock = some i → w0.heap.size ≤ i) (h4 : ∀ i, vb.ownBlock = some i → w0.heap.size ≤ i) (h5 : ∀ i, va.ownBlock = some i → vb.ownBlock ≠ some i) (hg : Ra.Good Lb') (hm : RMoved w b vb Lb' w') : Both w0 a b La Lb' w' := by
  obtain ⟨⟨vb', q1, q2⟩, q3⟩ := hm
  refine ⟨⟨va, vb', h1.chg q3 ?_ (fun i hi hs => ?_), q1, h3, fun i hi => ?_, fun i hi hj => ?_⟩, h.ga, hg, h.na, h.nb, h.chg.trans q3 fun i hi hs => ?_⟩
  · rintro (e | e)
    · exact h.ne e
    · exact h2.apart h1.blk (by decide) e
  · rcases hs with rfl | hs
    · exact h1.apart h2.blk (by decide) hi
    · exact h5 i hi hs
  · rcases q2 i hi with h6 | h6
    · exact h4 i h6
    · exact Nat.le_trans h.chg.size h6
  · rcases q2 i hj with h6 | h6
    · exact h5 i hi h6
    · obtain ⟨cur, hh⟩ := own_blk h1.row hi
      have := lt_blk hh
      omega
  · have := h.nb
    rcases hs with rfl | hs
    · omega
    · have := h4 i hs
      omega
def BAdd (w0 w : World) (a b : Nat) (La Lb : List Ra.Row) (f t : Int) : Ending → World → Prop := fun e w' => ∃ L', e = .returned (.int .i64 (Ra.total L' - Ra.total La)) ∧ (∀ n, Ra.mem L' n ↔ Ra.mem La n ∨ (max f 0 ≤ n ∧ n < min t Ra.M)) ∧ L'.length ≤ La.length + 1 ∧ Both w0 a b L' Lb w' ∧ Keeps3 w w'
theorem Both.add {w0 : World} {a b : Nat} {La Lb : List Ra.Row} {w : World} (h : Both w0 a b La Lb w) (hn : La.length ≤ 1000000) (f t : Int) : Calls Try.prog 16 #[.pointer (some ⟨a, 0, none⟩), .int .i64 f, .int .i64 t] w (BAdd w0 w a b La Lb f t) := by
  obtain ⟨va, vb, h1, h2, h3, h4, h5⟩ := h.at'
  refine (add_any a va La f t w h1 h.ga hn).mono ?_
  rintro e w' ⟨L', rfl, q1, q2, q3, q4⟩
  exact ⟨L', rfl, q2, q3, h.moved h1 h2 h3 h4 h5 q1 q4, q4.keeps3 h1⟩
/-- The document's side, behind the program's: the lists are one again, and the answers too. -/
def BRAdd (w0 w : World) (a b : Nat) (L0 L : List Ra.Row) (d : Int) : Ending → World → Prop := fun e w' => e = .returned (.int .i64 d) ∧ Both w0 a b L L w' ∧ Keeps3 w w'
theorem Both.radd {w0 : World} {a b : Nat} {L0 L : List Ra.Row} {w : World} (h : Both w0 a b L L0 w) (hn : L0.length ≤ 1000000) (f t : Int) (hm : ∀ n, Ra.mem L n ↔ Ra.mem L0 n ∨ (max f 0 ≤ n ∧ n < min t Ra.M)) : Calls Try.prog 22 #[.pointer (some ⟨b, 0, none⟩), .int .i64 f, .int .i64 t] w (BRAdd w0 w a b L0 L (Ra.total L - Ra.total L0)) := by
  obtain ⟨va, vb, h1, h2, h3, h4, h5⟩ := h.at'
  refine (radd_any b vb L0 f t w h2 h.gb hn).mono ?_
  rintro e w' ⟨L', rfl, q1, q2, q3, q4⟩
  obtain rfl : L' = L := Ra.is_list q1 h.ga q2 hm
  exact ⟨rfl, h.rmoved h1 h2 h3 h4 h5 q1 q4, q4.keeps3 h2⟩
def BSub (w0 w : World) (a b : Nat) (La Lb : List Ra.Row) (f t : Int) : Ending → World → Prop := fun e w' => ∃ L', e = .returned (.int .i64 (Ra.total La - Ra.total L')) ∧ (∀ n, Ra.mem L' n ↔ Ra.mem La n ∧ ¬ (max f 0 ≤ n ∧ n < min t Ra.M)) ∧ L'.length ≤ La.length + 1 ∧ Both w0 a b L' Lb w' ∧ Keeps3 w w'
theorem Both.cut {w0 : World} {a b : Nat} {La Lb : List Ra.Row} {w : World} (h : Both w0 a b La Lb w) (hn : La.length ≤ 1000000) (f t : Int) : Calls Try.prog 23 #[.pointer (some ⟨a, 0, none⟩), .int .i64 f, .int .i64 t] w (BSub w0 w a b La Lb f t) := by
  obtain ⟨va, vb, h1, h2, h3, h4, h5⟩ := h.at'
  refine (cut_any a va La f t w h1 h.ga hn).mono ?_
  rintro e w' ⟨L', rfl, q1, q2, q3, q4⟩
  exact ⟨L', rfl, q2, q3, h.moved h1 h2 h3 h4 h5 q1 q4, q4.keeps3 h1⟩
theorem Both.rcut {w0 : World} {a b : Nat} {L0 L : List Ra.Row} {w : World} (h : Both w0 a b L L0 w) (hn : L0.length ≤ 1000000) (f t : Int) (hm : ∀ n, Ra.mem L n ↔ Ra.mem L0 n ∧ ¬ (max f 0 ≤ n ∧ n < min t Ra.M)) : Calls Try.prog 24 #[.pointer (some ⟨b, 0, none⟩), .int .i64 f, .int .i64 t] w (BRAdd w0 w a b L0 L (Ra.total L0 - Ra.total L)) := by
  obtain ⟨va, vb, h1, h2, h3, h4, h5⟩ := h.at'
  refine (rcut_any b vb L0 f t w h2 h.gb hn).mono ?_
  rintro e w' ⟨L', rfl, q1, q2, q3, q4⟩
  obtain rfl : L' = L := Ra.is_list q1 h.ga q2 hm
  exact ⟨rfl, h.rmoved h1 h2 h3 h4 h5 q1 q4, q4.keeps3 h2⟩
/-- A clone takes the program's place: three objects. -/
structure Trio (w0 : World) (a b c : Nat) (La Lb Lc : List Ra.Row) (w : World) : Prop where
  at' : ∃ va vb vc, RaAt w a va La ∧ RbAt w b vb Lb ∧ RaAt w c vc Lc ∧ (∀ i, va.ownBlock = some i → w0.heap.size ≤ i) ∧ (∀ i, vb.ownBlock = some i → w0.heap.size ≤ i) ∧ (∀ i, vc.ownBlock = some i → w0.heap.size ≤ i) ∧ (∀ i, va.ownBlock = some i → vb.ownBlock ≠ some i ∧ vc.ownBlock ≠ some i) ∧ (∀ i, vb.ownBlock = some i → vc.ownBlock ≠ some i)
  ga : Ra.Good La
  gb : Ra.Good Lb
  gc : Ra.Good Lc
  na : w0.heap.size ≤ a
  nb : w0.heap.size ≤ b
  nc : w0.heap.size ≤ c
  ne : a ≠ c
  chg : Chg Nowhere w0 w
def BClone (w0 w : World) (a b : Nat) (La Lb : List Ra.Row) : Ending → World → Prop := fun e w' => ∃ c, e = .returned (.pointer (some ⟨c, 0, none⟩)) ∧ Trio w0 a b c La Lb La w' ∧ Chg Nowhere w w'
theorem Both.clone {w0 : World} {a b : Nat} {La Lb : List Ra.Row} {w : World} (h : Both w0 a b La Lb w) (hn : La.length ≤ 1000000) : Calls Try.prog 25 #[.pointer (some ⟨a, 0, none⟩)] w (BClone w0 w a b La Lb) := by
  obtain ⟨va, vb, h1, h2, h3, h4, h5⟩ := h.at'
  refine (cloneRa_any a va La w h1 (by omega)).mono ?_
  rintro e w' ⟨c, vc, rfl, q1, q2, q3, q4⟩
  refine ⟨c, rfl, ⟨⟨va, vb, vc, h1.idle q4, h2.idle q4, q1, h3, h4, fun i hi => Nat.le_trans h.chg.size (q3 i hi), fun i hi => ⟨h5 i hi, fun hj => ?_⟩, fun i hi hj => ?_⟩, h.ga, h.gb, h.ga, h.na, h.nb, Nat.le_trans h.chg.size q2, fun e => ?_, h.chg.then_none q4⟩, q4⟩
  · obtain ⟨cur, hh⟩ := own_blk h1.row hi
    have := lt_blk hh
    have := q3 i hj
    omega
  · obtain ⟨cur, hh⟩ := own_blk h2.row hi
    have := lt_blk hh
    have := q3 i hj
    omega
  · have := lt_blk h1.blk
    omega
def BOld (w0 w : World) (b c : Nat) (Lb Lc : List Ra.Row) : Ending → World → Prop := fun e w' => ∃ x, e = .returned (.int .i64 x) ∧ Both w0 c b Lc Lb w' ∧ Keeps3 w w'
theorem Trio.old {w0 : World} {a b c : Nat} {La Lb Lc : List Ra.Row} {w : World} (h : Trio w0 a b c La Lb Lc w) (hn : La.length ≤ 1000000) (f t : Int) : Calls Try.prog 16 #[.pointer (some ⟨a, 0, none⟩), .int .i64 f, .int .i64 t] w (BOld w0 w b c Lb Lc) := by
  obtain ⟨va, vb, vc, h1, h2, h3, h4, h5, h6, h7, h8⟩ := h.at'
  refine (add_any a va La f t w h1 h.ga hn).mono ?_
  rintro e w' ⟨L', rfl, q1, q2, q3, q4⟩
  refine ⟨_, rfl, ⟨⟨vc, vb, h3.chg q4.chg ?_ (fun i hi hs => ?_), h2.chg q4.chg ?_ (fun i hi hs => ?_), h6, h5, fun i hi hj => h8 i hj hi⟩, h.gc, h.gb, h.nc, h.nb, h.chg.trans q4.chg fun i hi hs => ?_⟩, q4.keeps3 h1⟩
  · rintro (e | e)
    · exact h.ne e.symm
    · exact h1.apart h3.blk (by decide) e
  · rcases hs with rfl | hs
    · exact h3.apart h1.blk (by decide) hi
    · exact (h7 i hs).2 hi
  · rintro (e | e)
    · subst e
      have := h1.blk
      rw [h2.blk] at this
      simp at this
    · exact h1.apart h2.blk (by decide) e
  · rcases hs with rfl | hs
    · exact h2.apart h1.blk (by decide) hi
    · exact (h7 i hs).1 hi
  · have := h.na
    rcases hs with rfl | hs
    · omega
    · have := h4 i hs
      omega
/-- The document's own, made by the law. -/
theorem Rn.both {w0 : World} {a : Nat} {La : List Ra.Row} {w : World} (h : Rn w0 a La w) : Both w0 a w.heap.size La [] (w.alloc (.cells #[.slice none 0 0] 42)) := by
  obtain ⟨va, q1, q2⟩ := h.at'
  have hc : Chg Nowhere w (w.alloc (.cells #[.slice none 0 0] 42)) := (Chg.refl _ _).alloc _
  exact ⟨⟨va, .slice none 0 0, q1.idle hc, ⟨alloc_new _ _, ⟨rfl, .inl ⟨rfl, rfl⟩⟩⟩, q2, fun i hi => by simp [Value.ownBlock] at hi, fun i _ hj => by simp [Value.ownBlock] at hj⟩, h.good, Ra.good_nil, h.new, h.chg.size, h.chg.then_none hc⟩
/-- The questions, side by side: the document's answers are the program's. -/
theorem Both.rgap {w0 : World} {a b : Nat} {La L : List Ra.Row} {w : World} (h : Both w0 a b La L w) (hn : L.length ≤ 1000000) (f t : Int) {g : Ra.Row} {x : Bool} (hg : GapIs L f t g x) : Calls Try.prog 26 #[.pointer (some ⟨b, 0, none⟩), .int .i64 f, .int .i64 t] w (Gives w (.tuple #[.agg #[.int .i64 g.1, .int .i64 g.2], .bool x])) := by
  obtain ⟨vb, h2⟩ := h.b
  refine (rgap_any b vb L f t w h2 h.gb (by omega)).mono ?_
  rintro e w' ⟨g2, x2, rfl, q1, q2⟩
  obtain ⟨rfl, rfl⟩ := hg.only q1
  exact ⟨rfl, q2⟩
theorem Both.rhas {w0 : World} {a b : Nat} {La L : List Ra.Row} {w : World} (h : Both w0 a b La L w) (hn : L.length ≤ 1000000) (n : Int) {x : Bool} (hx : x = true ↔ Ra.mem L n) : Calls Try.prog 29 #[.pointer (some ⟨b, 0, none⟩), .int .i64 n] w (Gives w (.bool x)) := by
  obtain ⟨vb, h2⟩ := h.b
  refine (rhas_any b vb L n w h2 (by omega)).mono ?_
  rintro e w' ⟨x2, rfl, q1, q2⟩
  obtain rfl := iff_only hx q1
  exact ⟨rfl, q2⟩
theorem Both.rnext {w0 : World} {a b : Nat} {La L : List Ra.Row} {w : World} (h : Both w0 a b La L w) (hn : L.length ≤ 1000000) (n : Int) {x : Int} (hx : NextIs L n x) : Calls Try.prog 31 #[.pointer (some ⟨b, 0, none⟩), .int .i64 n] w (Gives w (.int .i64 x)) := by
  obtain ⟨vb, h2⟩ := h.b
  refine (rnext_any b vb L n w h2 h.gb (by omega)).mono ?_
  rintro e w' ⟨x2, rfl, q1, q2⟩
  obtain rfl := hx.only q1
  exact ⟨rfl, q2⟩
theorem Both.rcovers {w0 : World} {a b : Nat} {La L : List Ra.Row} {w : World} (h : Both w0 a b La L w) (hn : L.length ≤ 1000000) (f t : Int) {x : Bool} (hx : x = true ↔ ∀ y, max f 0 ≤ y → y < min t Ra.M → Ra.mem L y) : Calls Try.prog 33 #[.pointer (some ⟨b, 0, none⟩), .int .i64 f, .int .i64 t] w (Gives w (.bool x)) := by
  obtain ⟨vb, h2⟩ := h.b
  refine (rcovers_any b vb L f t w h2 h.gb (by omega)).mono ?_
  rintro e w' ⟨x2, rfl, q1, q2⟩
  obtain rfl := iff_only hx q1
  exact ⟨rfl, q2⟩
theorem Both.rhas0 {w0 : World} {a b : Nat} {La L : List Ra.Row} {w : World} (h : Both w0 a b La L w) (hn : L.length ≤ 1000000) (n : Int) : Calls Try.prog 29 #[.pointer (some ⟨b, 0, none⟩), .int .i64 n] w (GivesHas w L n) := by
  obtain ⟨vb, h2⟩ := h.b
  exact rhas_any b vb L n w h2 (by omega)
theorem Both.rnext0 {w0 : World} {a b : Nat} {La L : List Ra.Row} {w : World} (h : Both w0 a b La L w) (hn : L.length ≤ 1000000) (n : Int) : Calls Try.prog 31 #[.pointer (some ⟨b, 0, none⟩), .int .i64 n] w (GivesNext w L n) := by
  obtain ⟨vb, h2⟩ := h.b
  exact rnext_any b vb L n w h2 h.gb (by omega)
theorem Both.rcov0 {w0 : World} {a b : Nat} {La L : List Ra.Row} {w : World} (h : Both w0 a b La L w) (hn : L.length ≤ 1000000) (f t : Int) : Calls Try.prog 33 #[.pointer (some ⟨b, 0, none⟩), .int .i64 f, .int .i64 t] w (GivesCov w L f t) := by
  obtain ⟨vb, h2⟩ := h.b
  exact rcovers_any b vb L f t w h2 h.gb (by omega)
theorem Both.rtotal {w0 : World} {a b : Nat} {La L : List Ra.Row} {w : World} (h : Both w0 a b La L w) (hn : L.length ≤ 1000000) : Calls Try.prog 28 #[.pointer (some ⟨b, 0, none⟩)] w (Gives w (.int .i64 (Ra.total L))) := by
  obtain ⟨vb, h2⟩ := h.b
  exact rtotal_any b vb L w h2 h.gb (by omega)
/-- The answers, by name. -/
noncomputable def nxtV (L : List Ra.Row) (n : Int) : Int := Classical.epsilon fun x => NextIs L n x
noncomputable def hasV (L : List Ra.Row) (n : Int) : Bool := @decide _ (Classical.propDecidable (Ra.mem L n))
noncomputable def covV (L : List Ra.Row) (f t : Int) : Bool := @decide _ (Classical.propDecidable (∀ y, max f 0 ≤ y → y < min t Ra.M → Ra.mem L y))
theorem nxtV_is {L : List Ra.Row} {n x : Int} (h : NextIs L n x) : nxtV L n = x := (Classical.epsilon_spec (p := fun x => NextIs L n x) ⟨x, h⟩ : NextIs L n (nxtV L n)).only h
theorem hasV_is {L : List Ra.Row} {n : Int} {b : Bool} (h : b = true ↔ Ra.mem L n) : hasV L n = b := iff_only (by unfold hasV; exact @decide_eq_true_iff _ (Classical.propDecidable _)) h
theorem covV_is {L : List Ra.Row} {f t : Int} {b : Bool} (h : b = true ↔ ∀ y, max f 0 ≤ y → y < min t Ra.M → Ra.mem L y) : covV L f t = b := iff_only (by unfold covV; exact @decide_eq_true_iff _ (Classical.propDecidable _)) h
theorem Calls.next_v {p : Program} {f : FuncId} {a : Array Value} {w : World} {L : List Ra.Row} {n : Int} (h : Calls p f a w (GivesNext w L n)) : Calls p f a w (Gives w (.int .i64 (nxtV L n))) := h.mono fun e w' ⟨x, h1, h2, h3⟩ => ⟨by rw [nxtV_is h2]; exact h1, h3⟩
theorem Calls.has_v {p : Program} {f : FuncId} {a : Array Value} {w : World} {L : List Ra.Row} {n : Int} (h : Calls p f a w (GivesHas w L n)) : Calls p f a w (Gives w (.bool (hasV L n))) := h.mono fun e w' ⟨x, h1, h2, h3⟩ => ⟨by rw [hasV_is h2]; exact h1, h3⟩
theorem Calls.cov_v {p : Program} {f : FuncId} {a : Array Value} {w : World} {L : List Ra.Row} {s t : Int} (h : Calls p f a w (GivesCov w L s t)) : Calls p f a w (Gives w (.bool (covV L s t))) := h.mono fun e w' ⟨x, h1, h2, h3⟩ => ⟨by rw [covV_is h2]; exact h1, h3⟩
end Go.Proofs.Ytlkbfacdaelbfaa
