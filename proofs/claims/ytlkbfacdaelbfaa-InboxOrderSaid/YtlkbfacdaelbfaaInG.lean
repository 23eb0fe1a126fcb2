/-
  Package inbox: an object that a law made; the document's examples (shown).
-/
import Derived.Test.YtlkbfacdaelbfaaInF
namespace Go.Proofs.Ytlkbfacdaelbfaa
open Go.RowKit Ae
set_option linter.unusedVariables false
set_option linter.unusedSimpArgs false

/-- An inbox that a law made: its blocks are F, all new. -/
structure InS (w0 : World) (F : Nat → Prop) (wr : World) (o : Nat) (x : In) : Prop where
  at' : InAt wr o F x
  ok : x.Ok
  lo : ∀ i, F i → w0.heap.size ≤ i
  hi : ∀ i, F i → i < wr.heap.size
  chg : Chg Nowhere w0 wr
theorem InS.idle {w0 wr w' : World} {F : Nat → Prop} {o : Nat} {x : In} (h : InS w0 F wr o x) (hc : Chg Nowhere wr w') : InS w0 F w' o x :=
  ⟨h.at'.idle hc, h.ok, h.lo, fun i hi => Nat.lt_of_lt_of_le (h.hi i hi) hc.size, h.chg.then_none hc⟩
/-- Something else is changed. -/
theorem InS.other {w0 wr w' : World} {F S : Nat → Prop} {o : Nat} {x : In} (h : InS w0 F wr o x) (hc : Chg S wr w') (h1 : ∀ i, S i → ¬ F i) (h2 : ∀ i, S i → w0.heap.size ≤ i) : InS w0 F w' o x :=
  ⟨h.at'.chg hc h1, h.ok, h.lo, fun i hi => Nat.lt_of_lt_of_le (h.hi i hi) hc.size, h.chg.trans hc fun i hi hs => absurd (h2 i hs) (by omega)⟩
/-- What was there ahead of the law is read as before. -/
theorem InS.old {w0 wr w' : World} {F : Nat → Prop} {o : Nat} {x : In} (h : InS w0 F wr o x) (hc : Chg F wr w') : Chg Nowhere w0 w' :=
  h.chg.trans hc fun i hi hs => absurd (h.lo i hs) (by omega)
def InSNew (w0 w : World) (x : In) : Ending → World → Prop := fun e w' => ∃ o F, e = .returned (.pointer (some ⟨o, 0, none⟩)) ∧ InS w0 F w' o x ∧ (∀ i, F i → w.heap.size ≤ i) ∧ Chg Nowhere w w'
theorem InS.new_ (w0 w : World) (hc : Chg Nowhere w0 w) (n : Int) (s : Nat) (hs : (s : Int) = max 1 (min n 1048576)) : Calls Try.prog 35 #[.int .i64 n] w (InSNew w0 w (In.start s)) := by
  refine (newIn_any n s w hs).mono ?_
  rintro e w' ⟨o, rfl, h1, h2⟩
  refine ⟨o, _, rfl, ⟨h1, In.start_ok (by omega) (by omega), fun i hi => ?_, fun i hi => ?_, hc.then_none h2⟩, fun i hi => ?_, h2⟩
  · rcases hi with hi | hi
    · exact hi.elim
    · exact Nat.le_trans hc.size hi.1
  · rcases hi with hi | hi
    · exact hi.elim
    · exact hi.2
  · rcases hi with hi | hi
    · exact hi.elim
    · exact hi.1
def InSTake (w0 : World) (F : Nat → Prop) (w : World) (o : Nat) (x : In) (at_ : Int) (l : List Nat) : Ending → World → Prop := fun e w' => ∃ x' F', e = .returned (.int .i64 (Ra.total x'.L - Ra.total x.L)) ∧ x.Put x' (x.lo at_) (x.hi at_ l.length) (fun n => l.getD (n - at_).toNat 0) ∧ InS w0 F' w' o x' ∧ (∀ i, F' i → F i ∨ w.heap.size ≤ i) ∧ Chg F w w'
theorem InS.take {w0 : World} {F : Nat → Prop} {w : World} {o : Nat} {x : In} (h : InS w0 F w o x) (hd : x.done ≤ 800000) (at_ : Int) (v : Value) (l : List Nat) (hb : ∀ w', Chg F w w' → RdB w' v l) (hby : Byt l) (hl : l.length ≤ 1000000) : Calls Try.prog 37 #[.pointer (some ⟨o, 0, none⟩), .int .i64 at_, v] w (InSTake w0 F w o x at_ l) := by
  refine (takeIn_any o F x at_ v l w h.at' h.ok hd hb hby hl).mono ?_
  rintro e w' ⟨x', rfl, h1, h2, h3⟩
  refine ⟨x', _, rfl, h1, ⟨h2, h1.ok, fun i hi => ?_, fun i hi => ?_, h.old h3⟩, fun i hi => hi.elim .inl (fun h => .inr h.1), h3⟩
  · rcases hi with hi | hi
    · exact h.lo i hi
    · exact Nat.le_trans h.chg.size hi.1
  · rcases hi with hi | hi
    · exact Nat.lt_of_lt_of_le (h.hi i hi) h3.size
    · exact hi.2
def InSRead (w0 : World) (F : Nat → Prop) (w : World) (o : Nat) (x : In) (most : Int) : Ending → World → Prop := fun e w' => ∃ (v : Value) (y : Int) (n : Nat) (F' : Nat → Prop), e = .returned v ∧ NextIs x.L x.done y ∧ (n : Int) = min (y - x.done) (max most 0) ∧ OwnB w w' v (x.bs.take n) ∧ InS w0 F' w' o (x.read n) ∧ (∀ i, F' i → F i ∨ w.heap.size ≤ i) ∧ (∀ i, v.ownBlock = some i → ¬ F' i) ∧ Chg F w w'
theorem InS.read {w0 : World} {F : Nat → Prop} {w : World} {o : Nat} {x : In} (h : InS w0 F w o x) (hd : x.done ≤ 800000) (most : Int) : Calls Try.prog 38 #[.pointer (some ⟨o, 0, none⟩), .int .i64 most] w (InSRead w0 F w o x most) := by
  refine (readIn_any o F x most w h.at' h.ok (by omega)).mono ?_
  rintro e w' ⟨v, y, n, F', rfl, h1, h2, h3, h4, h5, h6, h7⟩
  refine ⟨v, y, n, F', rfl, h1, h2, h3, ⟨h4, h.ok.read h1 (by omega), fun i hi => ?_, fun i hi => ?_, h.old h7⟩, fun i hi => (h5 i hi).elim .inl (fun h => .inr h.1), h6, h7⟩
  · rcases h5 i hi with h8 | h8
    · exact h.lo i h8
    · exact Nat.le_trans h.chg.size h8.1
  · rcases h5 i hi with h8 | h8
    · exact Nat.lt_of_lt_of_le (h.hi i h8) h7.size
    · exact h8.2
theorem InS.held {w0 : World} {F : Nat → Prop} {w : World} {o : Nat} {x : In} (h : InS w0 F w o x) (hd : x.done ≤ 800000) : Calls Try.prog 39 #[.pointer (some ⟨o, 0, none⟩)] w (Gives w (.int .i64 (Ra.total x.L - (x.done : Int)))) := heldIn_any o F x w h.at' h.ok (by omega)
theorem InS.limit {w0 : World} {F : Nat → Prop} {w : World} {o : Nat} {x : In} (h : InS w0 F w o x) (hd : x.done ≤ 800000) : Calls Try.prog 42 #[.pointer (some ⟨o, 0, none⟩)] w (Gives w (.int .i64 ((x.done : Int) + (x.size : Int)))) := limIn_any o F x w h.at' (by omega) h.ok.s2
theorem InS.done {w0 : World} {F : Nat → Prop} {w : World} {o : Nat} {x : In} (h : InS w0 F w o x) : Calls Try.prog 40 #[.pointer (some ⟨o, 0, none⟩)] w (Gives w (.int .i64 (x.done : Int))) := doneIn_any o F x w h.at'
theorem InS.here {w0 : World} {F : Nat → Prop} {w : World} {o : Nat} {x : In} (h : InS w0 F w o x) (hd : x.done ≤ 800000) {y : Int} (hy : NextIs x.L x.done y) : Calls Try.prog 43 #[.pointer (some ⟨o, 0, none⟩)] w (Gives w (.int .i64 y)) :=
  (hereIn_any o F x w h.at' h.ok (by omega)).mono fun e w' ⟨z, h1, h2, h3⟩ => ⟨by rw [hy.only h2]; exact h1, h3⟩
/-- A row that lies whole in its block, marked or not, is read. -/
theorem rd_blk2 {w : World} {g n : Nat} {l : List Nat} {t : TypeId} {fr : Nat × Nat} (h : w.heap[g]? = some (.cells (bs l) t fr)) (hn : l.length = n) : RdB w (.slice (some ⟨g, 0, none⟩) n n) l := by
  subst hn
  refine ⟨by rw [bl_len]; omega, _, _, rfl, Nat.le_refl _, fun _ => ⟨g, 0, rfl, (Array.getElem?_eq_some_iff.1 h).1, fun j hj => ?_⟩⟩
  rw [Nat.zero_add]
  simp [World.cell?, h, bs]
/-- A literal of bytes, taken. -/
theorem InS.lit {w0 : World} {F : Nat → Prop} {w : World} {o : Nat} {x : In} (h : InS w0 F w o x) (hd : x.done ≤ 800000) (at_ : Int) (l : List Nat) (n : Nat) (hn : n = l.length) (fr : Nat × Nat) (hby : Byt l) (hl : l.length ≤ 1000000) : Calls Try.prog 37 #[.pointer (some ⟨o, 0, none⟩), .int .i64 at_, .slice (some ⟨w.heap.size, 0, none⟩) n n] (w.alloc (.cells (bs l) 5 fr)) (InSTake w0 F (w.alloc (.cells (bs l) 5 fr)) o x at_ l) := by
  refine (h.idle ((Chg.refl Nowhere w).alloc _)).take hd at_ _ l (fun w' hc => ?_) hby hl
  exact rd_blk2 (hc.keep (alloc_new w _) fun hF => Nat.lt_irrefl _ (h.hi _ hF)) hn.symm
end Go.Proofs.Ytlkbfacdaelbfaa
