/-
  SchedPlays: what its walk keeps.
-/
import Derived.Test.YtiijnhgafadokaaSchPlA
import Derived.Test.YtiijnhgafadokaaSchSmall
import Derived.Test.YtiijnhgafadokaaSchC2
import Derived.Test.YtiijnhgafadokaaSchOp2
import Derived.Test.YtiijnhgafadokaaRsS
namespace Go.Proofs.Ytiijnhgafadokaa
open Go.RowKit
set_option linter.unusedVariables false

theorem rng_ref {B : Nat} {w w' : World} {base n : Nat} {v : Value} {xs : List Value} (h : w.ownsRow base 49 2 v n xs) (hc : ChgR B w w') : w'.ownsRow base 49 2 v n xs :=
  own_chg h hc fun i hi hs => by
    obtain ⟨cur, hh⟩ := own_blk h hi
    exact mineR_not hh (by decide) hs
theorem OpAt.refs {B : Nat} {w w' : World} {d : Nat} {zk zid zn zm : Int} {vl va vr : Value} (h : OpAt w d zk zid zn zm vl va vr) (hc : ChgR B w w') : OpAt w' d zk zid zn zm vl va vr :=
  Chg.keep hc h fun hs => mineR_not h (by decide) hs
/-- Both schedulers, alike; at most n records and paths. -/
structure Pl (w0 : World) (s N y : Nat) (S : Sch) (R : RSch) (n : Nat) (w : World) : Prop where
  is : SchIs (fun i => w0.heap.size ≤ i) w s N S
  ref : RSIs w0.heap.size w y R
  rel : Rel S R
  sm : Small S R n
  chg : Chg Nowhere w0 w
theorem Pl.zone {w0 : World} {s N y : Nat} {S : Sch} {R : RSch} {n : Nat} {w : World} (h : Pl w0 s N y S R n w) : ∀ i, w.heap.size ≤ i → w0.heap.size ≤ i := fun i hi => by have := h.chg.size; omega
theorem Pl.idle {w0 : World} {s N y : Nat} {S : Sch} {R : RSch} {n : Nat} {w w' : World} (h : Pl w0 s N y S R n w) (hc : Chg Nowhere w w') : Pl w0 s N y S R n w' := ⟨h.is.idle hc, h.ref.idle hc, h.rel, h.sm, h.chg.trans' hc⟩
theorem chg_zone {w0 w w' : World} (h : Chg Nowhere w0 w) (hc : ChgZ (fun i => w0.heap.size ≤ i) w w') : Chg Nowhere w0 w' := h.trans hc fun i hi2 e => by have := e.1; omega
theorem chg_ref {w0 w w' : World} (h : Chg Nowhere w0 w) (hc : ChgR w0.heap.size w w') : Chg Nowhere w0 w' := h.trans hc fun i hi2 e => by have := e.1; omega
/-- The one, then the other. -/
theorem Pl.both {w0 : World} {s N N' y : Nat} {S S' : Sch} {R R' : RSch} {n n' : Nat} {w w1 w2 : World} (h : Pl w0 s N y S R n w) (hi : SchIs (fun i => w0.heap.size ≤ i) w1 s N' S') (hc : ChgZ (fun i => w0.heap.size ≤ i) w w1) (hr : RSIs w0.heap.size w2 y R') (hc2 : ChgR w0.heap.size w1 w2) (hrel : Rel S' R') (hs : Small S' R' n') : Pl w0 s N' y S' R' n' w2 :=
  ⟨hi.refs hc2, hr, hrel, hs, chg_ref (chg_zone h.chg hc) hc2⟩
theorem Pl.both' {w0 : World} {s N N' y : Nat} {S S' : Sch} {R R' : RSch} {n n' : Nat} {w w1 w2 : World} (h : Pl w0 s N y S R n w) (hr : RSIs w0.heap.size w1 y R') (hc : ChgR w0.heap.size w w1) (hi : SchIs (fun i => w0.heap.size ≤ i) w2 s N' S') (hc2 : ChgZ (fun i => w0.heap.size ≤ i) w1 w2) (hrel : Rel S' R') (hs : Small S' R' n') : Pl w0 s N' y S' R' n' w2 :=
  ⟨hi, hr.zone hc2, hrel, hs, chg_zone (chg_ref h.chg hc) hc2⟩
theorem Pl.more {w0 : World} {s N y : Nat} {S : Sch} {R : RSch} {n : Nat} {w : World} (h : Pl w0 s N y S R n w) : Pl w0 s (N + 1) y S R (n + 1) w := ⟨h.is.more, h.ref, h.rel, h.sm.mono (Nat.le_succ _), h.chg⟩
theorem SchIs.cars {Z : Nat → Prop} {w : World} {s N : Nat} {S : Sch} (h : SchIs Z w s N S) : ∀ k f, S.op k = some f → ∀ r ∈ f.l, r.car.length ≤ 2000000 := by
  obtain ⟨m, F, V, h⟩ := h
  intro k f hf r hr
  cases hF : F k with
  | none => rw [h.no k hF] at hf; cases hf
  | some g =>
    obtain ⟨f', h1, h2⟩ := h.fl k g hF
    rw [hf] at h1
    cases h1
    exact (h2.recs r hr).len
theorem cars_most (l : List Rec) (h : ∀ r ∈ l, r.car.length ≤ 2000000) : (cars l).length ≤ l.length * 2000000 := by
  induction l with
  | nil => simp [cars]
  | cons r l ih =>
    have h1 := ih fun q hq => h q (List.mem_cons_of_mem _ hq)
    have h2 := h r (List.mem_cons_self ..)
    unfold cars at h1 ⊢
    rw [List.flatMap_cons, List.length_append, List.length_cons]
    omega
theorem filt_most {f : Fl} {n : Nat} (hl : f.l.length ≤ n) (hc : ∀ r ∈ f.l, r.car.length ≤ 2000000) (L : List Rec) (hL : L.Sublist f.l) : (cars L).length ≤ n * 2000000 :=
  Nat.le_trans (cars_most L fun r hr => hc r (hL.subset hr)) (Nat.mul_le_mul_right _ (Nat.le_trans hL.length_le hl))
theorem got_most {Z : Nat → Prop} {w : World} {s N n : Nat} {S : Sch} {R : RSch} (h : SchIs Z w s N S) (hs : Small S R n) (id top : Int) (l : List (Int × Int)) : (gotL S id top l).length ≤ n * 2000000 := by
  unfold gotL
  split
  · rename_i f hf
    exact filt_most (hs.l id f hf) (h.cars id f hf) _ (List.filter_sublist.trans List.filter_sublist)
  · exact Nat.zero_le _
theorem late_most {Z : Nat → Prop} {w : World} {s N n : Nat} {S : Sch} {R : RSch} (h : SchIs Z w s N S) (hs : Small S R n) (id now age : Int) : (lateL S id now age).length ≤ n * 2000000 := by
  unfold lateL
  split
  · rename_i f hf
    exact filt_most (hs.l id f hf) (h.cars id f hf) _ List.filter_sublist
  · exact Nat.zero_le _
theorem close_most {Z : Nat → Prop} {w : World} {s N n : Nat} {S : Sch} {R : RSch} (h : SchIs Z w s N S) (hs : Small S R n) (id : Int) : (closeL S id).length ≤ n * 2000000 := by
  unfold closeL
  split
  · rename_i f hf
    exact filt_most (hs.l id f hf) (h.cars id f hf) _ (List.Sublist.refl _)
  · exact Nat.zero_le _
/-- Two cells of a living row are set. -/
theorem own_put2 {w : World} {base n : Nat} {T : TypeId} {v : Value} {xs : List Value} (h : w.ownsRow base T 2 v n xs) {i : Nat} (hi : i < n) :
    ∃ g o cap, v = .slice (some ⟨g, o, .none⟩) n cap ∧ base ≤ g ∧ g < w.heap.size ∧ (∃ cur, w.heap[g]? = some (.cells cur T (0,0))) ∧ (∃ u, w.cell? ⟨g, o + i * 2, .none⟩ = some u) ∧ (∃ u, w.cell? ⟨g, o + i * 2 + 1, .none⟩ = some u) ∧ (∀ j, w.frozen? ⟨g, j, .none⟩ = false) ∧
      ∀ a b, ∃ xs', ((w.setCell ⟨g, o + i * 2, .none⟩ a).setCell ⟨g, o + i * 2 + 1, .none⟩ b).ownsRow base T 2 v n xs' := by
  have hl := h.1
  rcases h.2 with ⟨rfl, rfl⟩ | ⟨g, cap, cur, hv, hg, hh, hn, hcap, hsz, hxs⟩
  · omega
  · have hs1 : 0 + i * 2 < cur.size := by omega
    have hs2 : 0 + i * 2 + 1 < cur.size := by omega
    refine ⟨g, 0, cap, hv, hg, lt_blk hh, ⟨cur, hh⟩, ⟨cur[0 + i * 2], by rw [cell_blk hh, Array.getElem?_eq_getElem hs1]⟩, ⟨cur[0 + i * 2 + 1], by rw [cell_blk hh, Array.getElem?_eq_getElem hs2]⟩, fun j => frozen_blk hh, fun a b => ⟨(xs.set (i * 2) a).set (i * 2 + 1) b, by simp only [List.length_set]; exact hl, .inr ⟨g, cap, (cur.setIfInBounds (0 + i * 2) a).setIfInBounds (0 + i * 2 + 1) b, hv, hg, set_blk _ (set_blk _ hh), hn, hcap, by simp only [Array.size_setIfInBounds]; exact hsz, ?_⟩⟩⟩
    rw [Array.toList_setIfInBounds, Array.toList_setIfInBounds, Nat.zero_add, List.take_set, List.take_set, hxs]
/-- A slice of the caller lies below. -/
theorem rd_low {w w0 : World} (h0 : w.heap.size ≤ w0.heap.size) {A : Option Addr} {l : List (Int × Int)} {c : Nat} (h : Rd w (.slice A l.length c) 2 l.length (flat l)) (hl : 0 < l.length) {g o n c' : Nat} (e : Value.slice A l.length c = .slice (some ⟨g, o, .none⟩) n c') : g < w0.heap.size := by
  obtain ⟨-, A2, c2, e2, -, hA⟩ := h
  obtain ⟨g2, o2, rfl, hg, -⟩ := hA hl
  rw [e] at e2
  simp only [Value.slice.injEq, Option.some.injEq, Addr.mk.injEq] at e2
  obtain ⟨⟨rfl, -⟩, -⟩ := e2
  omega
theorem cars_lim {Z : Nat → Prop} {w : World} {base n : Nat} {v : Value} {l : List (Int × Int)} (h : w.ownsRow base 49 2 v l.length (flat l)) : Rd w v 2 l.length (flat l) := Rd.of_owns h
end Go.Proofs.Ytiijnhgafadokaa
