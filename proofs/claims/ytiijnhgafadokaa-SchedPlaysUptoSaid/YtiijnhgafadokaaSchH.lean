/-
  The scheduler (layer 21): Got's first closure, Late's.
-/
import Derived.Test.YtiijnhgafadokaaSchG
namespace Go.Proofs.Ytiijnhgafadokaa
open Go.RowKit
set_option linter.unusedVariables false

theorem mom21_q (n : Int) (w : World) (k : Nat) : Calls Try.prog 72 #[.int .i64 n] (w.drewN k) fun e w'' => e = .returned (.int .i64 (mom21 n)) ∧ ∃ m, w'' = w.drewN m :=
  Calls.quiet_of_same ((mom21_any n _).mono fun e w' h => ⟨h.1, h.2.symm⟩)
theorem wrapI {x : Int} (h : -9223372036854775808 ≤ x ∧ x ≤ 9223372036854775807) : IntKind.i64.wrap x = x := by
  simp only [IntKind.wrap, IntKind.bits, IntKind.signed]
  simp
  omega
def lateP (now age : Int) (r : Rec) : Bool := decide (r.t ≤ mom21 now - mom21 age)
set_option maxHeartbeats 800000 in
theorem late1_any (b1 b2 : Nat) (now age : Int) (r : Rec) (w : World) (hr : RecOk w r) (h1 : w.cell? ⟨b1, 0, .none⟩ = some (.int .i64 now)) (h2 : w.cell? ⟨b2, 0, .none⟩ = some (.int .i64 age)) :
    Calls Try.prog 81 #[recV r, .pointer (some ⟨b1, 0, .none⟩), .pointer (some ⟨b2, 0, .none⟩)] w fun e w' => e = .returned (.bool (lateP now age r)) ∧ Chg Nowhere w w' := by
  obtain ⟨-, A, cp, hv, -, -⟩ := Rd.of_owns hr.row
  unfold recV
  rw [hv]
  have hb1 : b1 < w.heap.size := World.block_lt_of_cell? w _ h1
  have hb2 : b2 < w.heap.size := World.block_lt_of_cell? w _ h2
  have ht0 := hr.t0
  have m1 := mom21_in now
  have m2 := mom21_in age
  have W1 : IntKind.i64.wrap (mom21 now - mom21 age) = mom21 now - mom21 age := wrapI (by omega)
  have E := Lib.hid (show lateP now age r = decide (r.t ≤ mom21 now - mom21 age) from rfl)
  clear hr hv m1 m2
  go_enter Try.func81, Try.ntmps81
  go_wp2_with fail
  go_quiet ((go_at_call 72; exact mom21_q _ _ _))
  go_wp2_with fail
  go_ret
  rw [E.out]
  exact ⟨by simp only [Array.getD]; rfl, ((Chg.refl _ _).alloc _).drewN _⟩

def gotP (top : Int) (l : List (Int × Int)) (r : Rec) : Bool := decide (r.c = top) || l.any (inRg r.c)
def stepG (top now tk : Int) (r : Rec) : Int := if r.c = top then max 0 (mom21 now - r.t) else tk
theorem Rd.mono2 {w w' : World} {v : Value} {size n : Nat} {xs : List Value} (h : Rd w v size n xs) {S : Nat → Prop} (hc : Chg S w w')
    (hn : 0 < n → ∀ g o c, v = .slice (some ⟨g, o, .none⟩) n c → g < w.heap.size → ¬ S g) : Rd w' v size n xs := by
  obtain ⟨h1, A, c, hv, hnc, h2⟩ := h
  refine ⟨h1, A, c, hv, hnc, fun h0 => ?_⟩
  obtain ⟨g, o, rfl, hg, hcell⟩ := h2 h0
  exact ⟨g, o, rfl, Nat.lt_of_lt_of_le hg hc.size, fun j hj => (hc.cell (p := ⟨g, o + j, .none⟩) hg (hn h0 g o c hv hg)).trans (hcell j hj)⟩
structure GotSt (b1 b2 b3 b4 : Nat) (top now : Int) (vl : Value) (l : List (Int × Int)) (tk : Int) (w : World) : Prop where
  top : w.heap[b1]? = some (.cells #[.int .i64 top] 3 (0,0))
  row : w.heap[b2]? = some (.cells #[vl] 45 (0,0))
  now : w.heap[b3]? = some (.cells #[.int .i64 now] 3 (0,0))
  tk : w.heap[b4]? = some (.cells #[.int .i64 tk] 3 (0,0))
  rd : Rd w vl 2 l.length (flat l)
  n14 : b1 ≠ b4
  n34 : b3 ≠ b4
  sep : 0 < l.length → ∀ g o n c', vl = .slice (some ⟨g, o, .none⟩) n c' → g ≠ b4
theorem GotSt.n24 {b1 b2 b3 b4 : Nat} {top now : Int} {vl : Value} {l : List (Int × Int)} {tk : Int} {w : World} (h : GotSt b1 b2 b3 b4 top now vl l tk w) : b2 ≠ b4 := types_ne h.row h.tk (by decide)
theorem GotSt.chg {b1 b2 b3 b4 : Nat} {top now : Int} {vl : Value} {l : List (Int × Int)} {tk tk' : Int} {w w' : World} (h : GotSt b1 b2 b3 b4 top now vl l tk w) (hc : Chg (At b4) w w') (ht : w'.heap[b4]? = some (.cells #[.int .i64 tk'] 3 (0,0))) : GotSt b1 b2 b3 b4 top now vl l tk' w' :=
  ⟨hc.keep h.top h.n14, hc.keep h.row h.n24, hc.keep h.now h.n34, ht, h.rd.mono2 hc (fun h0 g o c' e _ e2 => h.sep h0 g o _ c' e e2), h.n14, h.n34, h.sep⟩
theorem GotSt.idle {b1 b2 b3 b4 : Nat} {top now : Int} {vl : Value} {l : List (Int × Int)} {tk : Int} {w w' : World} (h : GotSt b1 b2 b3 b4 top now vl l tk w) (hc : Chg Nowhere w w') : GotSt b1 b2 b3 b4 top now vl l tk w' :=
  h.chg (hc.mono fun _ _ h => h.elim) (hc.same h.tk)
theorem keepS {w : World} {b3 b4 : Nat} {now c t : Int} {cv X : Value} (q3 : w.cell? ⟨b3, 0, .none⟩ = some (.int .i64 now)) (l3 : b3 < w.heap.size) (n34 : b3 ≠ b4) :
    ((w.setCell ⟨b4, 0, .none⟩ X).alloc (.cells #[.int .i64 c, .int .i64 t, cv] 104)).drew.cell? ⟨b3, 0, .none⟩ = some (.int .i64 now) ∧
    ((w.setCell ⟨b4, 0, .none⟩ X).alloc (.cells #[.int .i64 c, .int .i64 t, cv] 104)).drew.cell? ⟨w.heap.size, 1, .none⟩ = some (.int .i64 t) := by
  have hC : Chg (At b4) w ((w.setCell ⟨b4, 0, .none⟩ X).alloc (.cells #[.int .i64 c, .int .i64 t, cv] 104)).drew := (((Chg.refl (At b4) w).putAt).alloc _).drew
  refine ⟨(hC.cell (p := ⟨b3, 0, .none⟩) l3 n34).trans q3, ?_⟩
  have hb := alloc_new (w.setCell ⟨b4, 0, .none⟩ X) (.cells #[.int .i64 c, .int .i64 t, cv] 104)
  rw [set_size] at hb
  have := cell_blk (o := 1) hb
  exact this
theorem GotSt.set {b1 b2 b3 b4 : Nat} {top now : Int} {vl : Value} {l : List (Int × Int)} {tk x : Int} {w : World} (h : GotSt b1 b2 b3 b4 top now vl l tk w) (o : Obj) :
    GotSt b1 b2 b3 b4 top now vl l x ((w.setCell ⟨b4, 0, .none⟩ (.int .i64 x)).alloc o).drew ∧ Chg (At b4) w ((w.setCell ⟨b4, 0, .none⟩ (.int .i64 x)).alloc o).drew := by
  have hC : Chg (At b4) w ((w.setCell ⟨b4, 0, .none⟩ (.int .i64 x)).alloc o).drew := (((Chg.refl (At b4) w).putAt).alloc _).drew
  have hs : (w.setCell ⟨b4, 0, .none⟩ (.int .i64 x)).heap[b4]? = some (.cells #[.int .i64 x] 3 (0,0)) := by rw [set_blk _ h.tk]; rfl
  exact ⟨h.chg hC (alloc_old hs), hC⟩
theorem GotSt.done {b1 b2 b3 b4 : Nat} {top now : Int} {vl : Value} {l : List (Int × Int)} {tk x : Int} {w : World} {r : Rec} (h : GotSt b1 b2 b3 b4 top now vl l tk w) (o : Obj) (hx : x = stepG top now tk r) (hE : gotP top l r = true) :
    CloTo (fun t w => GotSt b1 b2 b3 b4 top now vl l t w) (At b4) (gotP top l) (stepG top now) tk r w (.returned (.bool true)) ((w.setCell ⟨b4, 0, .none⟩ (.int .i64 x)).alloc o).drew := by
  subst hx
  obtain ⟨g1, g2⟩ := h.set (x := stepG top now tk r) o
  exact ⟨by rw [hE], g1, g2⟩
set_option maxHeartbeats 1600000 in
set_option maxRecDepth 100000 in
theorem got1_any (b1 b2 b3 b4 : Nat) (top now tk : Int) (vl : Value) (l : List (Int × Int)) (r : Rec) (w : World) (hr : RecOk w r) (h : GotSt b1 b2 b3 b4 top now vl l tk w) (hl : l.length ≤ 9223372036854775807) :
    Calls Try.prog 75 #[recV r, .pointer (some ⟨b1, 0, .none⟩), .pointer (some ⟨b3, 0, .none⟩), .pointer (some ⟨b4, 0, .none⟩), .pointer (some ⟨b2, 0, .none⟩)] w
      (CloTo (fun t w => GotSt b1 b2 b3 b4 top now vl l t w) (At b4) (gotP top l) (stepG top now) tk r w) := by
  have hmf : ∀ (fn : Fn) (first cap : Array Value) (w : World), (Instr.makeFunc fn first cap).run Try.prog w = .ok (.func fn first cap) w := fun _ _ _ _ => rfl
  obtain ⟨-, A, cp, hv, -, -⟩ := Rd.of_owns hr.row
  unfold recV
  rw [hv]
  have H := Lib.hid h
  have q1 : w.cell? ⟨b1, 0, .none⟩ = some (.int .i64 top) := by rw [cell_blk h.top]; rfl
  have q2 : w.cell? ⟨b2, 0, .none⟩ = some vl := by rw [cell_blk h.row]; rfl
  have q3 : w.cell? ⟨b3, 0, .none⟩ = some (.int .i64 now) := by rw [cell_blk h.now]; rfl
  have q4 : w.frozen? ⟨b4, 0, .none⟩ = false := frozen_blk h.tk
  have q5 : w.cell? ⟨b4, 0, .none⟩ = some (.int .i64 tk) := by rw [cell_blk h.tk]; rfl
  have l1 := lt_blk h.top
  have l2 := lt_blk h.row
  have l3 := lt_blk h.now
  have l4 := lt_blk h.tk
  have n34 := h.n34
  obtain ⟨A2, c2, hvl, -, -⟩ := h.rd.2
  have HVL := Lib.hid hvl
  have ht0 := hr.t0
  have m1 := mom21_in now
  have W1 : IntKind.i64.wrap (mom21 now - r.t) = mom21 now - r.t := wrapI (by omega)
  clear hr hv
  by_cases hct : r.c = top
  · have E := Lib.hid (show gotP top l r = true by simp [gotP, hct])
    have HS := Lib.hid (show (if r.t < mom21 now then mom21 now - r.t else 0) = stepG top now tk r by
      unfold stepG; rw [if_pos hct]; split <;> omega)
    have tt : (r.c == top) = true := by simp [hct]
    clear h hct hvl
    go_enter Try.func75, Try.ntmps75
    go_wp2_with fail
    go_region_held3 (fun w' => w'.cell? ⟨b3, 0, .none⟩ = some (.int .i64 now) ∧ w'.cell? ⟨w.heap.size, 1, .none⟩ = some (.int .i64 r.t)) (first | exact keepS q3 l3 n34 | go_keep)
      (first | (go_at_call 72; refine (mom21_any _ _).mono ?_; rintro e w' ⟨rfl, rfl⟩))
    all_goals
      go_wp2_with fail
      all_goals
        go_ret
        exact H.out.done _ (by first | exact HS.out | (have := HS.out; split at this <;> omega)) E.out
  · have E := Lib.hid (show gotP top l r = l.any (inRg r.c) by simp [gotP, hct])
    have HS := Lib.hid (show stepG top now tk r = tk from if_neg hct)
    have tt : (r.c == top) = false := by simpa using hct
    rw [hvl] at q2
    have HR := Lib.hid (show Rd (w.alloc (.cells #[.int .i64 r.c, .int .i64 r.t, .slice A r.car.length cp] 104)) (.slice A2 l.length c2) 2 l.length (flat l) by
      have h0 := h.rd
      rw [hvl] at h0
      exact h0.same ((Chg.refl _ _).alloc _))
    have HB := Lib.hid (show (w.alloc (.cells #[.int .i64 r.c, .int .i64 r.t, .slice A r.car.length cp] 104)).cell? ⟨w.heap.size, 0, .none⟩ = some (.int .i64 r.c) by
      rw [cell_blk (alloc_new w _)]; rfl)
    clear h hct hvl
    go_enter Try.func75, Try.ntmps75
    go_wp2_with fail
    refine (contains_any w.heap.size r.c _ l _ HB.out HR.out hl).mono ?_
    rw [← E.out]
    rintro e w3 ⟨rfl, h3⟩
    have H3 := Lib.hid h3
    clear h3
    go_wp2_with fail
    go_ret
    have hC := ((Chg.refl Nowhere w).alloc (.cells #[.int .i64 r.c, .int .i64 r.t, .slice A r.car.length cp] 104)).trans' H3.out
    exact ⟨rfl, by rw [HS.out]; exact H.out.idle hC, hC.mono fun _ _ h => h.elim⟩
end Go.Proofs.Ytiijnhgafadokaa
