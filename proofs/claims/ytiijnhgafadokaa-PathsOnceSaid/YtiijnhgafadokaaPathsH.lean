/-
  The document's examples of layer 20 (shown), walked.
-/
import Derived.Test.YtiijnhgafadokaaPathsG2
import Derived.Test.YtiijnhgafadokaaPathsShown
namespace Go.Proofs.Ytiijnhgafadokaa
open Go.RowKit Paths

def tok7V : Array Value := #[.int .u8 7, .int .u8 0, .int .u8 0, .int .u8 0, .int .u8 0, .int .u8 0, .int .u8 0, .int .u8 0]

/-- Block b holds the table T, block c the token; all else is as it was. -/
structure Sh (w0 : World) (b c : Nat) (T : Tab) (w : World) : Prop where
  tab : TabAt w b T
  tok : w.heap[c]? = some (.cells tok7V 27 (0,0))
  chg : Chg Nowhere w0 w
  ne : b ≠ c
  new : w0.heap.size ≤ b
theorem Sh.step {w0 : World} {b c : Nat} {T T' : Tab} {w w' : World} (h : Sh w0 b c T w) (hc : Chg (At b) w w') (ht : TabAt w' b T') : Sh w0 b c T' w' :=
  ⟨ht, hc.keep h.tok (fun e => h.ne e.symm), h.chg.trans hc (fun i hi e => by have : i = b := e; have := h.new; omega), h.ne, h.new⟩
theorem Sh.idle {w0 : World} {b c : Nat} {T : Tab} {w w' : World} (h : Sh w0 b c T w) (hc : Chg Nowhere w w') : Sh w0 b c T w' :=
  ⟨h.tab.chg hc (not_nowhere _), hc.same h.tok, h.chg.trans' hc, h.ne, h.new⟩
theorem Sh.alloc {w0 : World} {b c : Nat} {T : Tab} {w : World} (h : Sh w0 b c T w) (o : Obj) : Sh w0 b c T (w.alloc o) := h.idle ((Chg.refl _ _).alloc _)
theorem Sh.cells {w0 : World} {b c : Nat} {T : Tab} {w : World} (h : Sh w0 b c T w) :
    w.cell? ⟨c, 0, .none⟩ = some (.int .u8 7) ∧ w.cell? ⟨c, 1, .none⟩ = some (.int .u8 0) ∧ w.cell? ⟨c, 2, .none⟩ = some (.int .u8 0) ∧ w.cell? ⟨c, 3, .none⟩ = some (.int .u8 0) ∧
    w.cell? ⟨c, 4, .none⟩ = some (.int .u8 0) ∧ w.cell? ⟨c, 5, .none⟩ = some (.int .u8 0) ∧ w.cell? ⟨c, 6, .none⟩ = some (.int .u8 0) ∧ w.cell? ⟨c, 7, .none⟩ = some (.int .u8 0) :=
  ⟨cell_blk h.tok, cell_blk h.tok, cell_blk h.tok, cell_blk h.tok, cell_blk h.tok, cell_blk h.tok, cell_blk h.tok, cell_blk h.tok⟩

def ShownTo (w : World) (e : Ending) (w' : World) : Prop := e = .returned (.bool true) ∧ Chg Nowhere w w'

section
variable {w0 w : World} {b c : Nat} {T : Tab}
theorem sh_begin (H : Sh w0 b c T w) (id r : Int) (hr : code T id = r) :
    Calls Try.prog 19 #[.pointer (some ⟨b, 0, .none⟩), .int .i64 id] w fun e w' => e = .returned (.int .i64 r) ∧ Sh w0 b c (begins T id live0) w' :=
  (Begin_any b id T w H.tab).mono fun _ _ ⟨h1, h2, h3⟩ => ⟨by rw [h1, hr], H.step h2 h3⟩
theorem sh_add (H : Sh w0 b c T w) (id now a r : Int) (hr : code T id = r) :
    Calls Try.prog 18 #[.pointer (some ⟨b, 0, .none⟩), .int .i64 id, .agg #[.int .u8 a, .int .u8 0, .int .u8 0, .int .u8 0, .int .u8 0, .int .u8 0, .int .u8 0, .int .u8 0], .int .i64 now] w
      fun e w' => e = .returned (.int .i64 r) ∧ Sh w0 b c (begins T id ⟨1, 0, 0, mom now, [a, 0, 0, 0, 0, 0, 0, 0]⟩) w' :=
  (Add_any b id now a 0 0 0 0 0 0 0 T w H.tab).mono fun _ _ ⟨h1, h2, h3⟩ => ⟨by rw [h1, hr], H.step h2 h3⟩
theorem sh_answer (H : Sh w0 b c T w) (id a : Int) (r : Bool) (hr : answers T id [a, 0, 0, 0, 0, 0, 0, 0] = r) :
    Calls Try.prog 21 #[.pointer (some ⟨b, 0, .none⟩), .int .i64 id, .agg #[.int .u8 a, .int .u8 0, .int .u8 0, .int .u8 0, .int .u8 0, .int .u8 0, .int .u8 0, .int .u8 0]] w
      fun e w' => e = .returned (.bool r) ∧ Sh w0 b c (answer T id [a, 0, 0, 0, 0, 0, 0, 0]) w' :=
  (answer_any b id a 0 0 0 0 0 0 0 T w H.tab).mono fun _ _ ⟨h1, h2, h3⟩ => ⟨by rw [h1, hr], H.step h2 h3⟩
theorem sh_live (H : Sh w0 b c T w) (l : List Int) (hl : liveL T 256 = l) :
    Calls Try.prog 63 #[.pointer (some ⟨b, 0, .none⟩)] w fun e w' => ∃ v, e = .returned v ∧ Rd w' v 1 l.length (l.map (Value.int .i64)) ∧ Sh w0 b c T w' :=
  (live_any b T w H.tab).mono fun _ _ ⟨v, h1, h2, h3⟩ => ⟨v, h1, by rw [← hl]; exact Rd.of_owns h2, H.idle h3⟩
theorem sh_due (H : Sh w0 b c T w) (now : Int) (l : List Int) (hl : dueL (mom now) T 256 = l) :
    Calls Try.prog 20 #[.pointer (some ⟨b, 0, .none⟩), .int .i64 now] w fun e w' => ∃ v, e = .returned v ∧ Rd w' v 1 l.length (l.map (Value.int .i64)) ∧ Sh w0 b c (dueTo (mom now) T 256) w' :=
  (due_any b now T w H.tab).mono fun _ _ ⟨v, h1, h2, h3, h4⟩ => ⟨v, h1, by rw [← hl]; exact Rd.of_owns h2, H.step h3 h4⟩
theorem sh_state (H : Sh w0 b c T w) (id r : Int) (hr : stOf T id = r) :
    Calls Try.prog 23 #[.pointer (some ⟨b, 0, .none⟩), .int .i64 id] w fun e w' => e = .returned (.int .i64 r) ∧ Sh w0 b c T w' :=
  (state_any b id T w H.tab).mono fun _ _ ⟨h1, h2⟩ => ⟨by rw [h1, hr], H.idle h2⟩
theorem sh_rtt (H : Sh w0 b c T w) (id r : Int) (hr : rttOf T id = r) :
    Calls Try.prog 24 #[.pointer (some ⟨b, 0, .none⟩), .int .i64 id] w fun e w' => e = .returned (.int .i64 r) ∧ Sh w0 b c T w' :=
  (rtt_any b id T w H.tab).mono fun _ _ ⟨h1, h2⟩ => ⟨by rw [h1, hr], H.idle h2⟩
theorem sh_remove (H : Sh w0 b c T w) (id r : Int) (hr : rmCode T id = r) :
    Calls Try.prog 22 #[.pointer (some ⟨b, 0, .none⟩), .int .i64 id] w fun e w' => e = .returned (.int .i64 r) ∧ Sh w0 b c (remove T id) w' :=
  (remove_any b id T w H.tab).mono fun _ _ ⟨h1, h2, h3⟩ => ⟨by rw [h1, hr], H.step h2 h3⟩
theorem sh_sample (H : Sh w0 b c T w) (id t : Int) :
    Calls Try.prog 25 #[.pointer (some ⟨b, 0, .none⟩), .int .i64 id, .int .i64 t] w fun e w' => e = .returned (.tuple #[]) ∧ Sh w0 b c (sample T id t) w' :=
  (sample_any b id t T w H.tab).mono fun _ _ ⟨h1, h2, h3⟩ => ⟨h1, H.step h2 h3⟩
theorem sh_ints (H : Sh w0 b c T w) {va vb : Value} {l m : List Int} (r : Bool) (ha : Rd w va 1 l.length (l.map (Value.int .i64))) (hb : Rd w vb 1 m.length (m.map (Value.int .i64)))
    (hl : l.length ≤ 4611686018427387904) (hm : m.length ≤ 4611686018427387904) (hr : decide (l = m) = r) :
    Calls Try.prog 62 #[va, vb] w fun e w' => e = .returned (.bool r) ∧ Sh w0 b c T w' :=
  (ints_any va vb l m w ha hb hl hm).mono fun _ _ ⟨h1, h2⟩ => ⟨by rw [h1, hr], H.idle h2⟩
end

set_option maxHeartbeats 3200000 in
set_option maxRecDepth 100000 in
theorem shown_any (w : World) : Calls Try.prog 15 #[] w (ShownTo w) := by
  go_enter Try.func15, Try.ntmps15
  go_wp2_with fail
  refine (new_any _).mono ?_
  rintro e w1 ⟨b, rfl, hT, hC, hb⟩
  have hb1 := hT.lt
  have H := Lib.hid (show Sh w b w1.heap.size new (w1.alloc (.cells tok7V 27)) from
    ⟨hT.chg ((Chg.refl Nowhere _).alloc _) (not_nowhere _), alloc_new _ _, hC.alloc _, by omega, hb⟩)
  clear hT hC
  go_wp2_with fail
  refine (sh_begin H.out _ _ v1).mono ?_
  rintro e w2 ⟨rfl, H2⟩
  replace H := Lib.hid H2; clear H2
  go_wp2_with fail
  refine (sh_begin H.out _ _ v2).mono ?_
  rintro e w3 ⟨rfl, H2⟩
  replace H := Lib.hid H2; clear H2
  go_wp2_with fail
  refine (sh_begin H.out _ _ v3).mono ?_
  rintro e w4 ⟨rfl, H2⟩
  replace H := Lib.hid H2; clear H2
  obtain ⟨k0, k1, k2, k3, k4, k5, k6, k7⟩ := H.out.cells
  go_wp2_with fail
  clear k0 k1 k2 k3 k4 k5 k6 k7
  refine (sh_add H.out _ _ _ _ v4).mono ?_
  rintro e w5 ⟨rfl, H2⟩
  replace H := Lib.hid H2; clear H2
  go_wp2_with fail
  refine (sh_live H.out _ v5).mono ?_
  rintro e w6 ⟨v, rfl, R, H2⟩
  replace H := Lib.hid H2; clear H2
  go_wp2_with fail
  refine (sh_ints (H.out.alloc (.cells #[.int .i64 0] 3)) (m := [0]) true (R.same ((Chg.refl _ _).alloc _)) (Rd.lit _ 1 1 [.int .i64 0] 3 rfl) (by decide) (by decide) (by decide)).mono ?_
  rintro e w7 ⟨rfl, H2⟩
  replace H := Lib.hid H2; clear H2
  clear R
  go_wp2_with fail
  refine (sh_due H.out _ _ v6).mono ?_
  rintro e w8 ⟨v, rfl, R, H2⟩
  replace H := Lib.hid H2; clear H2
  go_wp2_with fail
  refine (sh_ints H.out (m := []) true R (Rd.nil _ 1) (by decide) (by decide) (by decide)).mono ?_
  rintro e w9 ⟨rfl, H2⟩
  replace H := Lib.hid H2; clear H2
  clear R
  go_wp2_with fail
  refine (sh_due H.out _ _ v7).mono ?_
  rintro e w10 ⟨v, rfl, R, H2⟩
  replace H := Lib.hid H2; clear H2
  go_wp2_with fail
  refine (sh_ints (H.out.alloc (.cells #[.int .i64 3] 3)) (m := [3]) true (R.same ((Chg.refl _ _).alloc _)) (Rd.lit _ 1 1 [.int .i64 3] 3 rfl) (by decide) (by decide) (by decide)).mono ?_
  rintro e w11 ⟨rfl, H2⟩
  replace H := Lib.hid H2; clear H2
  clear R
  go_wp2_with fail
  refine (sh_due H.out _ _ v8).mono ?_
  rintro e w12 ⟨v, rfl, R, H2⟩
  replace H := Lib.hid H2; clear H2
  go_wp2_with fail
  refine (sh_ints H.out (m := []) true R (Rd.nil _ 1) (by decide) (by decide) (by decide)).mono ?_
  rintro e w13 ⟨rfl, H2⟩
  replace H := Lib.hid H2; clear H2
  clear R
  go_wp2_with fail
  refine (sh_due H.out _ _ v9).mono ?_
  rintro e w14 ⟨v, rfl, R, H2⟩
  replace H := Lib.hid H2; clear H2
  go_wp2_with fail
  refine (sh_ints (H.out.alloc (.cells #[.int .i64 3] 3)) (m := [3]) true (R.same ((Chg.refl _ _).alloc _)) (Rd.lit _ 1 1 [.int .i64 3] 3 rfl) (by decide) (by decide) (by decide)).mono ?_
  rintro e w15 ⟨rfl, H2⟩
  replace H := Lib.hid H2; clear H2
  clear R
  go_wp2_with fail
  refine (sh_answer H.out _ _ _ v10).mono ?_
  rintro e w16 ⟨rfl, H2⟩
  replace H := Lib.hid H2; clear H2
  obtain ⟨k0, k1, k2, k3, k4, k5, k6, k7⟩ := H.out.cells
  go_wp2_with fail
  clear k0 k1 k2 k3 k4 k5 k6 k7
  refine (sh_answer H.out _ _ _ v11).mono ?_
  rintro e w17 ⟨rfl, H2⟩
  replace H := Lib.hid H2; clear H2
  go_wp2_with fail
  refine (sh_state H.out _ _ v12).mono ?_
  rintro e w18 ⟨rfl, H2⟩
  replace H := Lib.hid H2; clear H2
  obtain ⟨k0, k1, k2, k3, k4, k5, k6, k7⟩ := H.out.cells
  go_wp2_with fail
  clear k0 k1 k2 k3 k4 k5 k6 k7
  refine (sh_answer H.out _ _ _ v13).mono ?_
  rintro e w19 ⟨rfl, H2⟩
  replace H := Lib.hid H2; clear H2
  go_wp2_with fail
  refine (sh_sample H.out _ _).mono ?_
  rintro e w20 ⟨rfl, H2⟩
  replace H := Lib.hid H2; clear H2
  go_wp2_with fail
  refine (sh_rtt H.out _ _ v14).mono ?_
  rintro e w21 ⟨rfl, H2⟩
  replace H := Lib.hid H2; clear H2
  go_wp2_with fail
  refine (sh_remove H.out _ _ v15).mono ?_
  rintro e w22 ⟨rfl, H2⟩
  replace H := Lib.hid H2; clear H2
  go_wp2_with fail
  refine (sh_remove H.out _ _ v16).mono ?_
  rintro e w23 ⟨rfl, H2⟩
  replace H := Lib.hid H2; clear H2
  obtain ⟨k0, k1, k2, k3, k4, k5, k6, k7⟩ := H.out.cells
  go_wp2_with fail
  clear k0 k1 k2 k3 k4 k5 k6 k7
  refine (sh_add H.out _ _ _ _ v17).mono ?_
  rintro e w24 ⟨rfl, H2⟩
  replace H := Lib.hid H2; clear H2
  go_wp2_with fail
  go_ret
  exact ⟨rfl, H.out.chg⟩
end Go.Proofs.Ytiijnhgafadokaa
