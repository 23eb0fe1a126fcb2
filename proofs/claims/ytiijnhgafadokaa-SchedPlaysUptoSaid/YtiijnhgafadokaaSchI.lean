/-
  The scheduler (layer 21): Late.
-/
import Derived.Test.YtiijnhgafadokaaSchH
namespace Go.Proofs.Ytiijnhgafadokaa
open Go.RowKit
set_option linter.unusedVariables false

theorem enter_of {f : Nat} {fn : Func} {c : Code} (hf : Try.prog.funcs[f]? = some fn) (hname : (fn.name == "runtime.NumGoroutine") = false) (hb : fn.body = some c) (args : Array Value) (w : World) :
    (callFunc f args).run Try.prog w = .ok (.enter f args) w := by
  have h1 : fn.name ≠ "runtime.NumGoroutine" := by simpa using hname
  simp [callFunc, hf, h1, hb]
theorem enter81 (args : Array Value) (w : World) : (callFunc 81 args).run Try.prog w = .ok (.enter 81 args) w :=
  enter_of Try.func81 (by kernel_rfl) rfl args w
theorem cell_stay {w w' : World} {b g B0 : Nat} {v : Value} (h : w.cell? ⟨b, 0, .none⟩ = some v) (hb : b < B0) (hg : b ≠ g) (hc : Chg (fun i => B0 ≤ i ∨ At g i) w w') : w'.cell? ⟨b, 0, .none⟩ = some v :=
  (hc.cell (p := ⟨b, 0, .none⟩) (World.block_lt_of_cell? w _ h) (by
    rintro (e | e)
    · exact absurd e (by show ¬ B0 ≤ b; omega)
    · exact hg e)).trans h
theorem late_clo (b1 b2 g B0 : Nat) (now age : Int) (h1 : b1 < B0) (h2 : b2 < B0) (n1 : b1 ≠ g) (n2 : b2 ≠ g) :
    Clo (fun (_ : Unit) w => w.cell? ⟨b1, 0, .none⟩ = some (.int .i64 now) ∧ w.cell? ⟨b2, 0, .none⟩ = some (.int .i64 age)) Nowhere (At g) B0 81 #[.pointer (some ⟨b1, 0, .none⟩), .pointer (some ⟨b2, 0, .none⟩)] (lateP now age) (fun _ _ => ()) where
  enter := enter81
  call := fun s w r hr hj hB => (late1_any b1 b2 now age r w hr hj.1 hj.2).mono fun e w' ⟨he, hc⟩ =>
    ⟨he, ⟨(hc.cell (p := ⟨b1, 0, .none⟩) (World.block_lt_of_cell? w _ hj.1) (not_nowhere _)).trans hj.1, (hc.cell (p := ⟨b2, 0, .none⟩) (World.block_lt_of_cell? w _ hj.2) (not_nowhere _)).trans hj.2⟩, hc⟩
  stay := fun s w w' hj hc => ⟨cell_stay hj.1 h1 n1 hc, cell_stay hj.2 h2 n2 hc⟩
  low := fun i h => h.elim

def lateS (S : Sch) (k now age : Int) : Sch := match S.op k with
  | some f => setOp S k (some (lostF (lateP now age) f))
  | .none => S
def lateL (S : Sch) (k now age : Int) : List (Int × Int) := match S.op k with
  | some f => cars (f.l.filter (lateP now age))
  | .none => []
def LateTo (Z : Nat → Prop) (w : World) (s N : Nat) (S : Sch) (k now age : Int) (e : Ending) (w' : World) : Prop :=
  ∃ v, e = .returned v ∧ w'.ownsRow w.heap.size 49 2 v (lateL S k now age).length (flat (lateL S k now age)) ∧ SchIs Z w' s N (lateS S k now age) ∧ ChgZ Z w w'
set_option maxHeartbeats 1600000 in
set_option maxRecDepth 100000 in
theorem late_any (Z : Nat → Prop) (w : World) (s N : Nat) (S : Sch) (h : SchIs Z w s N S) (hZ : ∀ i, w.heap.size ≤ i → Z i) (k now age : Int) (hk : InI k) :
    Calls Try.prog 49 #[.pointer (some ⟨s, 0, .none⟩), .int .i64 k, .int .i64 now, .int .i64 age] w (LateTo Z w s N S k now age) := by
  have hmf : ∀ (fn : Fn) (first cap : Array Value) (w : World), (Instr.makeFunc fn first cap).run Try.prog w = .ok (.func fn first cap) w := fun _ _ _ _ => rfl
  have hC0 : Chg Nowhere w ((w.alloc (.cells #[.int .i64 now] 3)).alloc (.cells #[.int .i64 age] 3)) := ((Chg.refl _ w).alloc _).alloc _
  have hI := h.idle hC0
  obtain ⟨m, F, V, h⟩ := hI
  have HI := Lib.hid (h : SchAt Z _ s m N F V S)
  have H := HI
  have HZ := Lib.hid hZ
  have HC0 := Lib.hid hC0
  have hlk := h.map.look hk
  have A1 : (w.alloc (.cells #[.int .i64 now] 3)).heap.size = w.heap.size + 1 := by simp
  have cs : ((w.alloc (.cells #[.int .i64 now] 3)).alloc (.cells #[.int .i64 age] 3)).cell? ⟨s, 2, .none⟩ = some (.map (some m)) := by rw [cell_blk h.blk]; rfl
  cases hf : F k with
  | none =>
    rw [hf] at hlk
    simp only [lookV] at hlk
    have E := Lib.hid (show lateS S k now age = S by unfold lateS; rw [h.no k hf])
    have E2 := Lib.hid (show lateL S k now age = [] by unfold lateL; rw [h.no k hf])
    clear h hf hZ hC0 A1
    go_enter Try.func49, Try.ntmps49
    go_wp2_with fail
    go_ret
    exact ⟨_, rfl, by rw [E2.out]; exact World.ownsRow_nil _ _ _ _, by rw [E.out]; exact ⟨_, _, _, H.out⟩, ChgZ.none HC0.out⟩
  | some g =>
    obtain ⟨f, hop, hF⟩ := h.fl k g hf
    rw [hf] at hlk
    simp only [lookV] at hlk
    have E := Lib.hid (show lateS S k now age = setOp S k (some (lostF (lateP now age) f)) by unfold lateS; rw [hop])
    have E2 := Lib.hid (show lateL S k now age = cars (f.l.filter (lateP now age)) by unfold lateL; rw [hop])
    have hb1 : ((w.alloc (.cells #[.int .i64 now] 3)).alloc (.cells #[.int .i64 age] 3)).heap[w.heap.size]? = some (.cells #[.int .i64 now] 3 (0,0)) := alloc_old (alloc_new _ _)
    have hb2 : ((w.alloc (.cells #[.int .i64 now] 3)).alloc (.cells #[.int .i64 age] 3)).heap[w.heap.size + 1]? = some (.cells #[.int .i64 age] 3 (0,0)) := by
      have := alloc_new (w.alloc (.cells #[.int .i64 now] 3)) (.cells #[.int .i64 age] 3)
      rwa [A1] at this
    have HCl := Lib.hid (late_clo w.heap.size (w.heap.size + 1) g _ now age (lt_blk hb1) (lt_blk hb2) (types_ne hb1 hF.blk (by decide)) (types_ne hb2 hF.blk (by decide)))
    have HJ := Lib.hid (show _ ∧ _ from ⟨by rw [cell_blk hb1]; rfl, by rw [cell_blk hb2]; rfl⟩ : ((w.alloc (.cells #[.int .i64 now] 3)).alloc (.cells #[.int .i64 age] 3)).cell? ⟨w.heap.size, 0, .none⟩ = some (.int .i64 now) ∧ ((w.alloc (.cells #[.int .i64 now] 3)).alloc (.cells #[.int .i64 age] 3)).cell? ⟨w.heap.size + 1, 0, .none⟩ = some (.int .i64 age))
    have HF := Lib.hid hF
    have HK := Lib.hid hf
    clear h hf hZ hC0 hop hF hb1 hb2 A1
    go_enter Try.func49, Try.ntmps49
    go_wp2_with fail
    refine (lose_any _ Nowhere _ _ () _ g _ f HF.out _ _ HCl.out (fun i h => h.elim) HJ.out).mono ?_
    rintro e w' ⟨vr, vl, rfl, r1, r2, r3, r4, r5⟩
    have hs0 := HC0.out.size
    have fin := H.out.turn HK.out (r5.mono fun i _ hi => hi.elim (fun h => h.elim) (fun h => Or.inl h)) r2 (fun i hi => .inr ⟨r3 i hi, HZ.out i (by have := r3 i hi; omega)⟩)
    have FIN := Lib.hid fin
    have R1 := Lib.hid (r1.mono hs0)
    clear r1 r2 r3 r4 r5 fin
    go_wp2_with fail
    go_ret
    exact ⟨_, rfl, by rw [E2.out]; exact R1.out, by rw [E.out]; exact ⟨_, _, _, FIN.out.1⟩, (ChgZ.none HC0.out).trans FIN.out.2⟩
end Go.Proofs.Ytiijnhgafadokaa
