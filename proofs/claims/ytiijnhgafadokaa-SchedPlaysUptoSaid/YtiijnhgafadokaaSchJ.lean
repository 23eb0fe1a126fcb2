/-
  The scheduler (layer 21): Got.
-/
import Derived.Test.YtiijnhgafadokaaSchI
namespace Go.Proofs.Ytiijnhgafadokaa
open Go.RowKit
set_option linter.unusedVariables false

theorem far_clo (b g B0 : Nat) (top : Int) (ht : InI top) (h1 : b < B0) (n1 : b ≠ g) :
    Clo (fun (_ : Unit) w => w.cell? ⟨b, 0, .none⟩ = some (.int .i64 top)) Nowhere (At g) B0 79 #[.pointer (some ⟨b, 0, .none⟩)] (farBehind top) (fun _ _ => ()) where
  enter := enter_of Try.func79 (by kernel_rfl) rfl
  call := fun s w r hr hj hB => (far_any b top r w hr ht hj).mono fun e w' ⟨he, hc⟩ =>
    ⟨he, (hc.cell (p := ⟨b, 0, .none⟩) (World.block_lt_of_cell? w _ hj) (not_nowhere _)).trans hj, hc⟩
  stay := fun s w w' hj hc => cell_stay hj h1 n1 hc
  low := fun i h => h.elim
theorem got_clo (b1 b2 b3 b4 g B0 : Nat) (top now : Int) (vl : Value) (l : List (Int × Int)) (hl : l.length ≤ 9223372036854775807) (h1 : b1 < B0) (h2 : b2 < B0) (h3 : b3 < B0) (h4 : b4 < B0) (n1 : b1 ≠ g) (n2 : b2 ≠ g) (n3 : b3 ≠ g) (n4 : b4 ≠ g)
    (hv : 0 < l.length → ∀ g' o n c', vl = .slice (some ⟨g', o, .none⟩) n c' → g' < B0 ∧ g' ≠ g) :
    Clo (fun t w => GotSt b1 b2 b3 b4 top now vl l t w) (At b4) (At g) B0 75 #[.pointer (some ⟨b1, 0, .none⟩), .pointer (some ⟨b3, 0, .none⟩), .pointer (some ⟨b4, 0, .none⟩), .pointer (some ⟨b2, 0, .none⟩)] (gotP top l) (stepG top now) where
  enter := enter_of Try.func75 (by kernel_rfl) rfl
  call := fun s w r hr hj hB => got1_any b1 b2 b3 b4 top now s vl l r w hr hj hl
  stay := fun s w w' hj hc => by
    have low : ∀ b, b < B0 → b ≠ g → ¬ (B0 ≤ b ∨ At g b) := fun b hb hg e => e.elim (fun e => by omega) (fun e => hg e)
    exact ⟨hc.keep hj.top (low _ h1 n1), hc.keep hj.row (low _ h2 n2), hc.keep hj.now (low _ h3 n3), hc.keep hj.tk (low _ h4 n4), hj.rd.mono2 hc (fun h0 g' o c' e _ => low _ (hv h0 g' o _ c' e).1 (hv h0 g' o _ c' e).2), hj.n14, hj.n34, hj.sep⟩
  low := fun i h => by rw [show i = b4 from h]; exact h4

def cameF (top : Int) (l : List (Int × Int)) (f : Fl) : Fl := ⟨min 32 (f.win + ((f.l.filter (gotP top l)).length : Nat)), f.next, f.l.filter fun r => !gotP top l r⟩
def gotS (S : Sch) (k top : Int) (l : List (Int × Int)) : Sch := match S.op k with
  | some f => setOp S k (some (lostF (farBehind top) (cameF top l f)))
  | .none => S
def gotL (S : Sch) (k top : Int) (l : List (Int × Int)) : List (Int × Int) := match S.op k with
  | some f => cars ((cameF top l f).l.filter (farBehind top))
  | .none => []
def gotT (S : Sch) (k top now : Int) : Int := match S.op k with
  | some f => f.l.foldl (stepG top now) (-1)
  | .none => -1
def GotTo (Z : Nat → Prop) (w : World) (s N : Nat) (S : Sch) (k top : Int) (l : List (Int × Int)) (now : Int) (e : Ending) (w' : World) : Prop :=
  ∃ v, e = .returned (.tuple #[v, .int .i64 (gotT S k top now)]) ∧ w'.ownsRow w.heap.size 49 2 v (gotL S k top l).length (flat (gotL S k top l)) ∧ SchIs Z w' s N (gotS S k top l) ∧ ChgZ Z w w'
/-- The world behind Got's head: four boxes. -/
def boxes (w : World) (top now tk : Int) (vl : Value) : World :=
  (((w.alloc (.cells #[.int .i64 top] 3)).alloc (.cells #[vl] 45)).alloc (.cells #[.int .i64 now] 3)).alloc (.cells #[.int .i64 tk] 3)
theorem boxes_chg (w : World) (top now tk : Int) (vl : Value) : Chg Nowhere w (boxes w top now tk vl) := ((((Chg.refl _ w).alloc _).alloc _).alloc _).alloc _
theorem boxes_at (w : World) (top now tk : Int) (vl : Value) : (boxes w top now tk vl).heap[w.heap.size]? = some (.cells #[.int .i64 top] 3 (0,0)) ∧ (boxes w top now tk vl).heap[w.heap.size + 1]? = some (.cells #[vl] 45 (0,0)) ∧
    (boxes w top now tk vl).heap[w.heap.size + 2]? = some (.cells #[.int .i64 now] 3 (0,0)) ∧ (boxes w top now tk vl).heap[w.heap.size + 3]? = some (.cells #[.int .i64 tk] 3 (0,0)) ∧ (boxes w top now tk vl).heap.size = w.heap.size + 4 := by
  have A1 : (w.alloc (.cells #[.int .i64 top] 3)).heap.size = w.heap.size + 1 := by simp
  have A2 : ((w.alloc (.cells #[.int .i64 top] 3)).alloc (.cells #[vl] 45)).heap.size = w.heap.size + 2 := by simp
  have A3 : (((w.alloc (.cells #[.int .i64 top] 3)).alloc (.cells #[vl] 45)).alloc (.cells #[.int .i64 now] 3)).heap.size = w.heap.size + 3 := by simp
  have h1 := alloc_new w (.cells #[.int .i64 top] 3)
  have h2 := alloc_new (w.alloc (.cells #[.int .i64 top] 3)) (.cells #[vl] 45)
  have h3 := alloc_new ((w.alloc (.cells #[.int .i64 top] 3)).alloc (.cells #[vl] 45)) (.cells #[.int .i64 now] 3)
  have h4 := alloc_new (((w.alloc (.cells #[.int .i64 top] 3)).alloc (.cells #[vl] 45)).alloc (.cells #[.int .i64 now] 3)) (.cells #[.int .i64 tk] 3)
  rw [A1] at h2
  rw [A2] at h3
  rw [A3] at h4
  exact ⟨alloc_old (alloc_old (alloc_old h1)), alloc_old (alloc_old h2), alloc_old h3, h4, by unfold boxes; simp⟩
set_option maxHeartbeats 1600000 in
set_option maxRecDepth 100000 in
theorem got_none (Z : Nat → Prop) (w : World) (s m N : Nat) (F : Int → Option Nat) (V : Int → Value) (S : Sch) (h : SchAt Z w s m N F V S) (k top now : Int) (hk : InI k) (vl : Value) (l : List (Int × Int)) (hR : Rd w vl 2 l.length (flat l)) (hf : F k = .none) :
    Calls Try.prog 46 #[.pointer (some ⟨s, 0, .none⟩), .int .i64 k, .int .i64 top, vl, .int .i64 now] w (GotTo Z w s N S k top l now) := by
  have HI := Lib.hid h
  have hA := h.chg (boxes_chg w top now 0 vl)
  have hlk := hA.map.look hk
  rw [hf] at hlk
  simp only [lookV, boxes] at hlk
  have cs : (boxes w top now 0 vl).cell? ⟨s, 2, .none⟩ = some (.map (some m)) := by rw [cell_blk hA.blk]; rfl
  simp only [boxes] at cs
  obtain ⟨A, cp, rfl, -, -⟩ := hR.2
  have E := Lib.hid (show gotS S k top l = S by unfold gotS; rw [h.no k hf])
  have E2 := Lib.hid (show gotL S k top l = [] by unfold gotL; rw [h.no k hf])
  have E3 := Lib.hid (show gotT S k top now = -1 by unfold gotT; rw [h.no k hf])
  clear h hf hA hR
  go_enter Try.func46, Try.ntmps46
  go_wp2_with fail
  have hB := boxes_at w top now (-1) (.slice A l.length cp)
  have cT : (boxes w top now (-1) (.slice A l.length cp)).cell? ⟨w.heap.size + 1 + 1 + 1, 0, .none⟩ = some (.int .i64 (-1)) := by
    rw [cell_blk hB.2.2.2.1]; rfl
  have hC := boxes_chg w top now (-1) (.slice A l.length cp)
  simp only [boxes] at cT hC
  refine bodyPost_ret (v := .tuple #[.slice .none 0 0, .int .i64 (-1)]) (by simp [results, Try.results46, cT, go_sem]) rfl ?_
  exact ⟨_, by rw [E3.out], by rw [E2.out]; exact World.ownsRow_nil _ _ _ _, by rw [E.out]; exact ⟨_, _, _, HI.out.chg hC⟩, ChgZ.none hC⟩
end Go.Proofs.Ytiijnhgafadokaa
