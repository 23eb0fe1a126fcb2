/-
  The scheduler (layer 21): of, Under, Window, Open.
-/
import Derived.Test.YtiijnhgafadokaaSchA
namespace Go.Proofs.Ytiijnhgafadokaa
open Go.RowKit
set_option linter.unusedVariables false

def InI (k : Int) : Prop := -9223372036854775808 ≤ k ∧ k ≤ 9223372036854775807
set_option maxHeartbeats 400000 in
theorem of_some (Z : Nat → Prop) (w : World) (s m N : Nat) (F : Int → Option Nat) (V : Int → Value) (S : Sch) (h : SchAt Z w s m N F V S) (k : Int) (hk : InI k) (g : Nat) (hg : F k = some g) :
    Calls Try.prog 80 #[.pointer (some ⟨s, 0, .none⟩), .int .i64 k] w fun e w' => e = .returned (.pointer (some ⟨g, 0, .none⟩)) ∧ w = w' := by
  have hlk := h.map.look hk
  rw [hg] at hlk
  simp only [lookV] at hlk
  have c : w.cell? ⟨s, 2, .none⟩ = some (.map (some m)) := by rw [cell_blk h.blk]; rfl
  clear h hg
  go_enter Try.func80, Try.ntmps80
  go_wp2_with fail
  go_ret
  exact ⟨rfl, rfl⟩
def OfNone (w : World) (e : Ending) (w' : World) : Prop := e = .returned (.pointer (some ⟨w.heap.size, 0, .none⟩)) ∧ w' = w.alloc (.cells #[.int .i64 0, .int .i64 0, .slice .none 0 0] 101)
set_option maxHeartbeats 400000 in
theorem of_none (Z : Nat → Prop) (w : World) (s m N : Nat) (F : Int → Option Nat) (V : Int → Value) (S : Sch) (h : SchAt Z w s m N F V S) (k : Int) (hk : InI k) (hg : F k = .none) :
    Calls Try.prog 80 #[.pointer (some ⟨s, 0, .none⟩), .int .i64 k] w (OfNone w) := by
  have hlk := h.map.look hk
  rw [hg] at hlk
  simp only [lookV] at hlk
  have c : w.cell? ⟨s, 2, .none⟩ = some (.map (some m)) := by rw [cell_blk h.blk]; rfl
  clear h hg
  go_enter Try.func80, Try.ntmps80
  go_wp2_with fail
  go_ret
  exact ⟨rfl, rfl⟩

def under (S : Sch) (k : Int) : Nat := match S.op k with
  | some f => f.l.length
  | .none => 0
def window (S : Sch) (k : Int) : Int := match S.op k with
  | some f => f.win
  | .none => 0
set_option maxHeartbeats 400000 in
theorem underS_any (Z : Nat → Prop) (w : World) (s N : Nat) (S : Sch) (h : SchIs Z w s N S) (k : Int) (hk : InI k) :
    Calls Try.prog 47 #[.pointer (some ⟨s, 0, .none⟩), .int .i64 k] w fun e w' => e = .returned (.int .i64 (under S k)) ∧ Chg Nowhere w w' := by
  obtain ⟨m, F, V, h⟩ := h
  have H := Lib.hid h
  have HK := Lib.hid hk
  cases hf : F k with
  | some g =>
    obtain ⟨f, hop, hF⟩ := h.fl k g hf
    obtain ⟨-, A, cp, hv, -, -⟩ := Rd.of_owns hF.row
    have c : w.cell? ⟨g, 2, .none⟩ = some (.slice A f.l.length cp) := by rw [cell_blk hF.blk, ← hv]; rfl
    have E := Lib.hid (show under S k = f.l.length by unfold under; rw [hop])
    have HF := Lib.hid hf
    clear h hk hf hop hF hv
    go_enter Try.func47, Try.ntmps47
    go_wp2_with fail
    refine (of_some Z _ _ _ _ _ _ _ H.out _ HK.out _ HF.out).mono ?_
    rintro e w' ⟨rfl, rfl⟩
    go_wp2_with fail
    go_ret
    rw [E.out]
    exact ⟨rfl, Chg.refl _ _⟩
  | none =>
    have E := Lib.hid (show under S k = 0 by unfold under; rw [h.no k hf])
    have HF := Lib.hid hf
    clear h hk hf
    go_enter Try.func47, Try.ntmps47
    go_wp2_with fail
    refine (of_none Z _ _ _ _ _ _ _ H.out _ HK.out HF.out).mono ?_
    rintro e w' ⟨rfl, rfl⟩
    go_wp2_with fail
    go_ret
    rw [E.out]
    exact ⟨rfl, (Chg.refl _ _).alloc _⟩
set_option maxHeartbeats 400000 in
theorem windowS_any (Z : Nat → Prop) (w : World) (s N : Nat) (S : Sch) (h : SchIs Z w s N S) (k : Int) (hk : InI k) :
    Calls Try.prog 48 #[.pointer (some ⟨s, 0, .none⟩), .int .i64 k] w fun e w' => e = .returned (.int .i64 (window S k)) ∧ Chg Nowhere w w' := by
  obtain ⟨m, F, V, h⟩ := h
  have H := Lib.hid h
  have HK := Lib.hid hk
  cases hf : F k with
  | some g =>
    obtain ⟨f, hop, hF⟩ := h.fl k g hf
    have c : w.cell? ⟨g, 0, .none⟩ = some (.int .i64 f.win) := by rw [cell_blk hF.blk]; rfl
    have E := Lib.hid (show window S k = f.win by unfold window; rw [hop])
    have HF := Lib.hid hf
    clear h hk hf hop hF
    go_enter Try.func48, Try.ntmps48
    go_wp2_with fail
    refine (of_some Z _ _ _ _ _ _ _ H.out _ HK.out _ HF.out).mono ?_
    rintro e w' ⟨rfl, rfl⟩
    go_wp2_with fail
    go_ret
    rw [E.out]
    exact ⟨rfl, Chg.refl _ _⟩
  | none =>
    have E := Lib.hid (show window S k = 0 by unfold window; rw [h.no k hf])
    have HF := Lib.hid hf
    clear h hk hf
    go_enter Try.func48, Try.ntmps48
    go_wp2_with fail
    refine (of_none Z _ _ _ _ _ _ _ H.out _ HK.out HF.out).mono ?_
    rintro e w' ⟨rfl, rfl⟩
    go_wp2_with fail
    go_ret
    rw [E.out]
    exact ⟨rfl, (Chg.refl _ _).alloc _⟩

def setOp (S : Sch) (k : Int) (o : Option Fl) : Sch := { S with op := fun x => if x = k then o else S.op x }
def openS (S : Sch) (k : Int) : Sch := match S.op k with
  | some _ => S
  | .none => if 0 ≤ k then setOp S k (some ⟨4, 0, []⟩) else S
def OpenTo (Z : Nat → Prop) (w : World) (s N : Nat) (S : Sch) (k : Int) (e : Ending) (w' : World) : Prop :=
  e = .returned (.tuple #[]) ∧ SchIs Z w' s (N + 1) (openS S k) ∧ ChgZ Z w w'
theorem SchIs.more {Z : Nat → Prop} {w : World} {s N : Nat} {S : Sch} (h : SchIs Z w s N S) : SchIs Z w s (N + 1) S := by
  obtain ⟨m, F, V, h⟩ := h
  obtain ⟨D, hD, hO, hF⟩ := h.map
  exact ⟨m, F, V, { h with map := ⟨D, hD, hO.mono (Nat.le_succ _), hF⟩ }⟩
theorem SchAt.mineS {Z : Nat → Prop} {w : World} {s m N : Nat} {F : Int → Option Nat} {V : Int → Value} {S : Sch} (h : SchAt Z w s m N F V S) : Mine w s := .inl ⟨_, _, _, h.blk, .inl rfl⟩
theorem SchAt.mineM {Z : Nat → Prop} {w : World} {s m N : Nat} {F : Int → Option Nat} {V : Int → Value} {S : Sch} (h : SchAt Z w s m N F V S) : Mine w m := by
  obtain ⟨D, _, ⟨es, c, hb, _⟩, _⟩ := h.map
  exact .inr ⟨_, _, hb⟩
theorem SchAt.notMap {Z : Nat → Prop} {w : World} {s m N : Nat} {F : Int → Option Nat} {V : Int → Value} {S : Sch} (h : SchAt Z w s m N F V S) {i : Nat} {a : Array Value} {t : Nat} (hi : w.heap[i]? = some (.cells a t (0,0))) : i ≠ m := by
  obtain ⟨D, _, ⟨es, c, hb, _⟩, _⟩ := h.map
  rintro rfl
  rw [hb] at hi; cases hi
/-- A new flight at block g, told in the map at key k. -/
theorem SchAt.opened {Z : Nat → Prop} {w w' : World} {s m N : Nat} {F : Int → Option Nat} {V : Int → Value} {S : Sch} (h : SchAt Z w s m N F V S) (hZ : ∀ i, w.heap.size ≤ i → Z i) {k : Int} (hk0 : 0 ≤ k) (hk1 : k ≤ 9223372036854775807) (hf : F k = .none)
    (hm : MapAt w' m (N + 1) (insF F k w.heap.size)) (hg : (w.alloc (.cells #[.int .i64 4, .int .i64 0, .slice .none 0 0] 101)).grownBy w' (some m)) :
    SchAt Z w' s m (N + 1) (insF F k w.heap.size) (fun x => if x = k then .slice .none 0 0 else V x) (setOp S k (some ⟨4, 0, []⟩)) ∧ ChgZ Z w w' := by
  have hml := h.map.lt
  have hC : Chg (At m) w w' := ((Chg.refl _ w).alloc _).grown hg (fun i hi => .inr (by cases hi; rfl))
  have hAt : ∀ i, At m i → Mine w i := fun i hi => by rw [show i = m from hi]; exact h.mineM
  have hgb : w'.heap[w.heap.size]? = some (.cells #[.int .i64 4, .int .i64 0, .slice .none 0 0] 101 (0,0)) := (hg.block _ (by simp) (by simp; omega)).trans (alloc_new _ _)
  have hne : ∀ k' g', F k' = some g' → g' ≠ w.heap.size := fun k' g' hk' e => by
    obtain ⟨f, _, hF⟩ := h.fl k' g' hk'
    have := lt_blk hF.blk
    omega
  refine ⟨⟨hC.keep h.blk (h.notMap h.blk), hm, fun k' g' hk' => ?_, fun k' hk' => ?_, fun k1 k2 g' h1 h2 => ?_, fun k1 k2 g1 g2 r h1 h2 r1 r2 => ?_, h.zs, h.zm, fun k' g' hk' => ?_, fun k' g' r hk' hr => ?_, fun k' g' hk' => ?_⟩, ChgZ.of hC fun i hi hs => ⟨by rw [show i = m from hs]; exact h.zm, hAt i hs⟩⟩
  · unfold insF at hk'
    by_cases e : k' = k
    · subst e
      rw [if_pos rfl] at hk'
      cases hk'
      refine ⟨_, if_pos rfl, ?_⟩
      rw [if_pos rfl]
      exact ⟨hgb, World.ownsRow_nil _ _ _ _, (fun r hr => by cases hr), by simp, by decide, by decide⟩
    · rw [if_neg e] at hk' ⊢
      obtain ⟨f, hop, hF⟩ := h.fl k' g' hk'
      refine ⟨f, by unfold setOp; simp only; rw [if_neg e]; exact hop, hF.chg hC hAt (h.notMap hF.blk) fun i hi => ?_⟩
      obtain ⟨cur, hh⟩ := own_blk hF.row hi
      exact h.notMap hh
  · unfold insF at hk'
    by_cases e : k' = k
    · rw [if_pos e] at hk'; cases hk'
    · rw [if_neg e] at hk'
      unfold setOp; simp only; rw [if_neg e]
      exact h.no k' hk'
  · unfold insF at h1 h2
    by_cases e1 : k1 = k <;> by_cases e2 : k2 = k
    · rw [e1, e2]
    · rw [if_pos e1] at h1; rw [if_neg e2] at h2; cases h1; exact absurd rfl (hne _ _ h2)
    · rw [if_neg e1] at h1; rw [if_pos e2] at h2; cases h2; exact absurd rfl (hne _ _ h1)
    · rw [if_neg e1] at h1; rw [if_neg e2] at h2; exact h.inj _ _ _ h1 h2
  · unfold insF at h1 h2
    by_cases e1 : k1 = k
    · rw [if_pos e1] at r1; cases r1
    · by_cases e2 : k2 = k
      · rw [if_pos e2] at r2; cases r2
      · rw [if_neg e1] at h1 r1; rw [if_neg e2] at h2 r2; exact h.rows _ _ _ _ _ h1 h2 r1 r2
  · unfold insF at hk'
    by_cases e : k' = k
    · rw [if_pos e] at hk'; cases hk'; exact hZ _ (Nat.le_refl _)
    · rw [if_neg e] at hk'; exact h.zg _ _ hk'
  · unfold insF at hk'
    by_cases e : k' = k
    · rw [if_pos e] at hr; cases hr
    · rw [if_neg e] at hk' hr; exact h.zr _ _ _ hk' hr
  · unfold insF at hk'
    by_cases e : k' = k
    · subst e; exact ⟨hk0, hk1⟩
    · rw [if_neg e] at hk'; exact h.key _ _ hk'
set_option maxHeartbeats 400000 in
theorem openS_any (Z : Nat → Prop) (w : World) (s N : Nat) (S : Sch) (h : SchIs Z w s N S) (hZ : ∀ i, w.heap.size ≤ i → Z i) (hN : N < 1000000) (k : Int) (hk : InI k) :
    Calls Try.prog 42 #[.pointer (some ⟨s, 0, .none⟩), .int .i64 k] w (OpenTo Z w s N S k) := by
  have HI := Lib.hid h
  obtain ⟨m, F, V, h⟩ := h
  have H := Lib.hid h
  have HZ := Lib.hid hZ
  have hlk := h.map.look hk
  have c : w.cell? ⟨s, 2, .none⟩ = some (.map (some m)) := by rw [cell_blk h.blk]; rfl
  have hsl := lt_blk h.blk
  unfold InI at hk
  cases hf : F k with
  | some g =>
    obtain ⟨f, hop, hF⟩ := h.fl k g hf
    rw [hf] at hlk
    simp only [lookV] at hlk
    have E := Lib.hid (show openS S k = S by unfold openS; rw [hop])
    clear h hf hop hF hZ
    go_enter Try.func42, Try.ntmps42
    go_wp2_with fail
    go_end0
    exact ⟨rfl, by rw [E.out]; exact HI.out.more, ChgZ.refl _ _⟩
  | none =>
    rw [hf] at hlk
    simp only [lookV] at hlk
    have hno := h.no k hf
    by_cases hk0 : 0 ≤ k
    · have E := Lib.hid (show openS S k = setOp S k (some ⟨4, 0, []⟩) by unfold openS; rw [hno]; exact if_pos hk0)
      have HF := Lib.hid hf
      clear h hf hno hZ
      go_enter Try.func42, Try.ntmps42
      go_wp2_with (at_mapUpdate; refine wpList_mapPut _ rfl _ _ _ rfl rfl (H.out.map.keep (((Chg.refl Nowhere _).alloc _).block _ H.out.map.lt (not_nowhere _))) (by unfold maxLen; omega) k w.heap.size rfl rfl (by omega) ?_; intro w3 hm3 hg3; have HM := Lib.hid hm3; have HG := Lib.hid hg3; clear hm3 hg3)
      go_end0
      obtain ⟨r1, r2⟩ := H.out.opened HZ.out hk0 hk.2 HF.out HM.out HG.out
      exact ⟨rfl, by rw [E.out]; exact ⟨_, _, _, r1⟩, r2⟩
    · have E := Lib.hid (show openS S k = S by unfold openS; rw [hno]; exact if_neg hk0)
      clear h hf hno hZ
      go_enter Try.func42, Try.ntmps42
      go_wp2_with fail
      go_end0
      exact ⟨rfl, by rw [E.out]; exact HI.out.more, ChgZ.refl _ _⟩
end Go.Proofs.Ytiijnhgafadokaa
