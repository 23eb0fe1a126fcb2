/-
  The scheduler (layer 21): Close.
-/
import Derived.Test.YtiijnhgafadokaaSchRow
namespace Go.Proofs.Ytiijnhgafadokaa
open Go.RowKit
set_option linter.unusedVariables false

theorem own_base {w : World} {base base' : Nat} {e : TypeId} {size : Nat} {v : Value} {n : Nat} {xs : List Value} (h : w.ownsRow base e size v n xs) (hb : base' ≤ base) : w.ownsRow base' e size v n xs := by
  refine ⟨h.1, ?_⟩
  rcases h.2 with h0 | ⟨g, cap, cur, hv, hg, r⟩
  · exact .inl h0
  · exact .inr ⟨g, cap, cur, hv, by omega, r⟩
def closeS (S : Sch) (k : Int) : Sch := match S.op k with
  | some _ => setOp S k .none
  | .none => S
def closeL (S : Sch) (k : Int) : List (Int × Int) := match S.op k with
  | some f => cars f.l
  | .none => []
def CloseTo (Z : Nat → Prop) (w : World) (s N : Nat) (S : Sch) (k : Int) (e : Ending) (w' : World) : Prop :=
  ∃ v, e = .returned v ∧ w'.ownsRow w.heap.size 49 2 v (closeL S k).length (flat (closeL S k)) ∧ SchIs Z w' s N (closeS S k) ∧ ChgZ Z w w'
/-- A key goes out of the map. -/
theorem SchAt.closed {Z : Nat → Prop} {w w' : World} {s m N : Nat} {F : Int → Option Nat} {V : Int → Value} {S : Sch} (h : SchAt Z w s m N F V S) {k : Int} (hm : MapAt w' m N (delF F k)) (hg : w.grownBy w' (some m)) :
    SchAt Z w' s m N (delF F k) V (setOp S k .none) ∧ Chg (At m) w w' := by
  have hC : Chg (At m) w w' := (Chg.refl _ w).grown hg (fun i hi => .inr (by cases hi; rfl))
  have hAt : ∀ i, At m i → Mine w i := fun i hi => by rw [show i = m from hi]; exact h.mineM
  have hd : ∀ {k' g'}, delF F k k' = some g' → k' ≠ k ∧ F k' = some g' := fun {k' g'} hk' => by
    unfold delF at hk'
    by_cases e : k' = k
    · rw [if_pos e] at hk'; cases hk'
    · rw [if_neg e] at hk'; exact ⟨e, hk'⟩
  refine ⟨⟨hC.keep h.blk (h.notMap h.blk), hm, fun k' g' hk' => ?_, fun k' hk' => ?_, fun k1 k2 g' h1 h2 => h.inj _ _ _ (hd h1).2 (hd h2).2, fun k1 k2 g1 g2 r h1 h2 r1 r2 => h.rows _ _ _ _ _ (hd h1).2 (hd h2).2 r1 r2, h.zs, h.zm, fun k' g' hk' => h.zg _ _ (hd hk').2, fun k' g' r hk' hr => h.zr _ _ _ (hd hk').2 hr, fun k' g' hk' => h.key _ _ (hd hk').2⟩, hC⟩
  · obtain ⟨f, hop, hF⟩ := h.fl k' g' (hd hk').2
    refine ⟨f, by unfold setOp; simp only; rw [if_neg (hd hk').1]; exact hop, hF.chg hC hAt (h.notMap hF.blk) fun i hi => ?_⟩
    obtain ⟨cur, hh⟩ := own_blk hF.row hi
    exact h.notMap hh
  · unfold setOp; simp only
    by_cases e : k' = k
    · rw [if_pos e]
    · rw [if_neg e]
      unfold delF at hk'
      rw [if_neg e] at hk'
      exact h.no k' hk'
set_option maxHeartbeats 1600000 in
set_option maxRecDepth 100000 in
theorem closeS_any (Z : Nat → Prop) (w : World) (s N : Nat) (S : Sch) (h : SchIs Z w s N S) (k : Int) (hk : InI k) :
    Calls Try.prog 50 #[.pointer (some ⟨s, 0, .none⟩), .int .i64 k] w (CloseTo Z w s N S k) := by
  have HI := Lib.hid h
  obtain ⟨m, F, V, h⟩ := h
  have H := Lib.hid h
  have hlk := h.map.look hk
  have c : w.cell? ⟨s, 2, .none⟩ = some (.map (some m)) := by rw [cell_blk h.blk]; rfl
  have hsl := lt_blk h.blk
  unfold InI at hk
  cases hf : F k with
  | some g =>
    obtain ⟨f, hop, hF⟩ := h.fl k g hf
    rw [hf] at hlk
    simp only [lookV] at hlk
    have E := Lib.hid (show closeS S k = setOp S k .none by unfold closeS; rw [hop])
    have EL := Lib.hid (show closeL S k = cars f.l by unfold closeL; rw [hop])
    have HF := Lib.hid hF
    clear h hf hop hF
    go_enter Try.func50, Try.ntmps50
    go_wp2_with (at_delete; refine wpList_mapDel _ rfl _ _ rfl rfl H.out.map k rfl (by omega) ?_; intro w3 hm3 hg3; have HM := Lib.hid (H.out.closed hm3 hg3); have hc3 : w3.cell? ⟨g, 2, .none⟩ = some (V k) := by { rw [cell_blk (HM.out.2.keep HF.out.blk (H.out.notMap HF.out.blk))]; rfl }; clear hm3 hg3)
    refine (carried_any (V k) f.l w3 (own_chg HF.out.row HM.out.2 fun i hi => by
      obtain ⟨cur, hh⟩ := own_blk HF.out.row hi
      exact H.out.notMap hh) (fun r hr => (HF.out.recs r hr).chg HM.out.2 (fun i hi => by rw [show i = m from hi]; exact H.out.mineM)) HF.out.len).mono ?_
    rintro e w4 ⟨v, rfl, hO, hC⟩
    have HO := Lib.hid hO
    have HC := Lib.hid hC
    clear hO hC
    go_wp2_with fail
    go_ret
    refine ⟨_, rfl, ?_, ?_, ?_⟩
    · rw [EL.out]
      exact own_base HO.out HM.out.2.size
    · rw [E.out]
      exact ⟨_, _, _, HM.out.1.chg HC.out⟩
    · exact (ChgZ.of HM.out.2 fun i _ hi => by rw [show i = m from hi]; exact ⟨H.out.zm, H.out.mineM⟩).trans (ChgZ.none HC.out)
  | none =>
    rw [hf] at hlk
    simp only [lookV] at hlk
    have hno := h.no k hf
    have E := Lib.hid (show closeS S k = S by unfold closeS; rw [hno])
    have EL := Lib.hid (show closeL S k = [] by unfold closeL; rw [hno])
    clear h hf hno
    go_enter Try.func50, Try.ntmps50
    go_wp2_with fail
    go_ret
    refine ⟨_, rfl, ?_, by rw [E.out]; exact HI.out, ChgZ.refl _ _⟩
    rw [EL.out]
    exact World.ownsRow_nil _ _ _ _
end Go.Proofs.Ytiijnhgafadokaa
