/-
  Package slices: Clone at bytes (the walk).
-/
import Derived.Test.YtebmbapaedlmiaaDoorSAeS
import Derived.Maps.AppendAt
import Derived.Laws.AppendOwnNone
import Derived.Deep.AppendLies
import Derived.Deep.RegionLaw
import Derived.Lib.SliceRun
namespace Go.Proofs.YtebmbapaedlmiaaDoor
open Go.RowKit Ae
set_option linter.unusedVariables false

theorem infoB_parts : ∃ i, Tryd.prog.info? 5 = some i ∧ i.zero = some (.int .u8 0) ∧ i.size = 1 ∧ i.bytes = 1 := by
  obtain ⟨i, hi, h⟩ := Option.map_eq_some_iff.1 infoB8
  simp only [Prod.mk.injEq] at h
  exact ⟨i, hi, h⟩
/-- A row of bytes that is its caller's own, made after the world w. -/
def OwnB (w w' : World) (v : Value) (l : List Nat) : Prop := w'.ownsRow 0 5 1 v l.length (bl l) ∧ (∀ i, v.ownBlock = some i → w.heap.size ≤ i)
def GivesO (w : World) (l : List Nat) : Ending → World → Prop := fun e w' => ∃ v, e = .returned v ∧ OwnB w w' v l ∧ Chg Nowhere w w'
set_option maxHeartbeats 1600000 in
set_option maxRecDepth 100000 in
theorem cloneB_any (v : Value) (l : List Nat) (w : World) (h : RdB w v l) (hl : l.length ≤ 100000000) :
    Calls Tryd.prog 21 #[v] w (GivesO w l) := by
  obtain ⟨i0, hi, hz0, hz1, hz2⟩ := infoB_parts
  obtain ⟨-, A, cap, rfl, hcap, hA⟩ := h
  cases A with
  | none =>
    have h0 : l = [] := by
      cases l with
      | nil => rfl
      | cons r l => obtain ⟨g, o, e, _⟩ := hA (by simp); cases e
    subst h0
    clear hA
    have hnl := Lib.run_eql_slice_nil (P := Tryd.prog) w 26 5 .none 0 cap 0 0 Tryd.underlying26
    go_enter Tryd.func21, Tryd.ntmps21
    go_wp2_with fail
    go_ret
    exact ⟨_, rfl, ⟨World.ownsRow_nil _ _ _ _, fun i hi => by cases hi⟩, Chg.refl _ _⟩
  | some ad =>
    have hn : ∀ j u, (bl l)[j]? = some u → (w.alloc (.cells #[] 5)).cell? (ad.add j) = some u := by
      intro j u hj
      have hlt : j < (bl l).length := (List.getElem?_eq_some_iff.1 hj).1
      have hll := bl_len l
      obtain ⟨g, o, e, hg, hc⟩ := hA (by omega)
      cases e
      have : (⟨g, o, .none⟩ : Addr).add j = ⟨g, o + j, .none⟩ := by unfold Addr.add; split <;> simp_all
      rw [this]
      exact (((Chg.refl Nowhere w).alloc _).cell (p := ⟨g, o + j, .none⟩) hg (not_nowhere _)).trans ((hc j hlt).trans hj)
    have HN := Lib.hid hn
    have hO0 := Lib.hid (World.ownsRow_lit (base := 0) (e := 5) (size := 1) w #[] 0 (by omega) (by unfold maxLen; omega) rfl)
    clear hn hA
    have hnl := Lib.run_eql_slice_nil (P := Tryd.prog) w 26 5 (some ad) l.length cap 0 0 Tryd.underlying26
    go_enter Tryd.func21, Tryd.ntmps21
    go_wp2_with (at_builtin; refine wpList_append_own_at _ rfl _ _ 26 rfl 0 5 i0 (.int .u8 0) 1 1 Tryd.underlying26 hi hz0 hz1 hz2 rfl (by decide) (.slice (some ⟨w.heap.size, 0, .none⟩) 0 0) 0 [] rfl hO0.out ad l.length cap (bl l) rfl (by rw [bl_len, Nat.mul_one]) HN.out (bl_one l) (by unfold maxLen; omega) (by omega) (by omega) ?_; intro v' w3 hown' hgrow3 hnil3 hob; have HO' := Lib.hid hown'; have HB := Lib.hid hob; have HG := Lib.hid hgrow3; clear hown' hob hnil3 hgrow3)
    go_ret
    have A1 : (w.alloc (.cells #[] 5)).heap.size = w.heap.size + 1 := by simp
    have ho := HO'.out
    rw [Nat.zero_add, List.nil_append] at ho
    have hge : ∀ i, v'.ownBlock = some i → w.heap.size ≤ i := fun i hi => by
      rcases HB.out with e | e <;> rw [e] at hi
      · simp [Value.ownBlock] at hi; omega
      · rw [A1] at hi; injection hi; omega
    exact ⟨v', rfl, ⟨ho, hge⟩, ((Chg.refl _ w).alloc _).grown HG.out (fun k hk => .inl (by simp [Value.ownBlock] at hk; omega))⟩
end Go.Proofs.YtebmbapaedlmiaaDoor
