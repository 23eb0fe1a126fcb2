/-
  The scheduler (layer 21): slices.Clone of records; what a clone keeps.
-/
import Derived.Test.YtiijnhgafadokaaSchClose
import Derived.Maps.RangeWalk
namespace Go.Proofs.Ytiijnhgafadokaa
open Go.RowKit
set_option linter.unusedVariables false

theorem rcl_one' {w : World} (l : List Rec) (h : ∀ r ∈ l, RecOk w r) : ∀ y ∈ rcl l, y.oneCell' = true := by
  intro y hy
  obtain ⟨r, hr, hy⟩ := List.mem_flatMap.1 hy
  obtain ⟨-, A, c, e, -, -⟩ := Rd.of_owns (h r hr).row
  simp only [List.mem_cons, List.not_mem_nil, or_false] at hy
  rcases hy with rfl | rfl | rfl
  · rfl
  · rfl
  · rw [e]; rfl
def CloneLTo (w : World) (l : List Rec) (e : Ending) (w' : World) : Prop :=
  ∃ v, e = .returned v ∧ w'.ownsRow 0 104 3 v l.length (rcl l) ∧ Chg Nowhere w w' ∧ ∀ i, v.ownBlock = some i → w.heap.size ≤ i
set_option maxHeartbeats 800000 in
set_option maxRecDepth 100000 in
theorem cloneL_any (v : Value) (l : List Rec) (w : World) (h : Rd w v 3 l.length (rcl l)) (hr : ∀ r ∈ l, RecOk w r) (hl : l.length ≤ 100000) :
    Calls Try.prog 88 #[v] w (CloneLTo w l) := by
  obtain ⟨i0, hi, hz0, hz1, hz2⟩ := info_parts infoRec
  obtain ⟨-, A, cap, rfl, hcap, hA⟩ := h
  cases A with
  | none =>
    have h0 : l = [] := by
      cases l with
      | nil => rfl
      | cons r l => obtain ⟨g, o, e, _⟩ := hA (by simp); cases e
    subst h0
    clear hA
    have hnl := Lib.run_eql_slice_nil (P := Try.prog) w 99 104 .none 0 cap 0 0 Try.underlying99
    go_enter Try.func88, Try.ntmps88
    go_wp2_with fail
    go_ret
    exact ⟨_, rfl, World.ownsRow_nil _ _ _ _, Chg.refl _ _, fun i hi => by cases hi⟩
  | some ad =>
    have hll := rcl_len l
    have hn : ∀ j u, (rcl l)[j]? = some u → (w.alloc (.cells #[] 104)).cell? (ad.add j) = some u := by
      intro j u hj
      have hlt : j < (rcl l).length := (List.getElem?_eq_some_iff.1 hj).1
      obtain ⟨g, o, e, hg, hc⟩ := hA (by omega)
      cases e
      rw [add_mk]
      exact (((Chg.refl Nowhere w).alloc _).cell (p := ⟨g, o + j, .none⟩) hg (not_nowhere _)).trans ((hc j hlt).trans hj)
    have HN := Lib.hid hn
    have H1 := Lib.hid (rcl_one' l hr)
    have hO0 := Lib.hid (World.ownsRow_lit (base := w.heap.size) (e := 104) (size := 3) w #[] 0 (by omega) (by unfold maxLen; omega) rfl)
    clear hn hA hr
    have hnl := Lib.run_eql_slice_nil (P := Try.prog) w 99 104 (some ad) l.length cap 0 0 Try.underlying99
    go_enter Try.func88, Try.ntmps88
    go_wp2_with (at_builtin; refine wpList_append_own _ rfl _ _ 99 rfl w.heap.size 104 i0 (.agg #[.int .i64 0, .int .i64 0, .slice .none 0 0]) 3 40 Try.underlying99 hi hz0 hz1 hz2 rfl (by decide) (.slice (some ⟨w.heap.size, 0, .none⟩) 0 0) 0 [] rfl hO0.out ad l.length cap (rcl l) rfl hll HN.out H1.out (by unfold maxLen; omega) (by omega) (by simp) ?_; intro v' w3 hown' hgrow3 hnil3; have HO' := Lib.hid hown'; have HG := Lib.hid hgrow3; clear hown' hnil3 hgrow3)
    go_ret
    have ho := HO'.out
    rw [Nat.zero_add, List.nil_append] at ho
    exact ⟨_, rfl, own_base ho (Nat.zero_le _), ((Chg.refl Nowhere w).alloc _).grown HG.out (fun k hk => .inl (by cases hk; exact Nat.le_refl _)), fun i hi => (ho.lt i hi).1⟩
/-- A flight that is new is told in the map. -/
theorem SchAt.added {Z : Nat → Prop} {w w1 w2 : World} {s m N : Nat} {F : Int → Option Nat} {V : Int → Value} {S : Sch} (h : SchAt Z w s m N F V S) (hC1 : Chg Nowhere w w1) {k : Int} {b : Nat} {v' : Value} {f : Fl} (hk : 0 ≤ k ∧ k ≤ 9223372036854775807) (hf : F k = .none)
    (hF : FlAt w1 b v' f) (hb : w.heap.size ≤ b) (hv : ∀ i, v'.ownBlock = some i → w.heap.size ≤ i) (hZb : Z b) (hZv : ∀ i, v'.ownBlock = some i → Z i)
    (hm : MapAt w2 m (N + 1) (insF F k b)) (hg : w1.grownBy w2 (some m)) :
    SchAt Z w2 s m (N + 1) (insF F k b) (fun x => if x = k then v' else V x) (setOp S k (some f)) ∧ Chg (At m) w1 w2 := by
  have h1 := h.chg hC1
  have hC : Chg (At m) w1 w2 := (Chg.refl _ w1).grown hg (fun i hi => .inr (by cases hi; rfl))
  have hAt : ∀ i, At m i → Mine w1 i := fun i hi => by rw [show i = m from hi]; exact h1.mineM
  have hol : ∀ k' g', F k' = some g' → g' < w.heap.size := fun k' g' hk' => by
    obtain ⟨f', _, hF'⟩ := h.fl k' g' hk'
    exact lt_blk hF'.blk
  have hrl : ∀ k' g' r, F k' = some g' → (V k').ownBlock = some r → r < w.heap.size := fun k' g' r hk' hr => by
    obtain ⟨f', _, hF'⟩ := h.fl k' g' hk'
    exact (hF'.row.lt r hr).2
  refine ⟨⟨hC.keep h1.blk (h1.notMap h1.blk), hm, fun k' g' hk' => ?_, fun k' hk' => ?_, fun k1 k2 g' h1 h2 => ?_, fun k1 k2 g1 g2 r h1 h2 r1 r2 => ?_, h.zs, h.zm, fun k' g' hk' => ?_, fun k' g' r hk' hr => ?_, fun k' g' hk' => ?_⟩, hC⟩
  · unfold insF at hk'
    by_cases e : k' = k
    · subst e
      rw [if_pos rfl] at hk'
      cases hk'
      refine ⟨f, by unfold setOp; simp, ?_⟩
      rw [if_pos rfl]
      exact hF.chg hC hAt (h1.notMap hF.blk) fun i hi => by
        obtain ⟨cur, hh⟩ := own_blk hF.row hi
        exact h1.notMap hh
    · rw [if_neg e] at hk' ⊢
      obtain ⟨f', hop, hF'⟩ := h1.fl k' g' hk'
      refine ⟨f', by unfold setOp; simp only; rw [if_neg e]; exact hop, hF'.chg hC hAt (h1.notMap hF'.blk) fun i hi => ?_⟩
      obtain ⟨cur, hh⟩ := own_blk hF'.row hi
      exact h1.notMap hh
  · unfold insF at hk'
    by_cases e : k' = k
    · rw [if_pos e] at hk'; cases hk'
    · rw [if_neg e] at hk'
      unfold setOp; simp only; rw [if_neg e]
      exact h.no k' hk'
  · unfold insF at h1 h2
    by_cases e1 : k1 = k <;> by_cases e2 : k2 = k
    · rw [e1, e2]
    · rw [if_pos e1] at h1; rw [if_neg e2] at h2; cases h1; have := hol _ _ h2; omega
    · rw [if_neg e1] at h1; rw [if_pos e2] at h2; cases h2; have := hol _ _ h1; omega
    · rw [if_neg e1] at h1; rw [if_neg e2] at h2; exact h.inj _ _ _ h1 h2
  · unfold insF at h1 h2
    by_cases e1 : k1 = k
    · by_cases e2 : k2 = k
      · rw [e1, e2]
      · rw [if_pos e1] at r1; rw [if_neg e2] at r2 h2; have := hv _ r1; have := hrl _ _ _ h2 r2; omega
    · by_cases e2 : k2 = k
      · rw [if_pos e2] at r2; rw [if_neg e1] at r1 h1; have := hv _ r2; have := hrl _ _ _ h1 r1; omega
      · rw [if_neg e1] at h1 r1; rw [if_neg e2] at h2 r2; exact h.rows _ _ _ _ _ h1 h2 r1 r2
  · unfold insF at hk'
    by_cases e : k' = k
    · rw [if_pos e] at hk'; cases hk'; exact hZb
    · rw [if_neg e] at hk'; exact h.zg _ _ hk'
  · unfold insF at hk'
    by_cases e : k' = k
    · rw [if_pos e] at hr; exact hZv _ hr
    · rw [if_neg e] at hk' hr; exact h.zr _ _ _ hk' hr
  · unfold insF at hk'
    by_cases e : k' = k
    · subst e; exact hk
    · rw [if_neg e] at hk'; exact h.key _ _ hk'
/-- In the round: what of the old one has come over; left: what is still to come. -/
def stillS (S : Sch) (left : Lit → Bool) : Sch := { S with op := fun k => if left (.int .i64 k) then .none else S.op k }
theorem same_int (a b : Int) : (Lit.int .i64 a).sameKey (.int .i64 b) = decide (a = b) := by
  unfold Lit.sameKey
  simp
theorem still_step {S : Sch} {left : Lit → Bool} {x : Int} {f : Fl} (h : S.op x = some f) : setOp (stillS S left) x (some f) = stillS S (fun z => left z && !z.sameKey (.int .i64 x)) := by
  unfold setOp stillS
  simp only [Sch.mk.injEq, true_and]
  funext k
  by_cases e : k = x
  · subst e; simp [h, same_int]
  · simp [e, same_int]
theorem still_done {S : Sch} {left : Lit → Bool} (h : ∀ k, left k = false) : stillS S left = S := by
  unfold stillS
  simp [h]
theorem still_start {Z : Nat → Prop} {w : World} {s m N : Nat} {F : Int → Option Nat} {V : Int → Value} {S : Sch} (h : SchAt Z w s m N F V S) {D : DataW Unit} (hD : Maps.IsMap D) (hF : ∀ (k : Int) z, D.atKey (.int .i64 k) z = at_ (F k) z) :
    stillS S (Maps.has D) = { S with op := fun _ => .none } := by
  unfold stillS
  simp only [Sch.mk.injEq, true_and]
  funext k
  cases hf : F k with
  | none =>
    rw [h.no k hf]
    split <;> rfl
  | some g =>
    rw [Maps.has_true_of_atKey (y := .lit (.int .i64 (g : Int))) fun z => by rw [hF, hf]; rfl]
    rfl
end Go.Proofs.Ytiijnhgafadokaa
