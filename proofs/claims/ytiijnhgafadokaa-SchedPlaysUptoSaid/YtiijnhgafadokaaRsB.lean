/-
  The document's scheduler: a flight's cell set; Open, all, told, lose.
-/
import Derived.Test.YtiijnhgafadokaaRsA
import Derived.Maps.AppendAt
namespace Go.Proofs.Ytiijnhgafadokaa
open Go.RowKit
set_option linter.unusedVariables false
variable {B : Nat}

theorem fcl_set (L : List RF) : ∀ (k : Nat) (f f' : RF) (j : Nat) (u : Value), L[k]? = some f → j < 5 → fcell f' = (fcell f).set j u → (fcl L).set (k * 5 + j) u = fcl (L.set k f') := by
  induction L with
  | nil => intro k f f' j u h; simp at h
  | cons x L ih =>
    intro k f f' j u h hj e
    rw [show fcl (x :: L) = fcell x ++ fcl L from rfl]
    cases k with
    | zero =>
      simp at h
      subst h
      rw [List.set_append_left _ _ (by simp [fcell]; omega)]
      rw [List.set_cons_zero, show fcl (f' :: L) = fcell f' ++ fcl L from rfl, e]
      simp
    | succ k =>
      rw [List.set_append_right _ _ (by simp [fcell]; omega), List.set_cons_succ, show fcl (x :: L.set k f') = fcell x ++ fcl (L.set k f') from rfl]
      rw [show (k + 1) * 5 + j - (fcell x).length = k * 5 + j by simp [fcell]; omega, ih k f f' j u (by simpa using h) hj e]
theorem types_nott {w : World} {i j : Nat} {a b : Array Value} {s t : Nat} (h : w.heap[i]? = some (.cells a s (0,0))) (k : w.heap[j]? = some (.cells b t (0,0))) (ne : s ≠ t) : i ≠ j := by
  rintro rfl
  rw [h] at k
  simp only [Option.some.injEq, Obj.cells.injEq] at k
  exact ne k.2.1
theorem RSAt.base {w : World} {y : Nat} {vL : Value} {R : RSch} (h : RSAt B w y vL R) : B ≤ w.heap.size := Nat.le_of_lt (Nat.lt_of_le_of_lt h.zy (lt_blk h.blk))
/-- What one flight alone may be turned to. -/
def Apart (R : RSch) (k : Nat) (v : Value) : Prop := ∀ (i : Nat) g r, R.L[i]? = some g → i ≠ k → v.ownBlock = some r → g.lv.ownBlock = some r → False
theorem RSAt.apartOf {w : World} {y : Nat} {vL : Value} {R : RSch} (h : RSAt B w y vL R) {k : Nat} {f : RF} (hk : R.L[k]? = some f) : Apart R k f.lv := fun i g r hi ne h1 h2 => ne (h.apart i k g f r hi hk h2 h1)
theorem RSAt.cellsW {w : World} {y : Nat} {vL : Value} {R : RSch} (h : RSAt B w y vL R) {k : Nat} {f : RF} (hk : R.L[k]? = some f) :
    ∃ g o c, vL = .slice (some ⟨g, o, .none⟩) R.L.length c ∧ g < w.heap.size ∧ (w.cell? ⟨g, o + k * 5, .none⟩ = some (.int .i64 f.id) ∧ w.cell? ⟨g, o + k * 5 + 1, .none⟩ = some (.int .i64 f.win) ∧ w.cell? ⟨g, o + k * 5 + 2, .none⟩ = some (.int .i64 f.top) ∧
      w.cell? ⟨g, o + k * 5 + 3, .none⟩ = some (.bool f.has) ∧ w.cell? ⟨g, o + k * 5 + 4, .none⟩ = some f.lv) ∧ MineR B w g ∧ (∀ j, w.frozen? ⟨g, o + k * 5 + j, .none⟩ = false) ∧
      ∀ (j : Nat) u f', j < 5 → fcell f' = (fcell f).set j u → RfOk w f' → Apart R k f'.lv → (∀ i, f'.lv.ownBlock = some i → B ≤ i) →
        RSAt B (w.setCell ⟨g, o + k * 5 + j, .none⟩ u) y vL { R with L := R.L.set k f' } ∧ Chg (At g) w (w.setCell ⟨g, o + k * 5 + j, .none⟩ u) := by
  have hl := (List.getElem?_eq_some_iff.1 hk).1
  have hfl := fcl_len R.L
  rcases h.row.2 with ⟨-, h0⟩ | ⟨g, cap, cur, hv, hg, hh, hn, hcap, hsz, hxs⟩
  · omega
  · have key : ∀ j u, (fcell f)[j]? = some u → w.cell? ⟨g, 0 + (k * 5 + j), .none⟩ = some u := fun j u hj => by
      have h5 : j < 5 := by have := (List.getElem?_eq_some_iff.1 hj).1; simpa [fcell] using this
      rw [cell_blk hh, Nat.zero_add, ← fcl_get R.L k f hk j u hj, ← hxs, List.getElem?_take_of_lt (by omega), Array.getElem?_toList]
    refine ⟨g, 0, cap, hv, lt_blk hh, ⟨key 0 _ rfl, key 1 _ rfl, key 2 _ rfl, key 3 _ rfl, key 4 _ rfl⟩, ⟨h.zL g (by rw [hv]; rfl), cur, _, hh, .inr (.inl rfl)⟩, fun j => frozen_blk hh, fun j u f' hj e hok hap hzf => ?_⟩
    have hC : Chg (At g) w (w.setCell ⟨g, 0 + k * 5 + j, .none⟩ u) := (Chg.refl _ _).putAt
    have hr : ∀ {q : RF}, RfOk w q → RfOk (w.setCell ⟨g, 0 + k * 5 + j, .none⟩ u) q := fun {q} hq => hq.keep hC (fun i hi e2 => by
      obtain ⟨c2, h2⟩ := own_blk hq.row hi
      exact types_nott h2 hh (by decide) (show i = g from e2)) (fun i c2 h2 e2 => types_nott h2 hh (by decide) (show i = g from e2))
    refine ⟨⟨hC.keep h.blk (fun e2 => types_nott h.blk hh (by decide) (show y = g from e2)), ⟨?_, .inr ⟨g, cap, cur.setIfInBounds (0 + k * 5 + j) u, by rw [List.length_set]; exact hv, hg, set_blk _ hh, by rw [List.length_set]; exact hn, hcap, by rw [Array.size_setIfInBounds]; exact hsz, ?_⟩⟩, fun q hq => ?_, fun a b p q r ha hb h1 h2 => ?_, by rw [List.length_set]; exact h.len, h.zy, h.zL, fun q hq i hi => (List.mem_or_eq_of_mem_set hq).elim (fun hq => h.zl q hq i hi) (fun e => hzf i (e ▸ hi))⟩, hC⟩
    · rw [fcl_len]
    · rw [List.length_set, Nat.zero_add, Array.toList_setIfInBounds, ← fcl_set R.L k f f' j u hk hj e, List.take_set, hxs]
    · rcases List.mem_or_eq_of_mem_set hq with hq | rfl
      · exact hr (h.fl q hq)
      · exact hr hok
    · rw [List.getElem?_set] at ha hb
      by_cases ea : k = a
      · by_cases eb : k = b
        · omega
        · rw [if_pos ea, if_pos (by omega)] at ha
          rw [if_neg eb] at hb
          cases ha
          exact (hap b q r hb (fun e => eb e.symm) h1 h2).elim
      · rw [if_neg ea] at ha
        by_cases eb : k = b
        · rw [if_pos eb, if_pos (by omega)] at hb
          cases hb
          exact (hap a p r ha (fun e => ea e.symm) h2 h1).elim
        · rw [if_neg eb] at hb
          exact h.apart a b p q r ha hb h1 h2
/-- A new row of flights is put into the object. -/
theorem RSAt.swap {w w3 : World} {y : Nat} {vL v' : Value} {R : RSch} (h : RSAt B w y vL R) {S : Nat → Prop} (hC : Chg S w w3) (hS : ∀ i, i < w.heap.size → S i → ∃ cur, w.heap[i]? = some (.cells cur 117 (0,0))) {L' : List RF}
    (ho : w3.ownsRow 0 117 5 v' L'.length (fcl L')) (hf : ∀ f ∈ L', RfOk w f) (ha : ∀ (i j : Nat) f g r, L'[i]? = some f → L'[j]? = some g → f.lv.ownBlock = some r → g.lv.ownBlock = some r → i = j) (hl : L'.length ≤ 100000) (hzv : ∀ i, v'.ownBlock = some i → B ≤ i) (hzl : ∀ f ∈ L', ∀ i, f.lv.ownBlock = some i → B ≤ i) (hSB : ∀ i, i < w.heap.size → S i → B ≤ i) :
    RSAt B (w3.setCell ⟨y, 2, .none⟩ v') y v' { R with L := L' } ∧ ChgR B w (w3.setCell ⟨y, 2, .none⟩ v') := by
  have ne : ∀ {i : Nat} {a : Array Value} {t : TypeId}, w.heap[i]? = some (.cells a t (0,0)) → t ≠ 117 → ¬ S i := fun {i a t} hi ht hp => by
    obtain ⟨cur, hh⟩ := hS i (lt_blk hi) hp
    rw [hi] at hh
    simp only [Option.some.injEq, Obj.cells.injEq] at hh
    exact ht hh.2.1
  have hb3 := hC.keep h.blk (ne h.blk (by decide))
  have hC4 : Chg (At y) w3 (w3.setCell ⟨y, 2, .none⟩ v') := (Chg.refl _ _).putAt
  have hyl := lt_blk h.blk
  refine ⟨⟨by rw [set_blk _ hb3]; rfl, own_chg ho hC4 fun i hi e => ?_, fun f hq => ?_, ha, hl, h.zy, hzv, hzl⟩, ?_⟩
  · obtain ⟨cur, hh⟩ := own_blk ho hi
    exact types_nott hh hb3 (by decide) (show i = y from e)
  · have h1 := (hf f hq).keep hC (fun i hi => by
      obtain ⟨cur, hh⟩ := own_blk (hf f hq).row hi
      exact ne hh (by decide)) (fun i cur hh => ne hh (by decide))
    exact h1.keep hC4 (fun i hi e => by
      obtain ⟨cur, hh⟩ := own_blk h1.row hi
      exact types_nott hh hb3 (by decide) (show i = y from e)) (fun i cur hh e => types_nott hh hb3 (by decide) (show i = y from e))
  · refine ChgR.of (S := fun i => S i ∨ i = y) ?_ ?_
    · refine (hC.mono fun i _ hi => .inl hi).trans hC4 fun i _ hi => .inr hi
    · rintro i hi (hs | rfl)
      · obtain ⟨cur, hh⟩ := hS i hi hs
        exact ⟨hSB i hi hs, cur, _, hh, .inr (.inl rfl)⟩
      · exact ⟨h.zy, _, _, h.blk, .inl rfl⟩

/-! Open. -/
theorem infoFl : (Try.prog.info? 117).map (fun i => (i.zero, i.size, i.bytes)) = some (some (.agg #[.int .i64 0, .int .i64 0, .int .i64 0, .bool false, .slice .none 0 0]), 5, 56) := by kernel_rfl
theorem infoRecR : (Try.prog.info? 120).map (fun i => (i.zero, i.size, i.bytes)) = some (some (.agg #[.int .i64 0, .int .i64 0, .slice .none 0 0]), 3, 40) := by kernel_rfl
def freshF (id : Int) : RF := ⟨id, 4, 0, false, .slice .none 0 0, []⟩
def openR (R : RSch) (id : Int) : RSch := if 0 ≤ id ∧ fnd R.L id = .none then { R with L := R.L ++ [freshF id] } else R
def OpenRTo (B : Nat) (w : World) (y : Nat) (R : RSch) (id : Int) (e : Ending) (w' : World) : Prop := e = .returned (.tuple #[]) ∧ RSIs B w' y (openR R id) ∧ ChgR B w w'
theorem cells5 (w : World) (id : Int) (B : Nat) (hB : w.heap.size = B) : ∀ j u, (fcl [freshF id])[j]? = some u → (w.alloc (.cells #[.int .i64 id, .int .i64 4, .int .i64 0, .bool false, .slice .none 0 0] 117)).cell? ((⟨B, 0, none⟩ : Addr).add j) = some u := by
  subst hB
  intro j u hj
  have : (⟨w.heap.size, 0, .none⟩ : Addr).add j = ⟨w.heap.size, j, .none⟩ := by unfold Addr.add; split <;> simp_all
  rw [this, cell_blk (alloc_new w _), ← hj]
  show [Value.int .i64 id, .int .i64 4, .int .i64 0, .bool false, .slice .none 0 0].toArray[j]? = _
  rw [List.getElem?_toArray]
  rfl
set_option maxHeartbeats 1600000 in
set_option maxRecDepth 100000 in
theorem openR_any (w : World) (y : Nat) (R : RSch) (h : RSIs B w y R) (hl : R.L.length < 100000) (id : Int) (hid : InI id) :
    Calls Try.prog 52 #[.pointer (some ⟨y, 0, .none⟩), .int .i64 id] w (OpenRTo B w y R id) := by
  obtain ⟨i0, hi, hz0, hz1, hz2⟩ := info_parts infoFl
  have HI := Lib.hid h
  obtain ⟨vL, h⟩ := h
  have H := Lib.hid h
  obtain ⟨A, c, rfl⟩ := h.slice
  have c2 : w.cell? ⟨y, 2, .none⟩ = some (.slice A R.L.length c) := by rw [cell_blk h.blk]; rfl
  have hyl := lt_blk h.blk
  clear h
  unfold InI at hid
  by_cases h0 : 0 ≤ id
  · cases hf : fnd R.L id with
    | none =>
      have E := Lib.hid (show openR R id = { R with L := R.L ++ [freshF id] } from if_pos ⟨h0, hf⟩)
      have EA := Lib.hid (show atI R.L id = -1 by unfold atI; rw [hf])
      clear hf
      go_enter Try.func52, Try.ntmps52
      go_wp2_with fail
      refine (at_any w y R HI.out id).mono ?_
      rw [EA.out]
      rintro e w' ⟨rfl, rfl⟩
      go_wp2_with (at_builtin; refine wpList_append_own_at _ rfl _ _ 112 rfl 0 117 i0 (.agg #[.int .i64 0, .int .i64 0, .int .i64 0, .bool false, .slice .none 0 0]) 5 56 Try.underlying112 hi hz0 hz1 hz2 rfl (by decide) (.slice A R.L.length c) R.L.length (fcl R.L) rfl (H.out.row.alloc _) ⟨w.heap.size, 0, .none⟩ 1 1 (fcl [freshF id]) rfl rfl (cells5 w id _ rfl) (fun x hx => by simp [fcl, fcell, freshF] at hx; rcases hx with rfl | rfl | rfl | rfl | rfl <;> rfl) (by unfold maxLen; omega) (by omega) (by omega) ?_; intro v' w3 hown' hgrow3 hnil3 hob; obtain ⟨-, A', cA', rfl, -, -⟩ := Rd.of_owns hown'; have HOB := Lib.hid hob; have HO := Lib.hid hown'; have HG := Lib.hid hgrow3; have hy3 : w3.frozen? ⟨y, 2, .none⟩ = false := frozen_blk ((Chg.grown ((Chg.refl (fun i => (Value.slice A R.L.length c).ownBlock = some i) w).alloc _) hgrow3 (fun k hk => .inr hk)).keep H.out.blk (fun e => by obtain ⟨cur, hh⟩ := own_blk H.out.row e; exact types_nott hh H.out.blk (by decide) rfl)); have hc3 : w3.cell? ⟨y, 2, .none⟩ = some (.slice A R.L.length c) := by { rw [cell_blk ((Chg.grown ((Chg.refl (fun i => (Value.slice A R.L.length c).ownBlock = some i) w).alloc _) hgrow3 (fun k hk => .inr hk)).keep H.out.blk (fun e => by obtain ⟨cur, hh⟩ := own_blk H.out.row e; exact types_nott hh H.out.blk (by decide) rfl))]; rfl }; clear hown' hnil3 hgrow3 hob)
      go_end0
      have hC : Chg (fun i => (Value.slice A R.L.length c).ownBlock = some i) w w3 := Chg.grown ((Chg.refl _ w).alloc _) HG.out (fun k hk => .inr hk)
      have ho : w3.ownsRow 0 117 5 (.slice A' (R.L.length + 1) cA') (R.L ++ [freshF id]).length (fcl (R.L ++ [freshF id])) := by
        rw [List.length_append, fcl_append]; exact HO.out
      obtain ⟨r1, r2⟩ := H.out.swap hC (fun i _ hi => own_blk H.out.row hi) ho (fun f hf => by
        rw [List.mem_append, List.mem_singleton] at hf
        rcases hf with hf | rfl
        · exact H.out.fl f hf
        · exact ⟨World.ownsRow_nil _ _ _ _, (fun r hr => by cases hr), by simp [freshF], by simp [freshF], by simp [freshF]⟩) (fun i j f g r hi' hj' h1 h2 => by
        have hn : ∀ (q : Nat) z, (R.L ++ [freshF id])[q]? = some z → z.lv.ownBlock = some r → R.L[q]? = some z := fun q z hq hz => by
          by_cases hq2 : q < R.L.length
          · rwa [List.getElem?_append_left hq2] at hq
          · rw [List.getElem?_append_right (by omega)] at hq
            have := List.mem_of_getElem? hq
            rw [List.mem_singleton] at this
            subst this
            cases hz
        exact H.out.apart i j f g r (hn _ _ hi' h1) (hn _ _ hj' h2) h1 h2) (by simp; omega) (fun i hi => by
        have h1 := H.out.zy
        rcases HOB.out with h | h
        · exact H.out.zL i (h ▸ hi)
        · rw [h] at hi
          injection hi with hi
          simp at hi
          omega) (fun f hf i hi => by
        rw [List.mem_append, List.mem_singleton] at hf
        rcases hf with hf | rfl
        · exact H.out.zl f hf i hi
        · cases hi) (fun i _ hi => H.out.zL i hi)
      exact ⟨rfl, by rw [E.out]; exact ⟨_, r1⟩, r2⟩
    | some i =>
      have E := Lib.hid (show openR R id = R from if_neg (fun hh => by rw [hf] at hh; cases hh.2))
      have EA := Lib.hid (show atI R.L id = (i : Int) by unfold atI; rw [hf])
      clear hf
      go_enter Try.func52, Try.ntmps52
      go_wp2_with fail
      refine (at_any w y R HI.out id).mono ?_
      rw [EA.out]
      rintro e w' ⟨rfl, rfl⟩
      go_wp2_with fail
      go_end0
      exact ⟨rfl, by rw [E.out]; exact HI.out, ChgR.refl _⟩
  · have E := Lib.hid (show openR R id = R from if_neg (fun hh => h0 hh.1))
    go_enter Try.func52, Try.ntmps52
    go_wp2_with fail
    go_end0
    exact ⟨rfl, by rw [E.out]; exact HI.out, ChgR.refl _⟩
end Go.Proofs.Ytiijnhgafadokaa
