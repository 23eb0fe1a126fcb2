/-
  Package slices: Replace at ranges (the walks).
-/
import Derived.Test.YtlkbfacdaelbfaaRaG
import Derived.Deep.DeepAppendRoom
namespace Go.Proofs.Ytlkbfacdaelbfaa
open Go.RowKit
set_option linter.unusedVariables false

theorem insert_none (v : Value) (L : List Ra.Row) (i : Nat) (u : Value) (w : World) (h : w.ownsRow 0 33 2 v L.length (flat L)) (hi : i ≤ L.length) (hu : w.ownsRow 0 33 2 u 0 (flat [])) :
    Calls Try.prog 92 #[v, .int .i64 (i : Int), u] w (GivesRow w v L) := by
  have HF := Lib.hid (show GivesRow w v L (.returned v) w from ⟨v, rfl, h, Chg.refl _ _, fun i hi => .inl hi⟩)
  obtain ⟨A, cap, rfl⟩ := ownR_shape h
  obtain ⟨A2, cap2, rfl⟩ := ownR_shape hu
  obtain ⟨n, hnn⟩ : ∃ n, n = L.length := ⟨_, rfl⟩
  have hcap : n ≤ cap := by
    rw [hnn]
    rcases h.2 with ⟨h1, h2⟩ | ⟨g, c, cur, h1, _, _, h2, _⟩
    · simp only [Value.slice.injEq] at h1; omega
    · simp only [Value.slice.injEq] at h1; omega
  rw [← hnn] at HF hi ⊢
  clear h hu hnn
  rcases (by omega : cap = i ∨ i < cap) with rfl | hlt
  · go_enter Try.func92, Try.ntmps92
    go_wp2_with fail
    go_ret
    exact HF.out
  · have hci : ¬ (cap = i) := by omega
    go_enter Try.func92, Try.ntmps92
    go_wp2_with fail
    go_ret
    exact HF.out
theorem insert_any (v : Value) (L V : List Ra.Row) (i : Nat) (u : Value) (w : World) (h : w.ownsRow 0 33 2 v L.length (flat L)) (hi : i ≤ L.length) (hu : w.ownsRow 0 33 2 u V.length (flat V)) (hn : L.length + V.length ≤ 4000000) (hne : ∀ b, v.ownBlock = some b → u.ownBlock ≠ some b) :
    Calls Try.prog 92 #[v, .int .i64 (i : Int), u] w (GivesRow w v (L.take i ++ V ++ L.drop i)) := by
  by_cases hm : V = []
  · subst hm
    have := insert_none v L i u w h hi hu
    rw [List.append_nil, List.take_append_drop]
    exact this
  · have hm0 : 0 < V.length := List.length_pos_iff.2 hm
    rcases (by omega : i = L.length ∨ i < L.length) with rfl | hlt
    · rw [List.take_length, List.drop_length, List.append_nil]
      exact insert_end v L V u w h hu hm0 hn
    · obtain ⟨g, cap, R, rfl, hr, hnc⟩ := own_rowAt h (by omega)
      rcases (by omega : L.length + V.length ≤ cap ∨ cap < L.length + V.length) with hroom | hroom
      · exact insert_room g L.length cap i L V u w R hr rfl hlt hu hm0 hn hroom (hne g rfl)
      · exact insert_grow g L.length cap i L V u w R hr rfl hlt hu hm0 hn hroom hnc
/-- append in a row that has room. -/
theorem append_in (w : World) (ty : TypeId) (g n cap : Nat) (xs : List Value) (hown : w.ownsRow 0 33 2 (.slice (some ⟨g, 0, none⟩) n cap) n xs) (u : Value) (V : List Ra.Row) (hu : w.ownsRow 0 33 2 u V.length (flat V)) (hroom : n + V.length ≤ cap) :
    ∃ w', (Builtin.append_ #[30, 30] ty #[.slice (some ⟨g, 0, none⟩) n cap, u]).run Try.prog w = .ok (.slice (some ⟨g, 0, none⟩) (n + V.length) cap) w' ∧ w'.ownsRow 0 33 2 (.slice (some ⟨g, 0, none⟩) (n + V.length) cap) (n + V.length) (xs ++ flat V) ∧ w.grownBy w' (some g) := by
  obtain ⟨i0, hi, hz0, hz1, hz2⟩ := info_parts infoRng
  rcases hu.2 with ⟨rfl, h0⟩ | ⟨gu, cu, curu, rfl, _, hgu, hmc, _, hcs, htake⟩
  · have hV : V = [] := List.eq_nil_of_length_eq_zero h0
    subst hV
    have hu' := undR
    refine ⟨w, ?_, by simpa [flat] using hown, World.grownBy.refl _ _⟩
    have hnc : n ≤ cap := by simpa using hroom
    simp [Builtin.append_, run_underlying hu', sizeOf, typeInfo, hi, Builtin.lenOf, Builtin.firstCells, storeCells, hnc]
  · obtain ⟨w', h1, h2, h3⟩ := run_append_own_spare (P := Try.prog) w 0 30 ty 33 i0 2 undR hi hz1 g n cap xs hown ⟨gu, 0, none⟩ V.length cu (flat V) (flat_len V) (fun j x hj => by
      rw [addr_add, Nat.zero_add, cell_blk hgu, ← hj, ← htake, List.getElem?_take, if_pos (by have := (List.getElem?_eq_some_iff.1 hj).1; rw [flat_len] at this; omega)]
      simp) (flat_one' V) hroom
    exact ⟨w', h1, h2, h3⟩
set_option maxHeartbeats 4000000 in
set_option maxRecDepth 100000 in
theorem replace_same (v : Value) (L V : List Ra.Row) (i : Nat) (u : Value) (w : World) (h : w.ownsRow 0 33 2 v L.length (flat L)) (hi : i ≤ L.length) (hu : w.ownsRow 0 33 2 u V.length (flat V)) (hn : L.length + V.length ≤ 4000000) (hne : ∀ b, v.ownBlock = some b → u.ownBlock ≠ some b) :
    Calls Try.prog 75 #[v, .int .i64 (i : Int), .int .i64 (i : Int), u] w (GivesRow w v (L.take i ++ V ++ L.drop i)) := by
  have HI := Lib.hid (insert_any v L V i u w h hi hu hn hne)
  obtain ⟨A, cap, rfl⟩ := ownR_shape h
  obtain ⟨A2, cap2, rfl⟩ := ownR_shape hu
  obtain ⟨n, hnn⟩ : ∃ n, n = L.length := ⟨_, rfl⟩
  obtain ⟨m, hmm⟩ : ∃ n, n = V.length := ⟨_, rfl⟩
  have hcap : n ≤ cap := by
    rw [hnn]
    rcases h.2 with ⟨h1, h2⟩ | ⟨g, c, cur, h1, _, _, h2, _⟩
    · simp only [Value.slice.injEq] at h1; omega
    · simp only [Value.slice.injEq] at h1; omega
  rw [← hnn, ← hmm] at HI
  rw [← hnn] at hi
  rw [← hnn, ← hmm]
  obtain ⟨K, hK⟩ : ∃ K, K = L.take i ++ V ++ L.drop i := ⟨_, rfl⟩
  rw [← hK] at HI ⊢
  clear h hu hnn hmm hne hn hK
  rcases (by omega : cap = i ∨ i < cap) with rfl | hlt
  · go_enter Try.func75, Try.ntmps75
    go_wp2_with (go_at_call 92; refine HI.out.mono ?_; rintro e w' ⟨v', rfl, h1⟩; have H1 := Lib.hid h1; clear h1)
    go_ret
    exact ⟨v', rfl, H1.out⟩
  · have hci : ¬ (cap = i) := by omega
    go_enter Try.func75, Try.ntmps75
    go_wp2_with (go_at_call 92; refine HI.out.mono ?_; rintro e w' ⟨v', rfl, h1⟩; have H1 := Lib.hid h1; clear h1)
    go_ret
    exact ⟨v', rfl, H1.out⟩
set_option maxHeartbeats 4000000 in
set_option maxRecDepth 100000 in
theorem replace_tail (g n cap i : Nat) (L V : List Ra.Row) (u : Value) (w : World) (R : List Value) (hr : RowAt w g cap (flat L ++ R)) (hnl : L.length = n) (hi : i < n) (hnc : n ≤ cap) (hu : w.ownsRow 0 33 2 u V.length (flat V)) (hn : n + V.length ≤ 4000000) (hne : u.ownBlock ≠ some g) :
    Calls Try.prog 75 #[.slice (some ⟨g, 0, none⟩) n cap, .int .i64 (i : Int), .int .i64 (n : Int), u] w (GivesRow w (.slice (some ⟨g, 0, none⟩) n cap) (L.take i ++ V)) := by
  obtain ⟨m, hmm⟩ : ∃ n, n = V.length := ⟨_, rfl⟩
  have hfl := flat_len L
  have hXl : (flat (L.take i)).length = i * 2 := by rw [flat_len, List.length_take]; omega
  have hpre : w.ownsRow 0 33 2 (.slice (some ⟨g, 0, none⟩) i cap) i (flat (L.take i)) := hr.own (by omega) hXl (by
    rw [List.take_append_of_le_length (by omega), flat_take])
  have hlen : (L.take i ++ V).length = i + m := by rw [List.length_append, List.length_take]; omega
  have hflat : flat (L.take i ++ V) = flat (L.take i) ++ flat V := flat_append _ _
  have hne2 : ¬ ((i : Int) = (n : Int)) := by omega
  have hci : ¬ (cap = i) := by omega
  obtain ⟨A2, cu, hush⟩ := ownR_shape hu
  rcases (by omega : i + m ≤ cap ∨ cap < i + m) with hroom | hroom
  · obtain ⟨w1, hrun, hown, hgr⟩ := append_in w 30 g i cap (flat (L.take i)) hpre u V hu (by omega)
    rw [← hmm] at hrun hown
    rw [← hflat] at hown
    have hC1 : Chg (fun b => (Value.slice (some ⟨g, 0, none⟩) n cap).ownBlock = some b) w w1 := (Chg.refl _ w).grown hgr (fun k hk => .inr hk)
    have hCl : i + m < n → ∃ w2, (∀ ty dc, (Builtin.clear_ #[30] ty #[.slice (some ⟨g, (i + m) * 2, none⟩) (n - (i + m)) dc]).run Try.prog w1 = .ok (.tuple #[]) w2) ∧ GivesRow w (.slice (some ⟨g, 0, none⟩) n cap) (L.take i ++ V) (.returned (.slice (some ⟨g, 0, none⟩) (i + m) cap)) w2 := fun hlt => by
      rcases hown.2 with ⟨h1, _⟩ | ⟨g', cap', cur, h1, _, hg', hnc', hmax, hcs, htake⟩
      · cases h1
      · simp only [Value.slice.injEq, Option.some.injEq, Addr.mk.injEq, and_true, true_and] at h1
        obtain ⟨rfl, rfl⟩ := h1
        have hrow : RowAt w1 g cap cur.toList := ⟨by simpa using hg', by simpa using hcs, hmax⟩
        have hcl := fun ty dc => run_clear2 w1 ty g ((i + m) * 2) (n - (i + m)) dc cur.toList _ hrow.blk (by rw [hrow.size]; omega)
        refine ⟨_, hcl, _, rfl, ?_, hC1.putRow (b := g) (.inl rfl), fun b hb => .inl hb⟩
        rw [hlen]
        refine (hrow.set (length_splice _ _ _ (by rw [hrow.size, List.length_replicate]; omega))).own hroom (by rw [flat_len, hlen]) ?_
        unfold splice
        rw [List.take_append_of_le_length (by rw [List.length_take, hrow.size]; omega), List.take_take, Nat.min_self]
        exact htake
    rcases (by omega : i + m < n ∨ n ≤ i + m) with hlt | hge
    · obtain ⟨w2, hcl, hF⟩ := hCl hlt
      have HF := Lib.hid hF
      have HRUN := Lib.hid hrun
      rw [← hmm] at hush
      have hlti : ((i + m : Nat) : Int) < (n : Int) := by omega
      have hlti2 : (i : Int) + (m : Int) < (n : Int) := by omega
      have htn : ((i : Int) + (m : Int)).toNat = i + m := by omega
      have hb1 : (0 : Int) ≤ (i : Int) + (m : Int) := by omega
      have hcim : ¬ (cap = i + m) := by omega
      have hle : (i : Int) + (m : Int) ≤ (n : Int) := by omega
      have hle2 : i + m ≤ n := by omega
      clear hr hu hpre hlen hflat hrun hown hgr hCl hF hXl hfl hnl hmm hne hC1
      rw [hush] at HRUN ⊢
      clear hush
      go_enter Try.func75, Try.ntmps75
      go_wp2_with (at_builtin; refine Lib.wpList_append_run _ rfl _ _ 30 30 rfl (.slice (some ⟨g, 0, none⟩) i cap) (.slice A2 m cu) rfl rfl (.slice (some ⟨g, 0, none⟩) (i + m) cap) w1 HRUN.out ?_)
      go_ret
      exact HF.out
    · have HF := Lib.hid (show GivesRow w (.slice (some ⟨g, 0, none⟩) n cap) (L.take i ++ V) (.returned (.slice (some ⟨g, 0, none⟩) (i + m) cap)) w1 from ⟨_, rfl, by rw [hlen]; exact hown, hC1, fun b hb => .inl hb⟩)
      have HRUN := Lib.hid hrun
      rw [← hmm] at hush
      have hlti : ¬ (((i + m : Nat) : Int) < (n : Int)) := by omega
      have hlti2 : ¬ ((i : Int) + (m : Int) < (n : Int)) := by omega
      have hlti3 : ¬ (i + m < n) := by omega
      clear hr hu hpre hlen hflat hrun hown hgr hCl hXl hfl hnl hmm hne hC1
      rw [hush] at HRUN ⊢
      clear hush
      go_enter Try.func75, Try.ntmps75
      go_wp2_with (at_builtin; refine Lib.wpList_append_run _ rfl _ _ 30 30 rfl (.slice (some ⟨g, 0, none⟩) i cap) (.slice A2 m cu) rfl rfl (.slice (some ⟨g, 0, none⟩) (i + m) cap) w1 HRUN.out ?_)
      go_ret
      exact HF.out
  · obtain ⟨i0, hi0, hz0, hz1, hz2⟩ := info_parts infoRng
    obtain ⟨gu, cu2, Ru, hueq, hru, hmc⟩ := own_rowAt hu (by omega)
    obtain ⟨v', w1, hrun, ho, hgr, -, hob⟩ := run_append_own_at (P := Try.prog) w 0 30 30 33 i0 (.agg #[.int .i64 0, .int .i64 0]) 2 16 undR hi0 hz0 hz1 hz2 rfl (by decide) (.slice (some ⟨g, 0, none⟩) i cap) i (flat (L.take i)) hpre ⟨gu, 0, none⟩ V.length cu2 (flat V) (flat_len V) (fun j x hj => by rw [addr_add, Nat.zero_add]; exact hru.cell (by rw [List.getElem?_append_left (List.getElem?_eq_some_iff.1 hj).1]; exact hj)) (flat_one' V) (by unfold maxLen; omega) (by omega) (Nat.zero_le _)
    have HF := Lib.hid (show GivesRow w (.slice (some ⟨g, 0, none⟩) n cap) (L.take i ++ V) (.returned v') w1 from ⟨v', rfl, by rw [hlen, hflat, hmm]; exact ho, (Chg.refl _ w).grown hgr (fun k hk => .inr hk), fun b hb => by
      rcases hob with e | e <;> rw [e] at hb
      · exact .inl hb
      · injection hb with e2; exact .inr (by omega)⟩)
    rw [← hmm] at hrun hueq ho
    have HRUN := Lib.hid hrun
    obtain ⟨A3, c3, hv'⟩ := ownR_shape ho
    have hlti : ¬ (((i + m : Nat) : Int) < (n : Int)) := by omega
    have hlti2 : ¬ ((i : Int) + (m : Int) < (n : Int)) := by omega
    have hlti3 : ¬ (i + m < n) := by omega
    clear hr hu hru hpre hlen hflat hrun ho hgr hob hXl hfl hnl hmm hne hush
    rw [hueq]
    subst hv'
    clear hueq
    go_enter Try.func75, Try.ntmps75
    go_wp2_with (at_builtin; refine Lib.wpList_append_run _ rfl _ _ 30 30 rfl (.slice (some ⟨g, 0, none⟩) i cap) (.slice (some ⟨gu, 0, none⟩) m cu2) rfl rfl (.slice A3 (i + m) c3) w1 HRUN.out ?_)
    go_ret
    exact HF.out
end Go.Proofs.Ytlkbfacdaelbfaa
