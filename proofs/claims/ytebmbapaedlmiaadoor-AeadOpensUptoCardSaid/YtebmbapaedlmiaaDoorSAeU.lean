/-
  append of noughts to a row of bytes that is one's own; package aead: pad (the walk).
-/
import Derived.Test.YtebmbapaedlmiaaDoorSAeT
import Derived.Lib.AppendZerosOnto
namespace Go.Proofs.YtebmbapaedlmiaaDoor
open Go.RowKit Ae
set_option linter.unusedVariables false

theorem zero_cells (k : Nat) : Builtin.zeroCells (Value.int .u8 0).cells k = (bl (List.replicate k 0)).toArray := by
  apply Array.ext'
  apply List.ext_getElem
  · simp [Builtin.zeroCells, Value.cells, bl]
  · intro n h1 h2
    simp [Builtin.zeroCells, Value.cells, bl, Nat.mod_one]
theorem infoI : Tryd.prog.underlying 3 = some (.int .i64) := Tryd.underlying3
set_option maxHeartbeats 800000 in
theorem append_zeros (w : World) (ty : TypeId) (v : Value) (n : Nat) (xs : List Value) (hown : w.ownsRow 0 5 1 v n xs) (k : Nat) (hk : k ≤ 16) (hn : n ≤ 200000000) :
    ∃ v' w', (Builtin.append_ #[26, 3] ty #[v, .int .i64 (k : Int)]).run Tryd.prog w = .ok v' w' ∧ w'.ownsRow 0 5 1 v' (n + k) (xs ++ bl (List.replicate k 0)) ∧ w.grownBy w' v.ownBlock ∧ (v'.ownBlock = v.ownBlock ∨ v'.ownBlock = some w.heap.size) := by
  obtain ⟨i, hi, hz, hsize, hby⟩ := infoB_parts
  have ht := Tryd.underlying26
  have htn := infoI
  obtain ⟨news, hnews⟩ : ∃ news, news = bl (List.replicate k 0) := ⟨_, rfl⟩
  have hl : news.length = k := by rw [hnews, bl_len, List.length_replicate]
  have h1 : ∀ u ∈ news, u.oneCell' = true := by rw [hnews]; exact bl_one _
  have hlx : xs.length = n := by rw [hown.1, Nat.mul_one]
  have hlen : (xs ++ news).length = (n + k) * 1 := by rw [List.length_append, hlx, hl, Nat.mul_one]
  have hzc : Builtin.zeroCells (Value.int .u8 0).cells k = news.toArray := by rw [hnews]; exact zero_cells k
  rw [← hnews]
  clear hnews
  by_cases hk0 : k = 0
  · subst hk0
    obtain rfl : news = [] := List.eq_nil_of_length_eq_zero hl
    have hw0 : IntKind.i64.wrap (0 : Int) = 0 := by rw [IntKind.wrap_i64]; rfl
    refine ⟨v, w, ?_, by simpa using hown, ⟨rfl, rfl, rfl, Nat.le_refl _, fun _ _ _ => rfl⟩, .inl rfl⟩
    rcases hown.2 with ⟨rfl, rfl⟩ | ⟨g, cap, cur, rfl, hbg, hg, hnc, hcm, hcs, htake⟩
    · simp [Builtin.append_, run_underlying ht, run_underlying htn, sizeOf, typeInfo, hi, asInt, asIntOf, hw0]
    · simp [Builtin.append_, run_underlying ht, run_underlying htn, sizeOf, typeInfo, hi, asInt, asIntOf, hw0, hnc, storeCells]
  · have grown : ∀ (old : Nat), old < n + k → ∀ (row : Option Nat),
        (w.drew.alloc (.cells (xs.toArray ++ news.toArray ++ Builtin.zeroCells (Value.int .u8 0).cells (grownCap w (n + k) old 5 - (n + k))) 5)).ownsRow 0 5 1
          (.slice (some ⟨w.heap.size, 0, none⟩) (n + k) (grownCap w (n + k) old 5)) (n + k) (xs ++ news) ∧
        w.grownBy (w.drew.alloc (.cells (xs.toArray ++ news.toArray ++ Builtin.zeroCells (Value.int .u8 0).cells (grownCap w (n + k) old 5 - (n + k))) 5)) row := by
      intro old ho row
      have hge := grownCap_ge w (n + k) old 5
      have hcm : grownCap w (n + k) old 5 ≤ maxLen := grownCap_le_maxLen w (n + k) old 5 (by unfold maxLen; omega)
      refine ⟨⟨hlen, .inr ⟨w.heap.size, _, _, rfl, Nat.zero_le _, heap_alloc_new w.drew _, hge, hcm, ?_, ?_⟩⟩, ⟨rfl, rfl, rfl, by simp, fun k hk _ => heap_alloc_old w.drew _ hk⟩⟩
      · rw [zero_cells]
        simp only [Array.size_append, List.size_toArray, hlx, hl, bl_len, List.length_replicate]
        omega
      · simp only [Array.toList_append, List.append_assoc]
        rw [← List.append_assoc, ← hlen]
        exact List.take_left
    rcases hown.2 with ⟨rfl, rfl⟩ | ⟨g, cap, cur, rfl, hbg, hg, hnc, hcm, hcs, htake⟩
    · obtain rfl : xs = [] := List.eq_nil_of_length_eq_zero hlx
      have hr := Lib.run_append_nil_zeros (P := Tryd.prog) w 26 3 ty 5 i (.int .u8 0) .i64 .i64 ht htn hi hz k (by omega) (by omega) (by omega) (by rw [hby]; omega)
      have hgr := grown 0 (by omega) (Value.ownBlock (.slice none 0 0))
      rw [hzc] at hr
      simp only [Nat.zero_add, List.nil_append, Array.empty_append] at hgr ⊢
      exact ⟨_, _, hr, hgr.1, hgr.2, .inr rfl⟩
    · by_cases hroom : n + k ≤ cap
      · have hw0 : IntKind.i64.wrap (k : Int) = k := by rw [IntKind.wrap_i64]; omega
        have hneg : ¬ ((k : Int) < 0) := by omega
        have hbig : ¬ (281474976710656 < (k : Int)) := by omega
        have hst := run_storeCells_at Tryd.prog g n 5 news 0 cur w hg (by rw [hl, hcs]; simp; omega) h1
        simp only [Nat.add_zero] at hst
        refine ⟨.slice (some ⟨g, 0, none⟩) (n + k) cap, w.setRow g (cur.toList.take n ++ news ++ cur.toList.drop (n + news.length)).toArray, ?_, ⟨hlen, .inr ⟨g, cap, _, rfl, hbg, setRow_heap w g cur _ _ _ hg, hroom, hcm, ?_, ?_⟩⟩, ⟨rfl, rfl, rfl, by simp, fun k _ hk => setRow_other w g k _ (fun e => hk (by simp [Value.ownBlock, e]))⟩, .inl rfl⟩
        · simp [Builtin.append_, run_underlying ht, run_underlying htn, sizeOf, typeInfo, zeroValue, hi, hz, hsize, hby, asInt, asIntOf, hw0, hneg, hbig, hk0, hroom, hzc, Addr.add_lit, hst]
        · simp only [List.size_toArray, List.length_append, List.length_take, List.length_drop, Array.length_toList]
          omega
        · rw [Nat.mul_one] at htake
          rw [htake, ← hlen]
          exact List.take_left
      · have holds : ∀ j u, xs[j]? = some u → w.drew.cell? ((⟨g, 0, none⟩ : Addr).add j) = some u := fun j u h => (hown.cells (g := g) rfl j u h)
        have hf := run_firstCells_some (P := Tryd.prog) w.drew i.size n ⟨g, 0, none⟩ n cap xs (by rw [hsize]; exact hown.1) holds
        have hr := Lib.run_append_grow_zeros (P := Tryd.prog) w 26 3 ty 5 i (.int .u8 0) .i64 .i64 ht htn hi hz (some ⟨g, 0, none⟩) n cap xs hf k (by omega) (by omega) (by omega) (by omega) (by rw [hby]; omega) (growslice_fits (by omega) (by rw [hby]; omega))
        rw [hzc] at hr
        have hgr := grown cap (by omega) (Value.ownBlock (.slice (some ⟨g, 0, none⟩) n cap))
        exact ⟨_, _, hr, hgr.1, hgr.2, .inr rfl⟩
end Go.Proofs.YtebmbapaedlmiaaDoor
