/-
  Bytes: rows of them as values, read and owned; slices.Clone, append.
-/
import Derived.Test.YtlkbfacdaelbfaaRaQ
import Derived.Lib.AppendZerosOnto
import Derived.Deep.OwnRows
import Derived.Deep.WholeRow
namespace Go.Proofs.Ytlkbfacdaelbfaa
open Go.RowKit
set_option linter.unusedVariables false
namespace Ae
def Byt (l : List Nat) : Prop := ∀ b ∈ l, b < 256
theorem Byt.append {l m : List Nat} (h : Byt l) (k : Byt m) : Byt (l ++ m) := fun b hb => (List.mem_append.1 hb).elim (h b) (k b)
theorem Byt.take {l : List Nat} (h : Byt l) (n : Nat) : Byt (l.take n) := fun b hb => h b (List.mem_of_mem_take hb)
theorem Byt.drop {l : List Nat} (h : Byt l) (n : Nat) : Byt (l.drop n) := fun b hb => h b (List.mem_of_mem_drop hb)
theorem Byt.get {l : List Nat} (h : Byt l) {i b : Nat} (hi : l[i]? = some b) : b < 256 := h b (List.mem_of_getElem? hi)
theorem Byt.replicate (n : Nat) {b : Nat} (h : b < 256) : Byt (List.replicate n b) := fun c hc => by rw [List.eq_of_mem_replicate hc]; exact h
end Ae
open Ae
def bl (l : List Nat) : List Value := l.map fun (n : Nat) => Value.int .u8 (n : Int)
def bs (l : List Nat) : Array Value := (bl l).toArray
theorem bl_len (l : List Nat) : (bl l).length = l.length := by simp [bl]
theorem bs_size (l : List Nat) : (bs l).size = l.length := by simp [bs, bl]
theorem bs_get {l : List Nat} {i b : Nat} (h : l[i]? = some b) : (bs l)[i]? = some (.int .u8 (b : Int)) := by simp [bs, bl, h]
theorem bs_set (l : List Nat) (i b : Nat) : (bs l).setIfInBounds i (.int .u8 (b : Int)) = bs (l.set i b) := by simp [bs, bl, List.map_set]
theorem bs_one (l : List Nat) : (bs l).all (·.oneCell') = true := by rw [Array.all_eq_true_iff_forall_mem]; intro v hv; simp [bs, bl] at hv; obtain ⟨b, _, rfl⟩ := hv; rfl
theorem bl_one (l : List Nat) : ∀ v ∈ bl l, v.oneCell' = true := by intro v hv; simp [bl] at hv; obtain ⟨b, _, rfl⟩ := hv; rfl
theorem size8 : (Try.prog.info? 5).map (·.size) = some 1 := by kernel_rfl
theorem bl_append (l m : List Nat) : bl (l ++ m) = bl l ++ bl m := by simp [bl]
theorem bl_drop (l : List Nat) (n : Nat) : (bl l).drop n = bl (l.drop n) := by simp [bl]
theorem bl_take (l : List Nat) (n : Nat) : (bl l).take n = bl (l.take n) := by simp [bl]
theorem bl_get {l : List Nat} {i b : Nat} (h : l[i]? = some b) : (bl l)[i]? = some (.int .u8 (b : Int)) := by simp [bl, h]
/-- A slice of bytes that is read. -/
def RdB (w : World) (v : Value) (l : List Nat) : Prop := Rd w v 1 l.length (bl l)
theorem RdB.same {w w' : World} {v : Value} {l : List Nat} (h : RdB w v l) (hc : Chg Nowhere w w') : RdB w' v l := Rd.same h hc
theorem infoB8 : (Try.prog.info? 5).map (fun i => (i.zero, i.size, i.bytes)) = some (some (.int .u8 0), 1, 1) := by kernel_rfl
theorem made_bs (n : Nat) : madeCells #[.int .u8 0] n = bs (List.replicate n 0) := by
  apply Array.ext'
  rw [toList_madeCells_one]
  simp [bs, bl]
theorem make_b (n : Nat) (hn : n ≤ 281474976710656) (w : World) :
    (Instr.makeSlice 47 (.int .i64 (n : Int)) (.int .i64 (n : Int))).run Try.prog w = .ok (.slice (some ⟨w.heap.size, 0, none⟩) n n) (w.alloc (.cells (bs (List.replicate n 0)) 5)) := by
  rw [run_make_row' 47 5 (.int .u8 0) 1 Try.underlying47 infoB8 rfl .i64 .i64 n (by omega) (by omega) w, made_bs]
theorem infoB_parts : ∃ i, Try.prog.info? 5 = some i ∧ i.zero = some (.int .u8 0) ∧ i.size = 1 ∧ i.bytes = 1 := by
  obtain ⟨i, hi, h⟩ := Option.map_eq_some_iff.1 infoB8
  simp only [Prod.mk.injEq] at h
  exact ⟨i, hi, h⟩
/-- A row of bytes that is its caller's own, made after the world w. -/
def OwnB (w w' : World) (v : Value) (l : List Nat) : Prop := w'.ownsRow 0 5 1 v l.length (bl l) ∧ (∀ i, v.ownBlock = some i → w.heap.size ≤ i)
def GivesO (w : World) (l : List Nat) : Ending → World → Prop := fun e w' => ∃ v, e = .returned v ∧ OwnB w w' v l ∧ Chg Nowhere w w'
set_option maxHeartbeats 1600000 in
set_option maxRecDepth 100000 in
theorem cloneB_any (v : Value) (l : List Nat) (w : World) (h : RdB w v l) (hl : l.length ≤ 100000000) :
    Calls Try.prog 82 #[v] w (GivesO w l) := by
  obtain ⟨i0, hi, hz0, hz1, hz2⟩ := infoB_parts
  obtain ⟨-, A, cap, rfl, hcap, hA⟩ := h
  cases A with
  | none =>
    have h0 : l = [] := by
      cases l with
      | nil => rfl
      | cons r l => obtain ⟨g, o, e, _⟩ := hA (by simp); cases e
    subst h0
    clear hA
    have hnl := Lib.run_eql_slice_nil (P := Try.prog) w 47 5 .none 0 cap 0 0 Try.underlying47
    go_enter Try.func82, Try.ntmps82
    go_wp2_with fail
    go_ret
    exact ⟨_, rfl, ⟨World.ownsRow_nil _ _ _ _, fun i hi => by cases hi⟩, Chg.refl _ _⟩
  | some ad =>
    have hn : ∀ j u, (bl l)[j]? = some u → (w.alloc (.cells #[] 5)).cell? (ad.add j) = some u := by
      intro j u hj
      have hlt : j < (bl l).length := (List.getElem?_eq_some_iff.1 hj).1
      have hll := bl_len l
      obtain ⟨g, o, e, hg, hc⟩ := hA (by omega)
      cases e
      have : (⟨g, o, .none⟩ : Addr).add j = ⟨g, o + j, .none⟩ := by unfold Addr.add; split <;> simp_all
      rw [this]
      exact (((Chg.refl Nowhere w).alloc _).cell (p := ⟨g, o + j, .none⟩) hg (not_nowhere _)).trans ((hc j hlt).trans hj)
    have HN := Lib.hid hn
    have hO0 := Lib.hid (World.ownsRow_lit (base := 0) (e := 5) (size := 1) w #[] 0 (by omega) (by unfold maxLen; omega) rfl)
    clear hn hA
    have hnl := Lib.run_eql_slice_nil (P := Try.prog) w 47 5 (some ad) l.length cap 0 0 Try.underlying47
    go_enter Try.func82, Try.ntmps82
    go_wp2_with (at_builtin; refine wpList_append_own_at _ rfl _ _ 47 rfl 0 5 i0 (.int .u8 0) 1 1 Try.underlying47 hi hz0 hz1 hz2 rfl (by decide) (.slice (some ⟨w.heap.size, 0, .none⟩) 0 0) 0 [] rfl hO0.out ad l.length cap (bl l) rfl (by rw [bl_len, Nat.mul_one]) HN.out (bl_one l) (by unfold maxLen; omega) (by omega) (by omega) ?_; intro v' w3 hown' hgrow3 hnil3 hob; have HO' := Lib.hid hown'; have HB := Lib.hid hob; have HG := Lib.hid hgrow3; clear hown' hob hnil3 hgrow3)
    go_ret
    have A1 : (w.alloc (.cells #[] 5)).heap.size = w.heap.size + 1 := by simp
    have ho := HO'.out
    rw [Nat.zero_add, List.nil_append] at ho
    have hge : ∀ i, v'.ownBlock = some i → w.heap.size ≤ i := fun i hi => by
      rcases HB.out with e | e <;> rw [e] at hi
      · simp [Value.ownBlock] at hi; omega
      · rw [A1] at hi; injection hi; omega
    exact ⟨v', rfl, ⟨ho, hge⟩, ((Chg.refl _ w).alloc _).grown HG.out (fun k hk => .inl (by simp [Value.ownBlock] at hk; omega))⟩
theorem zero_cells (k : Nat) : Builtin.zeroCells (Value.int .u8 0).cells k = (bl (List.replicate k 0)).toArray := by
  apply Array.ext'
  apply List.ext_getElem
  · simp [Builtin.zeroCells, Value.cells, bl]
  · intro n h1 h2
    simp [Builtin.zeroCells, Value.cells, bl, Nat.mod_one]
theorem infoI : Try.prog.underlying 3 = some (.int .i64) := Try.underlying3
set_option maxHeartbeats 800000 in
theorem append_zeros (w : World) (ty : TypeId) (v : Value) (n : Nat) (xs : List Value) (hown : w.ownsRow 0 5 1 v n xs) (k : Nat) (hk : k ≤ 100000000) (hn : n ≤ 200000000) :
    ∃ v' w', (Builtin.append_ #[47, 3] ty #[v, .int .i64 (k : Int)]).run Try.prog w = .ok v' w' ∧ w'.ownsRow 0 5 1 v' (n + k) (xs ++ bl (List.replicate k 0)) ∧ w.grownBy w' v.ownBlock ∧ (v'.ownBlock = v.ownBlock ∨ v'.ownBlock = some w.heap.size) := by
  obtain ⟨i, hi, hz, hsize, hby⟩ := infoB_parts
  have ht := Try.underlying47
  have htn := infoI
  obtain ⟨news, hnews⟩ : ∃ news, news = bl (List.replicate k 0) := ⟨_, rfl⟩
  have hl : news.length = k := by rw [hnews, bl_len, List.length_replicate]
  have h1 : ∀ u ∈ news, u.oneCell' = true := by rw [hnews]; exact bl_one _
  have hlx : xs.length = n := by rw [hown.1, Nat.mul_one]
  have hlen : (xs ++ news).length = (n + k) * 1 := by rw [List.length_append, hlx, hl, Nat.mul_one]
  have hzc : Builtin.zeroCells (Value.int .u8 0).cells k = news.toArray := by rw [hnews]; exact zero_cells k
  rw [← hnews]
  clear hnews
  by_cases hk0 : k = 0
  · subst hk0
    obtain rfl : news = [] := List.eq_nil_of_length_eq_zero hl
    have hw0 : IntKind.i64.wrap (0 : Int) = 0 := by rw [IntKind.wrap_i64]; rfl
    refine ⟨v, w, ?_, by simpa using hown, ⟨rfl, rfl, rfl, Nat.le_refl _, fun _ _ _ => rfl⟩, .inl rfl⟩
    rcases hown.2 with ⟨rfl, rfl⟩ | ⟨g, cap, cur, rfl, hbg, hg, hnc, hcm, hcs, htake⟩
    · simp [Builtin.append_, run_underlying ht, run_underlying htn, sizeOf, typeInfo, hi, asInt, asIntOf, hw0]
    · simp [Builtin.append_, run_underlying ht, run_underlying htn, sizeOf, typeInfo, hi, asInt, asIntOf, hw0, hnc, storeCells]
  · have grown : ∀ (old : Nat), old < n + k → ∀ (row : Option Nat),
        (w.drew.alloc (.cells (xs.toArray ++ news.toArray ++ Builtin.zeroCells (Value.int .u8 0).cells (grownCap w (n + k) old 5 - (n + k))) 5)).ownsRow 0 5 1
          (.slice (some ⟨w.heap.size, 0, none⟩) (n + k) (grownCap w (n + k) old 5)) (n + k) (xs ++ news) ∧
        w.grownBy (w.drew.alloc (.cells (xs.toArray ++ news.toArray ++ Builtin.zeroCells (Value.int .u8 0).cells (grownCap w (n + k) old 5 - (n + k))) 5)) row := by
      intro old ho row
      have hge := grownCap_ge w (n + k) old 5
      have hcm : grownCap w (n + k) old 5 ≤ maxLen := grownCap_le_maxLen w (n + k) old 5 (by unfold maxLen; omega)
      refine ⟨⟨hlen, .inr ⟨w.heap.size, _, _, rfl, Nat.zero_le _, heap_alloc_new w.drew _, hge, hcm, ?_, ?_⟩⟩, ⟨rfl, rfl, rfl, by simp, fun k hk _ => heap_alloc_old w.drew _ hk⟩⟩
      · rw [zero_cells]
        simp only [Array.size_append, List.size_toArray, hlx, hl, bl_len, List.length_replicate]
        omega
      · simp only [Array.toList_append, List.append_assoc]
        rw [← List.append_assoc, ← hlen]
        exact List.take_left
    rcases hown.2 with ⟨rfl, rfl⟩ | ⟨g, cap, cur, rfl, hbg, hg, hnc, hcm, hcs, htake⟩
    · obtain rfl : xs = [] := List.eq_nil_of_length_eq_zero hlx
      have hr := Lib.run_append_nil_zeros (P := Try.prog) w 47 3 ty 5 i (.int .u8 0) .i64 .i64 ht htn hi hz k (by omega) (by omega) (by omega) (by rw [hby]; omega)
      have hgr := grown 0 (by omega) (Value.ownBlock (.slice none 0 0))
      rw [hzc] at hr
      simp only [Nat.zero_add, List.nil_append, Array.empty_append] at hgr ⊢
      exact ⟨_, _, hr, hgr.1, hgr.2, .inr rfl⟩
    · by_cases hroom : n + k ≤ cap
      · have hw0 : IntKind.i64.wrap (k : Int) = k := by rw [IntKind.wrap_i64]; omega
        have hneg : ¬ ((k : Int) < 0) := by omega
        have hbig : ¬ (281474976710656 < (k : Int)) := by omega
        have hst := run_storeCells_at Try.prog g n 5 news 0 cur w hg (by rw [hl, hcs]; simp; omega) h1
        simp only [Nat.add_zero] at hst
        refine ⟨.slice (some ⟨g, 0, none⟩) (n + k) cap, w.setRow g (cur.toList.take n ++ news ++ cur.toList.drop (n + news.length)).toArray, ?_, ⟨hlen, .inr ⟨g, cap, _, rfl, hbg, setRow_heap w g cur _ _ _ hg, hroom, hcm, ?_, ?_⟩⟩, ⟨rfl, rfl, rfl, by simp, fun k _ hk => setRow_other w g k _ (fun e => hk (by simp [Value.ownBlock, e]))⟩, .inl rfl⟩
        · simp [Builtin.append_, run_underlying ht, run_underlying htn, sizeOf, typeInfo, zeroValue, hi, hz, hsize, hby, asInt, asIntOf, hw0, hneg, hbig, hk0, hroom, hzc, Addr.add_lit, hst]
        · simp only [List.size_toArray, List.length_append, List.length_take, List.length_drop, Array.length_toList]
          omega
        · rw [Nat.mul_one] at htake
          rw [htake, ← hlen]
          exact List.take_left
      · have holds : ∀ j u, xs[j]? = some u → w.drew.cell? ((⟨g, 0, none⟩ : Addr).add j) = some u := fun j u h => (hown.cells (g := g) rfl j u h)
        have hf := run_firstCells_some (P := Try.prog) w.drew i.size n ⟨g, 0, none⟩ n cap xs (by rw [hsize]; exact hown.1) holds
        have hr := Lib.run_append_grow_zeros (P := Try.prog) w 47 3 ty 5 i (.int .u8 0) .i64 .i64 ht htn hi hz (some ⟨g, 0, none⟩) n cap xs hf k (by omega) (by omega) (by omega) (by omega) (by rw [hby]; omega) (growslice_fits (by omega) (by rw [hby]; omega))
        rw [hzc] at hr
        have hgr := grown cap (by omega) (Value.ownBlock (.slice (some ⟨g, 0, none⟩) n cap))
        exact ⟨_, _, hr, hgr.1, hgr.2, .inr rfl⟩
theorem append_none (w : World) (ty : TypeId) (v : Value) (n c : Nat) (xs : List Value) (hown : w.ownsRow 0 5 1 v n xs) :
    (Builtin.append_ #[47, 47] ty #[v, .slice none 0 c]).run Try.prog w = .ok v w := by
  obtain ⟨i, hi, hz, hsize, hby⟩ := infoB_parts
  have ht := Try.underlying47
  rcases hown.2 with ⟨rfl, rfl⟩ | ⟨g, cap, cur, rfl, _, _, hnc, _⟩
  · simp [Builtin.append_, run_underlying ht, sizeOf, typeInfo, hi, Builtin.lenOf, Builtin.firstCells]
  · simp [Builtin.append_, run_underlying ht, sizeOf, typeInfo, hi, Builtin.lenOf, Builtin.firstCells, hnc, storeCells]
/-- A slice of bytes that is read, appended to a row of bytes of one's own. -/
theorem append_rd (w : World) (ty : TypeId) (v x : Value) (n : Nat) (xs : List Value) (l : List Nat) (hown : w.ownsRow 0 5 1 v n xs) (hx : RdB w x l) (hn : n + l.length ≤ 400000000) :
    ∃ v' w', (Builtin.append_ #[47, 47] ty #[v, x]).run Try.prog w = .ok v' w' ∧ w'.ownsRow 0 5 1 v' (n + l.length) (xs ++ bl l) ∧ w.grownBy w' v.ownBlock ∧ (v'.ownBlock = v.ownBlock ∨ v'.ownBlock = some w.heap.size) := by
  obtain ⟨i, hi, hz, hsize, hby⟩ := infoB_parts
  obtain ⟨-, A, c, rfl, hc, hA⟩ := hx
  cases A with
  | none =>
    have h0 : l = [] := by
      cases l with
      | nil => rfl
      | cons r l => obtain ⟨g, o, e, _⟩ := hA (by simp); cases e
    subst h0
    exact ⟨v, w, append_none w ty v n c xs hown, by simpa [bl] using hown, World.grownBy.refl _ _, .inl rfl⟩
  | some ad =>
    have hnews : ∀ j u, (bl l)[j]? = some u → w.cell? (ad.add j) = some u := fun j u hj => by
      have hlt : j < (bl l).length := (List.getElem?_eq_some_iff.1 hj).1
      have hll := bl_len l
      obtain ⟨g, o, e, hg, hcell⟩ := hA (by omega)
      cases e
      have e2 : (⟨g, o, .none⟩ : Addr).add j = ⟨g, o + j, .none⟩ := by unfold Addr.add; split <;> simp_all
      rw [e2]
      exact (hcell j hlt).trans hj
    obtain ⟨v', w', h1, h2, h3, -, h4⟩ := run_append_own_at (P := Try.prog) w 0 47 ty 5 i (.int .u8 0) 1 1 Try.underlying47 hi hz hsize hby rfl (by decide) v n xs hown ad l.length c (bl l) (by rw [bl_len, Nat.mul_one]) hnews (bl_one l) (by unfold maxLen; omega) (by omega) (Nat.zero_le _)
    exact ⟨v', w', h1, h2, h3, h4⟩
/-- A row of one's own can be read. -/
theorem rd_own {w : World} {v : Value} {l : List Nat} (h : w.ownsRow 0 5 1 v l.length (bl l)) : RdB w v l := by
  refine ⟨h.1, ?_⟩
  rcases h.2 with ⟨rfl, h0⟩ | ⟨g, cap, cur, rfl, _, hg, hnc, _, hcs, htake⟩
  · exact ⟨none, 0, by rw [h0], by omega, fun hp => by omega⟩
  · refine ⟨_, cap, rfl, hnc, fun _ => ⟨g, 0, rfl, (Array.getElem?_eq_some_iff.1 hg).1, fun j hj => ?_⟩⟩
    rw [Nat.zero_add, cell_of_row w g j cur _ _ hg, ← htake, List.getElem?_take, if_pos (by rw [bl_len] at hj; omega)]
    simp
end Go.Proofs.Ytlkbfacdaelbfaa
