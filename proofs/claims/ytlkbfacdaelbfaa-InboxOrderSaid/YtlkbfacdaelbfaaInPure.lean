/-
  Layer 19: bytes that arrive (plain: no program in sight).
-/
import Derived.Test.YtlkbfacdaelbfaaRaCnt
import Derived.Test.YtlkbfacdaelbfaaBy
import Derived.Test.YtlkbfacdaelbfaaRaU
namespace Go.Proofs.Ytlkbfacdaelbfaa
set_option linter.unusedVariables false
open Ae

/-- An inbox: room, how far it was read, the bytes from there on, which are there. -/
structure In where
  size : Nat
  done : Nat
  bs : List Nat
  L : List Ra.Row
namespace In
/-- The byte at a number. -/
def byte (x : In) (n : Int) : Nat := x.bs.getD (n - x.done).toNat 0
structure Ok (x : In) : Prop where
  good : Ra.Good x.L
  byt : Byt x.bs
  s1 : 1 ≤ x.size
  s2 : x.size ≤ 1048576
  low : ∀ n : Int, 0 ≤ n → n < x.done → Ra.mem x.L n
  top : ∀ n : Int, Ra.mem x.L n → n < x.done + x.bs.length
  len : x.bs.length ≤ x.size
theorem Ok.rows {x : In} (h : x.Ok) (hd : x.done ≤ 900000) : x.L.length ≤ 1000000 := by
  have := Ra.rows_half (a := 0) (N := (x.done + x.bs.length : Nat)) h.good (fun n hn => ⟨(h.good.mem_bounds hn).1, by have := h.top n hn; omega⟩) (by omega)
  have := h.s2
  have := h.len
  omega
/-- Some more are there: those of a part, as told by c. -/
structure Put (x x' : In) (lo hi : Int) (c : Int → Nat) : Prop where
  size : x'.size = x.size
  done : x'.done = x.done
  ok : x'.Ok
  has : ∀ n, Ra.mem x'.L n ↔ Ra.mem x.L n ∨ (lo ≤ n ∧ n < hi)
  old : ∀ n : Int, x.done ≤ n → Ra.mem x.L n → x'.byte n = x.byte n
  new : ∀ n : Int, x.done ≤ n → ¬ Ra.mem x.L n → lo ≤ n → n < hi → x'.byte n = c n
theorem Put.none {x : In} (h : x.Ok) {lo hi : Int} (c : Int → Nat) (h0 : hi ≤ lo) : x.Put x lo hi c :=
  ⟨rfl, rfl, h, fun n => ⟨.inl, fun h => h.elim id (fun h => by omega)⟩, fun _ _ _ => rfl, fun n _ _ h1 h2 => by omega⟩
/-- The bytes behind one more part. -/
def lay (bs : List Nat) (i j : Nat) (u : List Nat) : List Nat :=
  (bs ++ List.replicate (j - bs.length) 0).take i ++ u ++ (bs ++ List.replicate (j - bs.length) 0).drop j
theorem lay_len {bs : List Nat} {i j : Nat} {u : List Nat} (hij : i ≤ j) (hu : u.length = j - i) : (lay bs i j u).length = max bs.length j := by
  simp only [lay, List.length_append, List.length_take, List.length_drop, List.length_replicate, hu]
  omega
theorem lay_in {bs : List Nat} {i j : Nat} {u : List Nat} (hij : i ≤ j) (hu : u.length = j - i) {k : Nat} (h1 : i ≤ k) (h2 : k < j) : (lay bs i j u).getD k 0 = u.getD (k - i) 0 := by
  have hl : ((bs ++ List.replicate (j - bs.length) 0).take i).length = i := by simp only [List.length_take, List.length_append, List.length_replicate]; omega
  simp only [lay, List.getD_eq_getElem?_getD]
  rw [List.append_assoc, List.getElem?_append_right (by omega), hl, List.getElem?_append_left (by omega)]
theorem pad_get (bs : List Nat) (m k : Nat) : (bs ++ List.replicate m 0).getD k 0 = bs.getD k 0 := by
  simp only [List.getD_eq_getElem?_getD, List.getElem?_append]
  split
  · rfl
  · rename_i h
    rw [List.getElem?_eq_none (l := bs) (by omega), List.getElem?_replicate]
    split <;> rfl
theorem lay_out {bs : List Nat} {i j : Nat} {u : List Nat} (hij : i ≤ j) (hu : u.length = j - i) {k : Nat} (h : k < i ∨ j ≤ k) : (lay bs i j u).getD k 0 = bs.getD k 0 := by
  have hl : ((bs ++ List.replicate (j - bs.length) 0).take i).length = i := by simp only [List.length_take, List.length_append, List.length_replicate]; omega
  rw [← pad_get bs (j - bs.length) k]
  simp only [lay, List.getD_eq_getElem?_getD]
  rcases h with h | h
  · rw [List.append_assoc, List.getElem?_append_left (by omega), List.getElem?_take, if_pos h]
  · rw [List.getElem?_append_right (by rw [List.length_append, hl, hu]; omega), List.getElem?_drop, List.length_append, hl, hu]
    congr 2
    omega
theorem lay_byt {bs : List Nat} {i j : Nat} {u : List Nat} (hb : Byt bs) (hu : Byt u) : Byt (lay bs i j u) := by
  have := hb.append (Byt.replicate (j - bs.length) (by decide : 0 < 256))
  exact ((this.take i).append hu).append (this.drop j)
/-- One gap more is laid. -/
theorem Put.step {x y : In} {lo f hi : Int} {c : Int → Nat} (h : x.Put y lo f c) (hlo : (x.done : Int) ≤ lo) (hf : lo ≤ f) (hhi : hi ≤ x.done + x.size) {g : Ra.Row} (hg : GapIs y.L f hi g true) {L' : List Ra.Row} (hG : Ra.Good L') (hm : ∀ n, Ra.mem L' n ↔ Ra.mem y.L n ∨ (max g.1 0 ≤ n ∧ n < min g.2 Ra.M)) {u : List Nat} (hb : Byt u) (hu : u.length = (g.2 - g.1).toNat) (hc : ∀ k : Nat, k < u.length → u.getD k 0 = c (g.1 + k)) :
    x.Put ⟨y.size, y.done, lay y.bs (g.1 - x.done).toNat (g.2 - x.done).toNat u, L'⟩ lo g.2 c := by
  obtain ⟨⟨g1, g2, g3⟩, g4, g5, g6⟩ := hg.yes rfl
  have hd := h.done
  have hs := h.size
  have hij : (g.1 - x.done).toNat ≤ (g.2 - x.done).toNat := by omega
  have huu : u.length = (g.2 - x.done).toNat - (g.1 - x.done).toNat := by omega
  have hM : min g.2 Ra.M = g.2 := by omega
  have hmax : max g.1 0 = g.1 := by omega
  rw [hM, hmax] at hm
  have has : ∀ n, Ra.mem L' n ↔ Ra.mem x.L n ∨ (lo ≤ n ∧ n < g.2) := fun n => by
    rw [hm, h.has]
    constructor
    · rintro ((h1 | h1) | h1)
      · exact .inl h1
      · exact .inr (by omega)
      · exact .inr (by omega)
    · rintro (h1 | ⟨h1, h2⟩)
      · exact .inl (.inl h1)
      · by_cases h3 : n < f
        · exact .inl (.inr ⟨h1, h3⟩)
        · by_cases h4 : n < g.1
          · exact .inl ((h.has n).1 (g4 n (by omega) h4))
          · exact .inr (by omega)
  have hout : ∀ n : Int, x.done ≤ n → ¬ (g.1 ≤ n ∧ n < g.2) → (In.mk y.size y.done (lay y.bs (g.1 - x.done).toNat (g.2 - x.done).toNat u) L').byte n = y.byte n := fun n h1 h2 => by
    simp only [byte]
    exact lay_out hij huu (by omega)
  refine ⟨hs, hd, ⟨hG, lay_byt h.ok.byt hb, h.ok.s1, h.ok.s2, fun n h1 h2 => (hm n).2 (.inl (h.ok.low n h1 h2)), fun n hn => ?_, ?_⟩, has, fun n h1 h2 => ?_, fun n h1 h2 h3 h4 => ?_⟩
  · rw [lay_len hij huu]
    simp only
    rcases (hm n).1 hn with h1 | h1
    · have := h.ok.top n h1; omega
    · omega
  · rw [lay_len hij huu]
    have := h.ok.len
    simp only
    omega
  · rw [hout n h1 (fun h3 => g5 n h3.1 h3.2 ((h.has n).2 (.inl h2)))]
    exact h.old n h1 h2
  · by_cases hn : g.1 ≤ n ∧ n < g.2
    · simp only [byte]
      rw [hd, lay_in hij huu (k := (n - x.done).toNat) (by omega) (by omega), hc _ (by omega)]
      congr 1
      omega
    · rw [hout n h1 hn]
      by_cases h5 : n < f
      · exact h.new n h1 h2 h3 h5
      · exact absurd ((h.has n).1 (g4 n (by omega) (by omega))) (fun h6 => h6.elim h2 (fun h7 => h5 h7.2))
/-- The last: nothing is left. -/
theorem Put.last {x y : In} {lo f hi : Int} {c : Int → Nat} (h : x.Put y lo f c) (h0 : 0 ≤ lo) (hM : hi ≤ Ra.M) (hfh : lo ≤ f ∧ (f ≤ hi ∨ f = lo)) (ha : ∀ n, f ≤ n → n < hi → Ra.mem y.L n) : x.Put y lo hi c := by
  refine ⟨h.size, h.done, h.ok, fun n => ⟨fun hn => ?_, fun hn => ?_⟩, h.old, fun n h1 h2 h3 h4 => ?_⟩
  · rcases (h.has n).1 hn with h1 | h1
    · exact .inl h1
    · exact .inr (by omega)
  · rcases hn with h1 | h1
    · exact (h.has n).2 (.inl h1)
    · by_cases h2 : n < f
      · exact (h.has n).2 (.inr (by omega))
      · exact ha n (by omega) h1.2
  · by_cases h5 : n < f
    · exact h.new n h1 h2 h3 h5
    · rcases (h.has n).1 (ha n (by omega) h4) with h6 | h6
      · exact absurd h6 h2
      · omega
/-- What is read goes away. -/
def read (x : In) (n : Nat) : In := ⟨x.size, x.done + n, x.bs.drop n, x.L⟩
theorem Ok.here {x : In} (h : x.Ok) {y : Int} (hy : NextIs x.L x.done y) : x.done ≤ y ∧ y ≤ x.done + x.bs.length := by
  have h1 := hy.ge
  refine ⟨by omega, ?_⟩
  by_cases h2 : y = x.done
  · omega
  · have := h.top _ (hy.all (y - 1) (by omega) (by omega))
    omega
theorem Ok.read {x : In} (h : x.Ok) {y : Int} (hy : NextIs x.L x.done y) {n : Nat} (hn : (n : Int) ≤ y - x.done) : (x.read n).Ok := by
  obtain ⟨h1, h2⟩ := h.here hy
  refine ⟨h.good, h.byt.drop n, h.s1, h.s2, fun m q1 q2 => ?_, fun m hm => ?_, ?_⟩
  · by_cases q3 : m < x.done
    · exact h.low m q1 q3
    · simp only [In.read] at q2
      exact hy.all m (by omega) (by omega)
  · have := h.top m hm
    simp only [In.read, List.length_drop]
    omega
  · have := h.len
    simp only [In.read, List.length_drop]
    omega
theorem read_byte (x : In) (n : Nat) {m : Int} (hm : x.done + n ≤ m) : (x.read n).byte m = x.byte m := by
  simp only [byte, read, List.getD_eq_getElem?_getD, List.getElem?_drop]
  congr 2
  omega
/-- How many are there. -/
theorem Ok.total {x : In} (h : x.Ok) : Ra.total x.L = x.done + (Ra.cnt (Ra.hs x.L) x.done x.size : Nat) := by
  rw [Ra.total_cnt (N := x.done + x.size) h.good (fun n hn => by have := h.top n hn; have := h.len; omega), Ra.cnt_split, Ra.cnt_all (a := 0) (k := x.done) (fun i _ h2 => (Ra.hs_iff _ _).2 (h.low i (by omega) (by omega)))]
  rw [Nat.zero_add]
  omega
theorem Ok.held_le {x : In} (h : x.Ok) : 0 ≤ Ra.total x.L - x.done ∧ Ra.total x.L - x.done ≤ x.size := by
  rw [h.total]
  have := Ra.cnt_le (Ra.hs x.L) x.done x.size
  omega
/-- What is put is no more than what was handed in. -/
theorem Put.count {x x' : In} {lo hi : Int} {c : Int → Nat} (h : x.Put x' lo hi c) (hx : x.Ok) (h0 : (x.done : Int) ≤ lo) : 0 ≤ Ra.total x'.L - Ra.total x.L ∧ (Ra.total x'.L - Ra.total x.L ≤ hi - lo ∨ Ra.total x'.L = Ra.total x.L) := by
  have e1 := hx.total
  have e2 := h.ok.total
  rw [h.done, h.size] at e2
  have mono := Ra.cnt_mono (p := Ra.hs x.L) (q := Ra.hs x'.L) (a := x.done) (k := x.size) fun i _ _ hp => (Ra.hs_iff _ _).2 ((h.has _).2 (.inl ((Ra.hs_iff _ _).1 hp)))
  refine ⟨by omega, ?_⟩
  by_cases hlh : lo < hi
  · left
    by_cases hh : hi ≤ x.done + x.size
    · have e3 := Ra.cnt_mono (p := Ra.hs x'.L) (q := fun i => Ra.hs x.L i || (decide (lo.toNat ≤ i) && decide (i < hi.toNat))) (a := x.done) (k := x.size) fun i h1 h2 hp => by
        rcases (h.has _).1 ((Ra.hs_iff _ _).1 hp) with h3 | h3
        · simp only [(Ra.hs_iff _ _).2 h3, Bool.true_or]
        · simp only [Bool.or_eq_true, Bool.and_eq_true, decide_eq_true_eq]; right; omega
      have e4 := fun k => Ra.cnt_or_le (Ra.hs x.L) (fun i => decide (lo.toNat ≤ i) && decide (i < hi.toNat)) x.done k
      have e5 := Ra.cnt_row (x := lo.toNat) (y := hi.toNat) (x.done + x.size) (by omega) (by omega)
      rw [Ra.cnt_split, Nat.zero_add] at e5
      have := e4 x.size
      omega
    · have hz := (h.has (hi - 1)).2 (.inr ⟨by omega, by omega⟩)
      have := h.ok.top _ hz
      have := h.ok.len
      rw [h.done] at *
      rw [h.size] at *
      omega
  · right
    have : Ra.cnt (Ra.hs x'.L) x.done x.size = Ra.cnt (Ra.hs x.L) x.done x.size := Ra.cnt_congr fun i _ _ => by
      have := h.has (i : Int)
      rw [Bool.eq_iff_iff, Ra.hs_iff, Ra.hs_iff, this]
      exact ⟨fun h => h.elim id (fun h => by omega), .inl⟩
    omega
end In
end Go.Proofs.Ytlkbfacdaelbfaa
