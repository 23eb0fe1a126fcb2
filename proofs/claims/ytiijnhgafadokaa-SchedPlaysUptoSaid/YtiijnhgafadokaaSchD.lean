/-
  The scheduler (layer 21): part, over a closure that is known by its contract.
-/
import Derived.Test.YtiijnhgafadokaaSchC
namespace Go.Proofs.Ytiijnhgafadokaa
open Go.RowKit
set_option linter.unusedVariables false

def recV (r : Rec) : Value := .agg #[.int .i64 r.c, .int .i64 r.t, r.cv]
def CloTo {σ : Type} (J : σ → World → Prop) (κ : Nat → Prop) (p : Rec → Bool) (step : σ → Rec → σ) (s : σ) (r : Rec) (w : World) (e : Ending) (w' : World) : Prop :=
  e = .returned (.bool (p r)) ∧ J (step s r) w' ∧ Chg κ w w'
/-- A closure that tells p and goes from state to state; it changes the blocks of κ alone. -/
structure Clo {σ : Type} (J : σ → World → Prop) (κ G : Nat → Prop) (B0 : Nat) (fid : Nat) (caps : Array Value) (p : Rec → Bool) (step : σ → Rec → σ) : Prop where
  enter : ∀ (args : Array Value) (w : World), (callFunc fid args).run Try.prog w = .ok (.enter fid args) w
  call : ∀ s w r, RecOk w r → J s w → B0 ≤ w.heap.size → Calls Try.prog fid (#[recV r] ++ caps) w (CloTo J κ p step s r w)
  stay : ∀ s w w', J s w → Chg (fun i => B0 ≤ i ∨ G i) w w' → J s w'
  low : ∀ i, κ i → i < B0
/-- The rows of a part: those that are so, and the others. -/
structure PartIn {σ : Type} (J : σ → World → Prop) (κ : Nat → Prop) (w : World) (p : Rec → Bool) (step : σ → Rec → σ) (s0 : σ) (l : List Rec) (vo vl : Value) (wr : World) : Prop where
  out : wr.ownsRow w.heap.size 104 3 vo (l.filter p).length (rcl (l.filter p))
  left : wr.ownsRow w.heap.size 104 3 vl (l.filter fun r => !p r).length (rcl (l.filter fun r => !p r))
  ne : ∀ i, vo.ownBlock = some i → vl.ownBlock ≠ some i
  st : J (l.foldl step s0) wr
  chg : Chg κ w wr
theorem rcl_len (l : List Rec) : (rcl l).length = l.length * 3 := by
  induction l with
  | nil => rfl
  | cons r l ih => rw [rcl, List.flatMap_cons, List.length_append, ← rcl, ih]; simp; omega
theorem rcl_get (l : List Rec) : ∀ (k : Nat) (r : Rec), l[k]? = some r → (rcl l)[k * 3]? = some (.int .i64 r.c) ∧ (rcl l)[k * 3 + 1]? = some (.int .i64 r.t) ∧ (rcl l)[k * 3 + 2]? = some r.cv := by
  induction l with
  | nil => intro k r h; simp at h
  | cons q l ih =>
    intro k r h
    have e : rcl (q :: l) = .int .i64 q.c :: .int .i64 q.t :: q.cv :: rcl l := rfl
    cases k with
    | zero => simp at h; subst h; rw [e]; exact ⟨rfl, rfl, rfl⟩
    | succ k =>
      obtain ⟨h1, h2, h3⟩ := ih k r (by simpa using h)
      rw [e]
      have a1 : (k + 1) * 3 = k * 3 + 3 := by omega
      rw [a1]
      exact ⟨h1, h2, h3⟩
theorem filter_snoc {p : Rec → Bool} {l : List Rec} {k : Nat} {r : Rec} (h : l[k]? = some r) : (l.take (k + 1)).filter p = (l.take k).filter p ++ if p r then [r] else [] := by
  rw [List.take_add_one, h, List.filter_append]
  cases hp : p r <;> simp [hp]
theorem foldl_snoc {σ : Type} {step : σ → Rec → σ} {s0 : σ} {l : List Rec} {k : Nat} {r : Rec} (h : l[k]? = some r) : (l.take (k + 1)).foldl step s0 = step ((l.take k).foldl step s0) r := by
  rw [List.take_add_one, h, List.foldl_append]; rfl
theorem rcl_one (r : Rec) : rcl [r] = [.int .i64 r.c, .int .i64 r.t, r.cv] := rfl
theorem new3 (w : World) (x y z : Value) (t : Nat) : ∀ j u, [x, y, z][j]? = some u → (w.alloc (.cells #[x, y, z] t)).cell? ((⟨w.heap.size, 0, .none⟩ : Addr).add j) = some u :=
  World.news_of_block (cs := #[x, y, z]) (t := t) (fr := (0, 0)) (heap_alloc_new w _)
/-- The record is so: the row of those grows. -/
theorem PartIn.yes {σ : Type} {J : σ → World → Prop} {κ : Nat → Prop} {w : World} {p : Rec → Bool} {step : σ → Rec → σ} {s0 : σ} {l : List Rec} {k : Nat} {r : Rec} {vo vl vo' : Value} {wr w3 w4 : World} {B0 fid : Nat} {caps : Array Value} {G : Nat → Prop}
    (h : PartIn J κ w p step s0 (l.take k) vo vl wr) (hB : B0 = w.heap.size) (hc : Clo J κ G B0 fid caps p step) (hκ : ∀ i, κ i → ∃ a, w.heap[i]? = some (.cells a 3 (0,0))) (hr : l[k]? = some r) (hp : p r = true) (hj : J (step ((l.take k).foldl step s0) r) w3) (hC : Chg κ wr w3) (o : Obj)
    (hown : w4.ownsRow w.heap.size 104 3 vo' (((l.take k).filter p).length + 1) (rcl ((l.take k).filter p) ++ rcl [r])) (hg : (w3.alloc o).grownBy w4 vo.ownBlock) (hb : vo'.ownBlock = vo.ownBlock ∨ vo'.ownBlock = some (w3.alloc o).heap.size) :
    PartIn J κ w p step s0 (l.take (k + 1)) vo' vl w4 := by
  subst hB
  have hsz := h.chg.size
  have hsz3 := hC.size
  have low := hc.low
  have hlo : ∀ i, vo.ownBlock = some i → w.heap.size ≤ i := fun i hi => (h.out.lt i hi).1
  have hll : ∀ i, vl.ownBlock = some i → i < w3.heap.size := fun i hi => by have := (h.left.lt i hi).2; omega
  have hC34 : Chg (fun i => vo.ownBlock = some i) w3 w4 := ((Chg.refl _ w3).alloc o).grown hg (fun i hi => .inr hi)
  refine ⟨?_, ?_, fun i hi => ?_, ?_, ?_⟩
  · rw [filter_snoc hr, hp, if_pos rfl, List.length_append, rcl_append]; exact hown
  · rw [filter_snoc hr, hp]
    simp only [Bool.not_true, Bool.false_eq_true, if_false, List.append_nil]
    exact own_chg (own_chg h.left hC (fun i hi e => by have := low i e; have := (h.left.lt i hi).1; omega)) hC34 (fun i hi e => h.ne i e hi)
  · rcases hb with e | e
    · rw [e] at hi; exact h.ne i hi
    · rw [e] at hi; injection hi with hi; intro hl2; have := hll i hl2; simp at hi; omega
  · rw [foldl_snoc hr]
    exact hc.stay _ _ _ hj (hC34.mono fun i _ hi => Or.inl (hlo i hi))
  · exact (h.chg.trans' hC).trans hC34 fun i hi e => by have := hlo i e; omega
/-- The record is not: the other row grows. -/
theorem PartIn.nay {σ : Type} {J : σ → World → Prop} {κ : Nat → Prop} {w : World} {p : Rec → Bool} {step : σ → Rec → σ} {s0 : σ} {l : List Rec} {k : Nat} {r : Rec} {vo vl vl' : Value} {wr w3 w4 : World} {B0 fid : Nat} {caps : Array Value} {G : Nat → Prop}
    (h : PartIn J κ w p step s0 (l.take k) vo vl wr) (hB : B0 = w.heap.size) (hc : Clo J κ G B0 fid caps p step) (hκ : ∀ i, κ i → ∃ a, w.heap[i]? = some (.cells a 3 (0,0))) (hr : l[k]? = some r) (hp : p r = false) (hj : J (step ((l.take k).foldl step s0) r) w3) (hC : Chg κ wr w3) (o : Obj)
    (hown : w4.ownsRow w.heap.size 104 3 vl' (((l.take k).filter fun r => !p r).length + 1) (rcl ((l.take k).filter fun r => !p r) ++ rcl [r])) (hg : (w3.alloc o).grownBy w4 vl.ownBlock) (hb : vl'.ownBlock = vl.ownBlock ∨ vl'.ownBlock = some (w3.alloc o).heap.size) :
    PartIn J κ w p step s0 (l.take (k + 1)) vo vl' w4 := by
  subst hB
  have hsz := h.chg.size
  have hsz3 := hC.size
  have low := hc.low
  have hlo : ∀ i, vl.ownBlock = some i → w.heap.size ≤ i := fun i hi => (h.left.lt i hi).1
  have hll : ∀ i, vo.ownBlock = some i → i < w3.heap.size := fun i hi => by have := (h.out.lt i hi).2; omega
  have hC34 : Chg (fun i => vl.ownBlock = some i) w3 w4 := ((Chg.refl _ w3).alloc o).grown hg (fun i hi => .inr hi)
  refine ⟨?_, ?_, fun i hi => ?_, ?_, ?_⟩
  · rw [filter_snoc hr, hp]
    simp only [Bool.false_eq_true, if_false, List.append_nil]
    exact own_chg (own_chg h.out hC (fun i hi e => by have := low i e; have := (h.out.lt i hi).1; omega)) hC34 (fun i hi e => h.ne i hi e)
  · rw [filter_snoc hr, hp]
    simp only [Bool.not_false, if_true]
    rw [List.length_append, rcl_append]; exact hown
  · rcases hb with e | e
    · rw [e]; exact h.ne i hi
    · rw [e]; intro hl2; injection hl2 with hl2; have := hll i hi; simp at hl2; omega
  · rw [foldl_snoc hr]
    exact hc.stay _ _ _ hj (hC34.mono fun i _ hi => Or.inl (hlo i hi))
  · exact (h.chg.trans' hC).trans hC34 fun i hi e => by have := hlo i e; omega

def PartTo {σ : Type} (J : σ → World → Prop) (κ : Nat → Prop) (w : World) (p : Rec → Bool) (step : σ → Rec → σ) (s0 : σ) (g : Nat) (f : Fl) (e : Ending) (w' : World) : Prop :=
  ∃ vo vl w1, e = .returned vo ∧ PartIn J κ w p step s0 f.l vo vl w1 ∧ w' = w1.setCell ⟨g, 2, .none⟩ vl
set_option maxHeartbeats 1600000 in
set_option maxRecDepth 100000 in
theorem part_any {σ : Type} (J : σ → World → Prop) (κ : Nat → Prop) (p : Rec → Bool) (step : σ → Rec → σ) (s0 : σ) (w : World) (g : Nat) (v : Value) (f : Fl) (hF : FlAt w g v f) (fid : Nat) (caps : Array Value)
    (G : Nat → Prop) (hc : Clo J κ G w.heap.size fid caps p step) (hκ : ∀ i, κ i → ∃ a, w.heap[i]? = some (.cells a 3 (0,0))) (hj : J s0 w) :
    Calls Try.prog 74 #[.pointer (some ⟨g, 0, .none⟩), .func (.func fid) #[] caps] w (PartTo J κ w p step s0 g f) := by
  obtain ⟨i0, hi, hz0, hz1, hz2⟩ := info_parts infoRec
  have hgl := lt_blk hF.blk
  have c2 : w.cell? ⟨g, 2, .none⟩ = some v := by rw [cell_blk hF.blk]; rfl
  obtain ⟨-, A, cp, rfl, -, hA⟩ := Rd.of_owns hF.row
  have HA := Lib.hid hA
  have HF := Lib.hid hF
  have hl := hF.len
  have HC := Lib.hid hc
  have HK := Lib.hid hκ
  have hen := hc.enter
  have HP0 := Lib.hid (show PartIn J κ w p step s0 (f.l.take 0) (.slice .none 0 0) (.slice .none 0 0) w from
    ⟨World.ownsRow_nil _ _ _ _, World.ownsRow_nil _ _ _ _, (fun i hi => by cases hi), hj, Chg.refl _ _⟩)
  clear hA hF hc hκ hj
  go_enter Try.func74, Try.ntmps74
  go_wp2_with fail
  go_loopw [5, 6, 14] (fun vo vl i wr => ∃ (k : Nat), k ≤ f.l.length ∧ i = .int .i64 k ∧ Hid (PartIn J κ w p step s0 (f.l.take k) vo vl wr)) (fun _ _ i _ => 100000 - (intOf i).toNat)
  case atStart => exact ⟨0, by omega, rfl, HP0⟩
  case round =>
    clear HP0
    obtain ⟨k, hk, rfl, HP⟩ := hrel
    have hsz := HP.out.chg.size
    by_cases hk2 : k < f.l.length
    · obtain ⟨r, hr⟩ : ∃ r, f.l[k]? = some r := ⟨_, List.getElem?_eq_getElem hk2⟩
      obtain ⟨gr, o, rfl, hgr, hcell⟩ := HA.out (by omega)
      have hno : ¬ κ gr := fun e => by
        obtain ⟨a, ha⟩ := HK.out gr e
        exact cells_other ha (by decide) (HF.out.rowMine rfl)
      have hlen := rcl_len f.l
      have hcc : ∀ j u, j < 3 → (rcl f.l)[k * 3 + j]? = some u → wr.cell? ⟨gr, o + (k * 3 + j), .none⟩ = some u := fun j u hj hu =>
        (HP.out.chg.cell (p := ⟨gr, o + (k * 3 + j), .none⟩) hgr hno).trans ((hcell (k * 3 + j) (by omega)).trans hu)
      obtain ⟨g0, g1, g2⟩ := rcl_get f.l k r hr
      have d0 : wr.cell? ⟨gr, o + k * 3, .none⟩ = some (.int .i64 r.c) := hcc 0 _ (by omega) g0
      have d1 : wr.cell? ⟨gr, o + k * 3 + 1, .none⟩ = some (.int .i64 r.t) := hcc 1 _ (by omega) g1
      have d2 : wr.cell? ⟨gr, o + k * 3 + 2, .none⟩ = some r.cv := hcc 2 _ (by omega) g2
      have hro := (HF.out.recs r (List.mem_of_getElem? hr)).row
      have HRO := Lib.hid ((HF.out.recs r (List.mem_of_getElem? hr)))
      have hrc : ∃ A n c, r.cv = .slice A n c := by obtain ⟨-, A', c', h', -⟩ := Rd.of_owns hro; exact ⟨_, _, _, h'⟩
      obtain ⟨A', n', c', hcv⟩ := hrc
      have HR := Lib.hid hr
      have HRV := Lib.hid (show recV r = .agg #[.int .i64 r.c, .int .i64 r.t, .slice A' n' c'] by rw [recV, hcv])
      have HR1 := Lib.hid (show rcl [r] = [.int .i64 r.c, .int .i64 r.t, .slice A' n' c'] by rw [rcl_one, hcv])
      rw [hcv] at d2
      clear hcell hcc g0 g1 g2 hro hcv hr
      have HW2 := Lib.hid (show RecOk (wr.alloc (.cells #[.int .i64 r.c, .int .i64 r.t, .slice A' n' c'] 104)) r from
        ⟨own_chg (own_chg HRO.out.row HP.out.chg (fun i hi e => by
          obtain ⟨a, ha⟩ := HK.out i e
          obtain ⟨cur, hh⟩ := own_blk HRO.out.row hi
          exact types_ne ha hh (by decide) rfl)) ((Chg.refl Nowhere _).alloc _) (fun _ _ => not_nowhere _), HRO.out.c0, HRO.out.t0, HRO.out.len⟩)
      have HJ2 := Lib.hid (HC.out.stay _ _ _ HP.out.st (((Chg.refl (fun i => w.heap.size ≤ i ∨ G i) wr).alloc (.cells #[.int .i64 r.c, .int .i64 r.t, .slice A' n' c'] 104))))
      have HLow := Lib.hid HC.out.low
      have hws : (wr.alloc (.cells #[.int .i64 r.c, .int .i64 r.t, .slice A' n' c'] 104)).heap.size = wr.heap.size + 1 := by simp
      have HWS := Lib.hid hws
      clear hws
      cases hp : p r with
      | true => as_aux_lemma =>
        have HPR := Lib.hid hp
        clear hp
        go_wp2_with fail
        rw [← HRV.out]
        refine (HC.out.call _ _ r HW2.out HJ2.out (by simp; omega)).mono ?_
        rintro e w3 ⟨rfl, hj3, hC3⟩
        rw [HPR.out]
        have hs3 := hC3.size
        rw [HWS.out] at hs3
        have hz : ¬ κ wr.heap.size := fun e => by have := HLow.out _ e; omega
        have e0 : w3.cell? ⟨wr.heap.size, 0, .none⟩ = some (.int .i64 r.c) := (hC3.cell (p := ⟨wr.heap.size, 0, .none⟩) (by rw [HWS.out]; exact Nat.lt_succ_self _) hz).trans (by rw [cell_blk (alloc_new wr _)]; rfl)
        have e1 : w3.cell? ⟨wr.heap.size, 1, .none⟩ = some (.int .i64 r.t) := (hC3.cell (p := ⟨wr.heap.size, 1, .none⟩) (by rw [HWS.out]; exact Nat.lt_succ_self _) hz).trans (by rw [cell_blk (alloc_new wr _)]; rfl)
        have e2 : w3.cell? ⟨wr.heap.size, 2, .none⟩ = some (.slice A' n' c') := (hC3.cell (p := ⟨wr.heap.size, 2, .none⟩) (by rw [HWS.out]; exact Nat.lt_succ_self _) hz).trans (by rw [cell_blk (alloc_new wr _)]; rfl)
        have HO3 := Lib.hid (own_chg (HP.out.out.alloc (.cells #[.int .i64 r.c, .int .i64 r.t, .slice A' n' c'] 104)) hC3 (fun i hi e => by have := HLow.out i e; have := (HP.out.out.lt i hi).1; omega))
        have HC3 := Lib.hid (show Chg κ wr w3 from ((Chg.refl κ wr).alloc _).trans' hC3)
        have HJ3 := Lib.hid hj3
        have hfl : ((f.l.take k).filter p).length ≤ k := by have := List.length_filter_le p (f.l.take k); simp at this; omega
        clear hj3 hC3 d0 d1 d2 hz
        go_wp2_with (at_builtin; refine wpList_append_own_at _ rfl _ _ 99 rfl w.heap.size 104 i0 (.agg #[.int .i64 0, .int .i64 0, .slice .none 0 0]) 3 40 Try.underlying99 hi hz0 hz1 hz2 rfl (by decide) _ _ _ rfl (HO3.out.alloc _) ⟨w3.heap.size, 0, .none⟩ 1 1 [.int .i64 r.c, .int .i64 r.t, .slice A' n' c'] rfl rfl (new3 _ _ _ _ _) (fun x hx => by simp at hx; rcases hx with rfl | rfl | rfl <;> rfl) (by unfold maxLen; omega) (by omega) (by simp; omega) ?_; intro v' w4 hown' hgrow3 hnil3 hob; rw [← HR1.out] at hown'; have HN := Lib.hid (HP.out.yes rfl HC.out HK.out HR.out HPR.out HJ3.out HC3.out _ hown' hgrow3 hob); clear hown' hgrow3 hnil3 hob)
        go_roundw
        case rel => exact ⟨k + 1, by omega, by go_num, HN⟩
        case measure => simp [intOf]; omega
      | false => as_aux_lemma =>
        have HPR := Lib.hid hp
        clear hp
        go_wp2_with fail
        rw [← HRV.out]
        refine (HC.out.call _ _ r HW2.out HJ2.out (by simp; omega)).mono ?_
        rintro e w3 ⟨rfl, hj3, hC3⟩
        rw [HPR.out]
        have hs3 := hC3.size
        rw [HWS.out] at hs3
        have hz : ¬ κ wr.heap.size := fun e => by have := HLow.out _ e; omega
        have e0 : w3.cell? ⟨wr.heap.size, 0, .none⟩ = some (.int .i64 r.c) := (hC3.cell (p := ⟨wr.heap.size, 0, .none⟩) (by rw [HWS.out]; exact Nat.lt_succ_self _) hz).trans (by rw [cell_blk (alloc_new wr _)]; rfl)
        have e1 : w3.cell? ⟨wr.heap.size, 1, .none⟩ = some (.int .i64 r.t) := (hC3.cell (p := ⟨wr.heap.size, 1, .none⟩) (by rw [HWS.out]; exact Nat.lt_succ_self _) hz).trans (by rw [cell_blk (alloc_new wr _)]; rfl)
        have e2 : w3.cell? ⟨wr.heap.size, 2, .none⟩ = some (.slice A' n' c') := (hC3.cell (p := ⟨wr.heap.size, 2, .none⟩) (by rw [HWS.out]; exact Nat.lt_succ_self _) hz).trans (by rw [cell_blk (alloc_new wr _)]; rfl)
        have HO3 := Lib.hid (own_chg (HP.out.left.alloc (.cells #[.int .i64 r.c, .int .i64 r.t, .slice A' n' c'] 104)) hC3 (fun i hi e => by have := HLow.out i e; have := (HP.out.left.lt i hi).1; omega))
        have HC3 := Lib.hid (show Chg κ wr w3 from ((Chg.refl κ wr).alloc _).trans' hC3)
        have HJ3 := Lib.hid hj3
        have hfl : ((f.l.take k).filter fun r => !p r).length ≤ k := by have := List.length_filter_le (fun r => !p r) (f.l.take k); simp at this; omega
        clear hj3 hC3 d0 d1 d2 hz
        go_wp2_with (at_builtin; refine wpList_append_own_at _ rfl _ _ 99 rfl w.heap.size 104 i0 (.agg #[.int .i64 0, .int .i64 0, .slice .none 0 0]) 3 40 Try.underlying99 hi hz0 hz1 hz2 rfl (by decide) _ _ _ rfl (HO3.out.alloc _) ⟨w3.heap.size, 0, .none⟩ 1 1 [.int .i64 r.c, .int .i64 r.t, .slice A' n' c'] rfl rfl (new3 _ _ _ _ _) (fun x hx => by simp at hx; rcases hx with rfl | rfl | rfl <;> rfl) (by unfold maxLen; omega) (by omega) (by simp; omega) ?_; intro v' w4 hown' hgrow3 hnil3 hob; rw [← HR1.out] at hown'; have HN := Lib.hid (HP.out.nay rfl HC.out HK.out HR.out HPR.out HJ3.out HC3.out _ hown' hgrow3 hob); clear hown' hgrow3 hnil3 hob)
        go_roundw
        case rel => exact ⟨k + 1, by omega, by go_num, HN⟩
        case measure => simp [intOf]; omega
    · obtain rfl : k = f.l.length := by omega
      have HE := HP.out
      rw [List.take_length] at HE
      obtain ⟨-, Al, cpl, hvl, -, -⟩ := Rd.of_owns HE.left
      subst hvl
      have HE2 := Lib.hid HE
      have hgk : ¬ κ g := fun e => by
        obtain ⟨a, ha⟩ := HK.out g e
        exact cells_other ha (by decide) HF.out.mine
      have hb := HE.chg.keep HF.out.blk hgk
      have cg := cell_blk (o := 2) hb
      have fg : wr.frozen? ⟨g, 2, .none⟩ = false := frozen_blk hb
      clear HE HP hb
      go_wp2_with fail
      go_ret
      exact ⟨_, _, wr, rfl, HE2.out, rfl⟩
end Go.Proofs.Ytiijnhgafadokaa
