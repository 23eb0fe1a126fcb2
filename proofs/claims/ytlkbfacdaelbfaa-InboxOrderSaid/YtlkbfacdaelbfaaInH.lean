/-
  Package inbox: the document's examples (shown).
-/
import Derived.Test.YtlkbfacdaelbfaaInG
namespace Go.Proofs.Ytlkbfacdaelbfaa
open Go.RowKit Ae
set_option linter.unusedVariables false
set_option linter.unusedSimpArgs false

/-- What is known of the inbox of the examples. -/
structure ShI (w0 wr : World) (o d : Nat) (K : List Ra.Row) (B : List (Int × Nat)) (G : List (Nat × Obj)) : Prop where
  ex : ∃ F x, InS w0 F wr o x ∧ x.size = 6 ∧ x.done = d ∧ x.L = K ∧ (∀ p ∈ B, (d : Int) ≤ p.1 → x.byte p.1 = p.2) ∧ ∀ q ∈ G, wr.heap[q.1]? = some q.2 ∧ ¬ F q.1
theorem ShI.idle {w0 wr w' : World} {o d : Nat} {K : List Ra.Row} {B : List (Int × Nat)} {G : List (Nat × Obj)} (h : ShI w0 wr o d K B G) (hc : Chg Nowhere wr w') : ShI w0 w' o d K B G := by
  obtain ⟨F, x, h1, h2, h3, h4, h5, h6⟩ := h.ex
  exact ⟨F, x, h1.idle hc, h2, h3, h4, h5, fun q hq => ⟨hc.same (h6 q hq).1, (h6 q hq).2⟩⟩
def ShIPost (w0 : World) (o d : Nat) (K : List Ra.Row) (B : List (Int × Nat)) (G : List (Nat × Obj)) (r : Int) : Ending → World → Prop := fun e w' => e = .returned (.int .i64 r) ∧ ShI w0 w' o d K B G
theorem ShI.take {w0 w : World} {o d : Nat} {K : List Ra.Row} {B : List (Int × Nat)} {G : List (Nat × Obj)} (h : ShI w0 w o d K B G) (hd : d ≤ 800000) (at_ : Int) (l : List Nat) (n : Nat) (hn : n = l.length) (fr : Nat × Nat) (hby : l.all (fun b => decide (b < 256)) = true) (hl : l.length ≤ 1000000) (lo hi : Int)
    (hlo : (if 0 ≤ at_ ∧ at_ < (d : Int) + (6 : Nat) then max at_ d else (d : Int)) = lo) (hhi : (if 0 ≤ at_ ∧ at_ < (d : Int) + (6 : Nat) then min (at_ + l.length) (d + (6 : Nat)) else (d : Int)) = hi)
    (K' : List Ra.Row) (hK : Ra.Good K') (hm : ∀ n, Ra.mem K' n ↔ Ra.mem K n ∨ (lo ≤ n ∧ n < hi)) (r : Int) (hr : Ra.total K' - Ra.total K = r) (B' : List (Int × Nat)) (hB : ∀ p ∈ B', (d : Int) ≤ p.1 → (p ∈ B ∧ Ra.mem K p.1) ∨ (¬ Ra.mem K p.1 ∧ lo ≤ p.1 ∧ p.1 < hi ∧ l.getD (p.1 - at_).toNat 0 = p.2)) :
    Calls Try.prog 37 #[.pointer (some ⟨o, 0, none⟩), .int .i64 at_, .slice (some ⟨w.heap.size, 0, none⟩) n n] (w.alloc (.cells (bs l) 5 fr)) (ShIPost w0 o d K' B' G r) := by
  obtain ⟨F, x, h1, h2, h3, h4, h5, h6⟩ := h.ex
  refine (h1.lit (by omega) at_ l n hn fr (fun b hb => by simpa using List.all_eq_true.1 hby b hb) hl).mono ?_
  rintro e w' ⟨x', F', rfl, q1, q2, qF, qC⟩
  have el : x.lo at_ = lo := by rw [In.lo, h2, h3]; exact hlo
  have eh : x.hi at_ l.length = hi := by rw [In.hi, h2, h3]; exact hhi
  rw [el, eh] at q1
  have eK : x'.L = K' := Ra.is_list q1.ok.good hK q1.has fun n => by rw [hm n, h4]
  refine ⟨by rw [eK, h4, hr], ⟨F', x', q2, by rw [q1.size, h2], by rw [q1.done, h3], eK, fun p hp hdp => ?_, fun q hq => ⟨qC.keep (alloc_old (h6 q hq).1) (h6 q hq).2, fun hf => ?_⟩⟩⟩
  rotate_left
  · rcases qF _ hf with h7 | h7
    · exact (h6 q hq).2 h7
    · have := lt_blk (h6 q hq).1
      simp at h7
      omega
  rcases hB p hp hdp with ⟨k1, k2⟩ | ⟨k1, k2, k3, k4⟩
  · rw [q1.old p.1 (by rw [h3]; exact hdp) (by rw [h4]; exact k2)]
    exact h5 p k1 hdp
  · rw [q1.new p.1 (by rw [h3]; exact hdp) (by rw [h4]; exact k1) k2 k3]
    exact k4
def ShIRead (w0 w : World) (o d : Nat) (K : List Ra.Row) (B : List (Int × Nat)) (G : List (Nat × Obj)) (l : List Nat) : Ending → World → Prop := fun e w' => ∃ v, e = .returned v ∧ OwnB w w' v l ∧ ShI w0 w' o (d + l.length) K B G ∧ ∀ g ob, v.ownBlock = some g → w'.heap[g]? = some ob → ShI w0 w' o (d + l.length) K B ((g, ob) :: G)
theorem ShI.read {w0 w : World} {o d : Nat} {K : List Ra.Row} {B : List (Int × Nat)} {G : List (Nat × Obj)} (h : ShI w0 w o d K B G) (hd : d ≤ 800000) (most y : Int) (hy : NextIs K d y) (l : List Nat) (hl : (l.length : Int) = min (y - d) (max most 0)) (hB : ∀ (i : Nat) b, l[i]? = some b → ((d : Int) + (i : Int), b) ∈ B) :
    Calls Try.prog 38 #[.pointer (some ⟨o, 0, none⟩), .int .i64 most] w (ShIRead w0 w o d K B G l) := by
  obtain ⟨F, x, h1, h2, h3, h4, h5, h6⟩ := h.ex
  refine (h1.read (by omega) most).mono ?_
  rintro e w' ⟨v, y2, n, F', rfl, q1, q2, q3, q4, qF, qv, qC⟩
  have ey : y2 = y := by rw [h4, h3] at q1; exact q1.only hy
  have en : n = l.length := by rw [ey, h3] at q2; omega
  have hh := h1.ok.here q1
  have hnb : n ≤ x.bs.length := by omega
  have eb : x.bs.take n = l := by
    apply List.ext_getElem?
    intro i
    by_cases hi : i < n
    · rw [List.getElem?_take_of_lt hi]
      obtain ⟨b, hb⟩ : ∃ b, l[i]? = some b := ⟨_, List.getElem?_eq_getElem (by omega)⟩
      have := h5 _ (hB i b hb) (by simp only; omega)
      simp only [In.byte, h3, show ((d : Int) + (i : Int) - (d : Int)).toNat = i by omega] at this
      rw [hb, List.getElem?_eq_getElem (by omega : i < x.bs.length)]
      rw [List.getD_eq_getElem?_getD, List.getElem?_eq_getElem (by omega : i < x.bs.length)] at this
      simpa using this
    · rw [List.getElem?_eq_none (by rw [List.length_take]; omega), List.getElem?_eq_none (by omega)]
  rw [eb] at q3
  have hG : ∀ q ∈ G, w'.heap[q.1]? = some q.2 ∧ ¬ F' q.1 := fun q hq => ⟨qC.keep (h6 q hq).1 (h6 q hq).2, fun hf => by
    rcases qF _ hf with h7 | h7
    · exact (h6 q hq).2 h7
    · have := lt_blk (h6 q hq).1
      omega⟩
  have hBB : ∀ p ∈ B, ((d + l.length : Nat) : Int) ≤ p.1 → (x.read n).byte p.1 = p.2 := fun p hp hdp => by
    rw [In.read_byte x n (by rw [h3]; omega)]
    exact h5 p hp (by omega)
  have hdn : (x.read n).done = d + l.length := by show x.done + n = _; omega
  exact ⟨v, rfl, q3, ⟨F', _, q4, h2, hdn, h4, hBB, hG⟩, fun g ob hg ho => ⟨F', _, q4, h2, hdn, h4, hBB, fun q hq => by
    rcases List.mem_cons.1 hq with rfl | hq
    · exact ⟨ho, qv _ hg⟩
    · exact hG q hq⟩⟩
theorem ShI.here {w0 w : World} {o d : Nat} {K : List Ra.Row} {B : List (Int × Nat)} {G : List (Nat × Obj)} (h : ShI w0 w o d K B G) (hd : d ≤ 800000) (y : Int) (hy : NextIs K d y) : Calls Try.prog 43 #[.pointer (some ⟨o, 0, none⟩)] w (Gives w (.int .i64 y)) := by
  obtain ⟨F, x, h1, h2, h3, h4, h5, h6⟩ := h.ex
  exact h1.here (by omega) (by rw [h3, h4]; exact hy)
theorem ShI.held {w0 w : World} {o d : Nat} {K : List Ra.Row} {B : List (Int × Nat)} {G : List (Nat × Obj)} (h : ShI w0 w o d K B G) (hd : d ≤ 800000) : Calls Try.prog 39 #[.pointer (some ⟨o, 0, none⟩)] w (Gives w (.int .i64 (Ra.total K - (d : Int)))) := by
  obtain ⟨F, x, h1, h2, h3, h4, h5, h6⟩ := h.ex
  have := h1.held (by omega)
  rwa [h3, h4] at this
theorem ShI.limit {w0 w : World} {o d : Nat} {K : List Ra.Row} {B : List (Int × Nat)} {G : List (Nat × Obj)} (h : ShI w0 w o d K B G) (hd : d ≤ 800000) : Calls Try.prog 42 #[.pointer (some ⟨o, 0, none⟩)] w (Gives w (.int .i64 ((d : Int) + ((6 : Nat) : Int)))) := by
  obtain ⟨F, x, h1, h2, h3, h4, h5, h6⟩ := h.ex
  have := h1.limit (by omega)
  rwa [h3, h2] at this
def ShIBeyond (w0 : World) (o d : Nat) (K : List Ra.Row) (B : List (Int × Nat)) (G : List (Nat × Obj)) (l : List Ra.Row) : Ending → World → Prop := fun e w' => ∃ g cap R, e = .returned (.slice (some ⟨g, 0, none⟩) l.length cap) ∧ l.length ≤ cap ∧ ShI w0 w' o d K B ((g, .cells (flat l ++ R).toArray 33 (0, 0)) :: G)
theorem ShI.beyond {w0 w : World} {o d : Nat} {K : List Ra.Row} {B : List (Int × Nat)} {G : List (Nat × Obj)} (h : ShI w0 w o d K B G) (hd : d ≤ 800000) (y : Int) (hy : NextIs K d y) (l : List Ra.Row) (hl : (K.filter fun r => !lowR y r).take 8 = l) (h0 : 0 < l.length) : Calls Try.prog 41 #[.pointer (some ⟨o, 0, none⟩)] w (ShIBeyond w0 o d K B G l) := by
  obtain ⟨F, x, h1, h2, h3, h4, h5, h6⟩ := h.ex
  refine (beyondIn_any o F x w h1.at' h1.ok (by omega)).mono ?_
  rintro e w' ⟨v, y2, rfl, q1, q2, q3, q4⟩
  have ey : y2 = y := by rw [h4, h3] at q1; exact q1.only hy
  have eb : x.beyond y2 = l := by rw [In.beyond, h4, ey]; exact hl
  rw [eb] at q2
  obtain ⟨g, cap, R, rfl, hrow, hn⟩ := own_rowAt q2 h0
  refine ⟨g, cap, R, rfl, hn, ⟨F, x, h1.idle q4, h2, h3, h4, h5, fun q hq => ?_⟩⟩
  rcases List.mem_cons.1 hq with rfl | hq
  · exact ⟨hrow.blk, fun hf => by have := q3 g rfl; have := h1.hi g hf; omega⟩
  · exact ⟨q4.same (h6 q hq).1, (h6 q hq).2⟩
theorem own_pos {w : World} {v : Value} {l : List Nat} (h : w.ownsRow 0 5 1 v l.length (bl l)) (h0 : 0 < l.length) : ∃ g c R, v = .slice (some ⟨g, 0, none⟩) l.length c ∧ w.heap[g]? = some (.cells (bl l ++ R).toArray 5 (0, 0)) ∧ l.length ≤ c := by
  rcases h.2 with ⟨h1, h2⟩ | ⟨g, cap, cur, rfl, q1, q2, q3, q4, q5, q6⟩
  · omega
  · refine ⟨g, cap, cur.toList.drop (l.length * 1), rfl, ?_, q3⟩
    rw [← q6, List.take_append_drop]
    simpa using q2
theorem ShI.two {w0 w : World} {o d : Nat} {K : List Ra.Row} {B : List (Int × Nat)} {g h : Nat × Obj} {G : List (Nat × Obj)} (s : ShI w0 w o d K B (g :: h :: G)) : w.heap[g.1]? = some g.2 ∧ w.heap[h.1]? = some h.2 := by
  obtain ⟨F, x, h1, h2, h3, h4, h5, h6⟩ := s.ex
  exact ⟨(h6 g (by simp)).1, (h6 h (by simp)).1⟩
theorem j1_good : Ra.Good [(2, 4)] := ⟨fun r hr => by simp only [List.mem_singleton] at hr; subst hr; decide, by simp⟩
theorem j2_good : Ra.Good [(0, 5)] := ⟨fun r hr => by simp only [List.mem_singleton] at hr; subst hr; decide, by simp⟩
theorem j3_good : Ra.Good [(0, 5), (8, 9)] := ⟨fun r hr => by simp only [List.mem_cons, List.not_mem_nil, or_false] at hr; rcases hr with rfl | rfl <;> decide, by simp⟩
theorem nx0 : NextIs [(2, 4)] ((0 : Nat) : Int) 0 := ⟨by decide, by rw [Ra.mem_at]; decide, fun y h1 h2 => by omega, .inl (by decide)⟩
theorem nx5 : NextIs [(0, 5)] ((0 : Nat) : Int) 5 := ⟨by decide, by rw [Ra.mem_at]; decide, fun y h1 h2 => (Ra.mem_at _ _).2 (by simp; omega), .inr (by decide)⟩
set_option maxHeartbeats 4000000 in
set_option maxRecDepth 100000 in
theorem shown19_any (w : World) : Calls Try.prog 34 #[] w (Gives w (.bool true)) := by
  have m1 := Lib.hid (show ∀ n, Ra.mem [(2, 4)] n ↔ Ra.mem [] n ∨ ((2 : Int) ≤ n ∧ n < 4) from fun n => by simp only [Ra.mem_cons, iff_false_intro (Ra.mem_nil n), or_false, false_or])
  have m2 := Lib.hid (show ∀ n, Ra.mem [(0, 5)] n ↔ Ra.mem [(2, 4)] n ∨ ((0 : Int) ≤ n ∧ n < 5) from fun n => by simp only [Ra.mem_cons, iff_false_intro (Ra.mem_nil n), or_false, false_or]; omega)
  have m3 := Lib.hid (show ∀ n, Ra.mem [(0, 5), (8, 9)] n ↔ Ra.mem [(0, 5)] n ∨ ((8 : Int) ≤ n ∧ n < 9) from fun n => by simp only [Ra.mem_cons, iff_false_intro (Ra.mem_nil n), or_false, false_or])
  have m4 := Lib.hid (show ∀ n, Ra.mem [(0, 5), (8, 9)] n ↔ Ra.mem [(0, 5), (8, 9)] n ∨ ((3 : Int) ≤ n ∧ n < 3) from fun n => ⟨.inl, fun h => h.elim id (fun h => by omega)⟩)
  have b2 := Lib.hid (show ∀ p ∈ ([(0, 97), (1, 98), (2, 99), (3, 100), (4, 101)] : List (Int × Nat)), ((0 : Nat) : Int) ≤ p.1 → (p ∈ ([(2, 99), (3, 100)] : List (Int × Nat)) ∧ Ra.mem [(2, 4)] p.1) ∨ (¬ Ra.mem [(2, 4)] p.1 ∧ (0 : Int) ≤ p.1 ∧ p.1 < 5 ∧ ([97, 98, 88, 89, 101] : List Nat).getD (p.1 - 0).toNat 0 = p.2) from fun p hp _ => by rw [Ra.mem_at]; revert p; decide)
  have b3 := Lib.hid (show ∀ (i : Nat) b, ([97, 98, 99] : List Nat)[i]? = some b → (((0 : Nat) : Int) + (i : Int), b) ∈ ([(0, 97), (1, 98), (2, 99), (3, 100), (4, 101)] : List (Int × Nat)) from fun i b h => by
    match i, h with
    | 0, h => simp at h; subst h; decide
    | 1, h => simp at h; subst h; decide
    | 2, h => simp at h; subst h; decide)
  have kc := fun (w : World) (C : Array Value) (n c : Nat) => Lib.run_convert_bytes_const (P := Try.prog) w 47 5 C n c Try.underlying47 undU8
  go_enter Try.func34, Try.ntmps34
  go_upto_region 2 with (go_at_call 35; refine (InS.new_ w w (Chg.refl _ _) 6 6 (by decide)).mono ?_; rintro e w1 ⟨o, F, rfl, h1, -, -⟩; have HS := Lib.hid (show ShI w w1 o 0 [] [] [] from ⟨F, _, h1, rfl, rfl, rfl, fun p hp => (by cases hp), fun q hq => (by cases hq)⟩); clear h1)
  go_upto_region 5 with (first
    | (refine wpList_build_bytes rfl 2 _ rfl [99, 100] rfl (by decide) (by decide) (by kernel_rfl) ?_)
    | (go_at_call 37; refine (HS.out.take (by decide) 2 [99, 100] 2 rfl _ (by decide) (by decide) 2 4 (by decide) (by decide) [(2, 4)] j1_good m1.out 2 (by decide) [(2, 99), (3, 100)] (fun p hp _ => .inr ⟨Ra.mem_nil _, by revert p; decide⟩)).mono ?_; rintro e w2 ⟨rfl, h⟩; have HS2 := Lib.hid h; clear h))
  go_upto_region 6 with (go_at_call 43; refine (HS2.out.here (by decide) 0 nx0).mono ?_; rintro e w3 ⟨rfl, h⟩; have HS3 := Lib.hid (HS2.out.idle h); clear h)
  go_upto_region 7 with (go_at_call 41; refine (HS3.out.beyond (by decide) 0 nx0 [(2, 4)] (by decide) (by decide)).mono ?_; rintro e w4 ⟨gL, cL, RL, rfl, hnL, h⟩; have HS4 := Lib.hid h; clear h)
  go_upto_region 8 with (go_at_call 38; refine (HS4.out.read (by decide) 9 0 nx0 [] (by decide) (fun i b h => by simp at h)).mono ?_; rintro e w5 ⟨v5, rfl, q1, q2, -⟩; have HS5 := Lib.hid (show ShI w w5 o 0 _ _ _ from q2); obtain ⟨A5, c5, rfl⟩ := ownR_shape q1.1; clear q1 q2)
  go_upto_region 9 with (first
    | (refine wpList_build_bytes rfl 5 _ rfl [97, 98, 88, 89, 101] rfl (by decide) (by decide) (by kernel_rfl) ?_)
    | (go_at_call 37; refine (HS5.out.take (by decide) 0 [97, 98, 88, 89, 101] 5 rfl _ (by decide) (by decide) 0 5 (by decide) (by decide) [(0, 5)] j2_good m2.out 3 (by decide) [(0, 97), (1, 98), (2, 99), (3, 100), (4, 101)] b2.out).mono ?_; rintro e w6 ⟨rfl, h⟩; have HS6 := Lib.hid h; clear h))
  go_upto_region 10 with (go_at_call 38; refine (HS6.out.read (by decide) 3 5 nx5 [97, 98, 99] (by decide) b3.out).mono ?_; rintro e w7 ⟨v7, rfl, q1, -, q2⟩; obtain ⟨g7, c7, R7, hv7, hb7, hc7⟩ := own_pos q1.1 (by decide); subst hv7; have HS7 := Lib.hid (q2 g7 _ rfl hb7); clear q1 q2 hb7)
  go_upto_region 11 with (go_at_call 42; refine (HS7.out.limit (by decide)).mono ?_; rintro e w8 ⟨rfl, h⟩; have HS8 := Lib.hid (HS7.out.idle h); clear h)
  go_upto_region 12 with (first
    | (refine wpList_build_bytes rfl 2 _ rfl [122, 122] rfl (by decide) (by decide) (by kernel_rfl) ?_)
    | (go_at_call 37; refine (HS8.out.take (by decide) 8 [122, 122] 2 rfl _ (by decide) (by decide) 8 9 (by decide) (by decide) [(0, 5), (8, 9)] j3_good m3.out 1 (by decide) [] (fun p hp => by cases hp)).mono ?_; rintro e w9 ⟨rfl, h⟩; have HS9 := Lib.hid h; clear h))
  go_upto_region 13 with (first
    | (refine wpList_build_bytes rfl 3 _ rfl [97, 98, 99] rfl (by decide) (by decide) (by kernel_rfl) ?_)
    | (go_at_call 37; refine (HS9.out.take (by decide) 0 [97, 98, 99] 3 rfl _ (by decide) (by decide) 3 3 (by decide) (by decide) [(0, 5), (8, 9)] j3_good m4.out 0 (by decide) [] (fun p hp => by cases hp)).mono ?_; rintro e w10 ⟨rfl, h⟩; have HSa := Lib.hid h; clear h))
  obtain ⟨hG7, hGL⟩ := HSa.out.two
  have l0 : w10.cell? ⟨gL, 0, none⟩ = some (.int .i64 2) := by rw [cell_blk hGL]; rfl
  have l1 : w10.cell? ⟨gL, 1, none⟩ = some (.int .i64 4) := by rw [cell_blk hGL]; rfl
  obtain ⟨SB, hSB⟩ : ∃ S, S = sb [97, 98, 99] := ⟨_, rfl⟩
  have hcv : (convert 47 9 (.slice (some ⟨g7, 0, none⟩) 3 c7)).run Try.prog w10 = .ok (.string SB) w10 := by
    rw [hSB]
    refine conv_rd ⟨rfl, _, c7, rfl, hc7, fun _ => ⟨g7, 0, rfl, lt_blk hG7, fun j hj => ?_⟩⟩
    rw [Nat.zero_add, cell_blk hG7]
    simp only [List.getElem?_toArray]
    exact List.getElem?_append_left hj
  have hse : SB = ⟨#[97, 98, 99]⟩ := by rw [hSB]; decide
  subst hse
  have HEND := Lib.hid (HSa.out.held (by decide))
  have HC := Lib.hid (show Chg Nowhere w w10 from by obtain ⟨F, x, h1, _⟩ := HSa.out.ex; exact h1.chg)
  have ht : Ra.total [(0, 5), (8, 9)] - ((0 + [97, 98, 99].length : Nat) : Int) = 3 := by decide
  rw [ht] at HEND
  clear hG7 hGL hSB ht m1 m2 m3 m4 b2 b3 HS HS2 HS3 HS4 HS5 HS6 HS7 HS8 HS9 HSa
  go_wp2_with (go_at_call 39; refine HEND.out.mono ?_; rintro e w11 ⟨rfl, q⟩; have HC2 := Lib.hid (HC.out.then_none q); clear q)
  go_ret
  exact ⟨rfl, HC2.out⟩
end Go.Proofs.Ytlkbfacdaelbfaa
