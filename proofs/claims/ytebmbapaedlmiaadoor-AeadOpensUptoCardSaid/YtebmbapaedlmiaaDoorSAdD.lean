/-
  The document's stream: Block (the walk).
-/
import Derived.Test.YtebmbapaedlmiaaDoorSAdC
import Derived.Deep.DeepCutAuto
import Derived.Deep.QuietTactic
import Derived.BigQuiet
namespace Go.Proofs.YtebmbapaedlmiaaDoor
open Go.RowKit Ae
set_option linter.unusedVariables false

theorem take_snoc {l : List Nat} {k b : Nat} (h : l[k]? = some b) : l.take k ++ [b] = l.take (k + 1) := by rw [List.take_add_one, h]; rfl
theorem ia49 (b j n c : Nat) (hj : (j : Int) < (n : Int)) (w : World) : (Instr.indexAt 49 (.slice (some ⟨b, 0, none⟩) n c) (.int .i64 (j : Int))).run Tryd.prog w = .ok (.pointer (some ⟨b, j, none⟩)) w := by go_simp
theorem enters_rquarter : Enters Tryd.prog 27 := enters_of Tryd.func27 (by kernel_rfl) rfl
/-- What the walk of a block keeps while its words are turned. -/
structure RbX (w wr : World) (gs gx : Nat) (S X : List Nat) : Prop where
  r : wr.heap[w.heap.size + 1 + 1]? = some (.cells (bs (List.replicate 64 0)) 43 (0, 0))
  s : Row32 wr gs S
  x : Row32 wr gx X
  c : Chg Nowhere w wr
  d : gs ≠ gx
  gs3 : w.heap.size + 1 + 1 < gs
  gx3 : w.heap.size + 1 + 1 < gx
theorem RbX.chg {w wr w2 : World} {gs gx : Nat} {S X : List Nat} (h : RbX w wr gs gx S X) (hc : Chg Nowhere wr w2) : RbX w w2 gs gx S X :=
  ⟨hc.same h.r, h.s.same hc, h.x.same hc, h.c.then_none hc, h.d, h.gs3, h.gx3⟩
theorem RbX.put {w wr : World} {gs gx : Nat} {S X : List Nat} (h : RbX w wr gs gx S X) {i : Nat} (hi : i < X.length) (x : Nat) : RbX w (wr.setCell ⟨gx, i, none⟩ (.int .u32 (x : Int))) gs gx S (X.set i x) :=
  ⟨(set_other _ (by have := h.gx3; show w.heap.size + 1 + 1 ≠ gx; omega)).trans h.r, h.s.other (Ne.symm h.d), h.x.set hi x, h.c.put (.inr (by have := h.gx3; omega)), h.d, h.gs3, h.gx3⟩
theorem RbX.other {w wr : World} {gs gx : Nat} {S X : List Nat} (h : RbX w wr gs gx S X) {b : Nat} (h1 : b ≠ gs) (h2 : b ≠ gx) (h3 : w.heap.size + 1 + 1 < b) (o : Nat) (v : Value) : RbX w (wr.setCell ⟨b, o, none⟩ v) gs gx S X :=
  ⟨(set_other _ (by show w.heap.size + 1 + 1 ≠ b; omega)).trans h.r, h.s.other h1, h.x.other h2, h.c.put (.inr (by omega)), h.d, h.gs3, h.gx3⟩
theorem RbX.row {w wr : World} {gs gx : Nat} {S X : List Nat} (h : RbX w wr gs gx S X) {b : Nat} (h1 : b ≠ gs) (h2 : b ≠ gx) (h3 : w.heap.size + 1 + 1 < b) (cs : Array Value) : RbX w (wr.setRow b cs) gs gx S X :=
  ⟨row_other h.r (by omega), h.s.row h1, h.x.row h2, h.c.putRow (.inr (by omega)), h.d, h.gs3, h.gx3⟩
theorem place_forms {k : Nat} (hk : k < 8) : ∃ tt : Nat, (k < 4 → tt = 0) ∧ (4 ≤ k → tt = 1) ∧ place k 0 = k % 4 ∧ place k 1 = 4 + (k + tt) % 4 ∧ place k 2 = 8 + (k + 2 * tt) % 4 ∧ place k 3 = 12 + (k + 3 * tt) % 4 := by
  rcases (by omega : k = 0 ∨ k = 1 ∨ k = 2 ∨ k = 3 ∨ k = 4 ∨ k = 5 ∨ k = 6 ∨ k = 7) with rfl | rfl | rfl | rfl | rfl | rfl | rfl | rfl
  · exact ⟨0, by decide, by decide, rfl, rfl, rfl, rfl⟩
  · exact ⟨0, by decide, by decide, rfl, rfl, rfl, rfl⟩
  · exact ⟨0, by decide, by decide, rfl, rfl, rfl, rfl⟩
  · exact ⟨0, by decide, by decide, rfl, rfl, rfl, rfl⟩
  · exact ⟨1, by decide, by decide, rfl, rfl, rfl, rfl⟩
  · exact ⟨1, by decide, by decide, rfl, rfl, rfl, rfl⟩
  · exact ⟨1, by decide, by decide, rfl, rfl, rfl, rfl⟩
  · exact ⟨1, by decide, by decide, rfl, rfl, rfl, rfl⟩
set_option maxHeartbeats 16000000 in
set_option maxRecDepth 100000 in
theorem rblock_any (key nonce : List Nat) (ctr : Nat) (hk : key.length = 32) (hkb : Byt key) (hn : nonce.length = 12) (hnb : Byt nonce) (hc : ctr < 4294967296) (w : World) :
    Calls Tryd.prog 18 #[.agg (bs key), .int .u32 (ctr : Int), .agg (bs nonce)] w (Gives w (.agg (bs (block key ctr nonce)))) := by
  have HK := Lib.hid hk
  have HKB := Lib.hid hkb
  have HN := Lib.hid hn
  have HNB := Lib.hid hnb
  obtain ⟨ST, hST⟩ : ∃ ST, ST = startW key ctr nonce := ⟨_, rfl⟩
  have HSL := Lib.hid (show ST.length = 16 by rw [hST, startW_len])
  have HSW := Lib.hid (show W32 ST by rw [hST]; exact startW_w32 hkb hnb hc)
  have HST := Lib.hid hST
  have HS4 := Lib.hid (show headW = ST.take (4 + 0) by rw [hST]; rfl)
  clear hk hkb hn hnb hST
  go_enter Tryd.func18, Tryd.ntmps18
  go_wp2_with fail
  have HW0 := Lib.hid (show RbW w ((((w.alloc (.cells (bs key) 23)).alloc (.cells (bs nonce) 25)).alloc (.cells (bs (List.replicate 64 0)) 43)).alloc (.cells (wl headW).toArray 39)) key nonce (.slice (some ⟨w.heap.size + 1 + 1 + 1, 0, none⟩) 4 4) (ST.take (4 + 0)) by
    rw [← HS4.out]
    refine ⟨alloc_old (alloc_old (alloc_old (alloc_new _ _))), alloc_old (alloc_old (new_1 _ _ _)), alloc_old (new_2 _ _ _ _), ?_, fun i hi => ?_, ((((Chg.refl _ _).alloc _).alloc _).alloc _).alloc _⟩
    · have := World.ownsRow_lit (base := 0) (e := 39) (size := 1) (((w.alloc (.cells (bs key) 23)).alloc (.cells (bs nonce) 25)).alloc (.cells (bs (List.replicate 64 0)) 43)) (wl headW).toArray 4 (by omega) (by unfold maxLen; omega) rfl
      rw [sz3] at this
      exact this
    · simp only [Value.ownBlock, Option.some.injEq] at hi
      omega)
  go_loopw [7, 8] (fun v i wr => ∃ k : Nat, k ≤ 8 ∧ i = .int .i64 k ∧ RbW w wr key nonce v (ST.take (4 + k))) (fun _ i _ => 8 - (intOf i).toNat)
  case atStart => exact ⟨0, by omega, rfl, HW0.out⟩
  case round =>
    obtain ⟨j, hj, rfl, hW⟩ := hrel
    clear HW0
    have HW := Lib.hid hW
    clear hW
    by_cases hj2 : j < 8
    · have hkc : ∀ o, o < 32 → wr.cell? ⟨w.heap.size, o, none⟩ = some (.int .u8 ((key.getD o 0 : Nat) : Int)) := fun o ho => (cell_blk HW.out.k (o := o)).trans (bs_get (some_getD (by rw [HK.out]; exact ho)))
      obtain ⟨y, hy⟩ : ∃ y, y = word4 key (4 * j) := ⟨_, rfl⟩
      have HCW := Lib.hid (show Calls Tryd.prog 26 #[.slice (some ⟨w.heap.size, 4 * j, none⟩) 4 (32 - 4 * j)] wr (Gives wr (.int .u32 (y : Int))) by
        rw [hy]
        exact rword_any w.heap.size (4 * j) 4 (32 - 4 * j) (key.getD (4 * j) 0) (key.getD (4 * j + 1) 0) (key.getD (4 * j + 2) 0) (key.getD (4 * j + 3) 0) wr (by omega) (by omega) (HKB.out.at _) (HKB.out.at _) (HKB.out.at _) (HKB.out.at _) (hkc _ (by omega)) (hkc _ (by omega)) (hkc _ (by omega)) (hkc _ (by omega)))
      have HB := Lib.hid (show ST.take (4 + j) ++ [y] = ST.take (4 + (j + 1)) from take_snoc (by rw [HST.out, hy]; exact startW_key _ _ _ hj2))
      clear hkc hy
      have hsl := rsl_k w.heap.size j hj2
      go_wp2_with (first
        | (go_at_call 26; refine HCW.out.mono ?_; rintro e w2 ⟨rfl, hC2⟩; obtain ⟨v', w3, hr3, hW3⟩ := (HW.out.chg hC2).one y (by rw [List.length_take, HSL.out]; omega); rw [HB.out] at hW3; have HR3 := Lib.hid hr3; have HW3 := Lib.hid hW3; clear hr3 hW3 hC2)
        | (at_builtin; refine Lib.wpList_append_run _ rfl _ _ 49 49 rfl u7 (.slice (some ⟨w2.heap.size, 0, none⟩) 1 1) rfl rfl v' w3 HR3.out ?_))
      go_roundw
      case rel => exact ⟨j + 1, by omega, by go_num, HW3.out⟩
      case measure => simp [intOf]; omega
    · obtain ⟨v12, w12, hr12, hW12⟩ := HW.out.one ctr (by rw [List.length_take, HSL.out]; omega)
      have HR12 := Lib.hid hr12
      have HW12 := Lib.hid (show RbW w w12 key nonce v12 (ST.take (13 + 0)) by
        have e : ST.take (4 + j) ++ [ctr] = ST.take (13 + 0) := by rw [show 4 + j = 12 by omega]; exact take_snoc (by rw [HST.out]; exact startW_ctr _ _ _)
        rw [← e]; exact hW12)
      clear hr12 hW12 HW
      go_wp2_with (at_builtin; refine Lib.wpList_append_run _ rfl _ _ 49 49 rfl u7 (.slice (some ⟨wr.heap.size, 0, none⟩) 1 1) rfl rfl v12 w12 HR12.out ?_)
      go_loopw [7, 9] (fun v i wr => ∃ k : Nat, k ≤ 3 ∧ i = .int .i64 k ∧ RbW w wr key nonce v (ST.take (13 + k))) (fun _ i _ => 3 - (intOf i).toNat)
      case atStart => exact ⟨0, by omega, rfl, HW12.out⟩
      case round =>
        obtain ⟨j, hj, rfl, hW⟩ := hrel
        clear HW12
        have HW := Lib.hid hW
        clear hW
        by_cases hj2 : j < 3
        · have hkc : ∀ o, o < 12 → wr.cell? ⟨w.heap.size + 1, o, none⟩ = some (.int .u8 ((nonce.getD o 0 : Nat) : Int)) := fun o ho => (cell_blk HW.out.n (o := o)).trans (bs_get (some_getD (by rw [HN.out]; exact ho)))
          obtain ⟨y, hy⟩ : ∃ y, y = word4 nonce (4 * j) := ⟨_, rfl⟩
          have HCW := Lib.hid (show Calls Tryd.prog 26 #[.slice (some ⟨w.heap.size + 1, 4 * j, none⟩) 4 (12 - 4 * j)] wr (Gives wr (.int .u32 (y : Int))) by
            rw [hy]
            exact rword_any (w.heap.size + 1) (4 * j) 4 (12 - 4 * j) (nonce.getD (4 * j) 0) (nonce.getD (4 * j + 1) 0) (nonce.getD (4 * j + 2) 0) (nonce.getD (4 * j + 3) 0) wr (by omega) (by omega) (HNB.out.at _) (HNB.out.at _) (HNB.out.at _) (HNB.out.at _) (hkc _ (by omega)) (hkc _ (by omega)) (hkc _ (by omega)) (hkc _ (by omega)))
          have HB := Lib.hid (show ST.take (13 + j) ++ [y] = ST.take (13 + (j + 1)) from take_snoc (by rw [HST.out, hy]; exact startW_nonce _ _ _ hj2))
          clear hkc hy
          have hsl := rsl_n (w.heap.size + 1) j hj2
          go_wp2_with (first
            | (go_at_call 26; refine HCW.out.mono ?_; rintro e w2 ⟨rfl, hC2⟩; obtain ⟨v', w3, hr3, hW3⟩ := (HW.out.chg hC2).one y (by rw [List.length_take, HSL.out]; omega); rw [HB.out] at hW3; have HR3 := Lib.hid hr3; have HW3 := Lib.hid hW3; clear hr3 hW3 hC2)
            | (at_builtin; refine Lib.wpList_append_run _ rfl _ _ 49 49 rfl u7 (.slice (some ⟨w2.heap.size, 0, none⟩) 1 1) rfl rfl v' w3 HR3.out ?_))
          go_roundw
          case rel => exact ⟨j + 1, by omega, by go_num, HW3.out⟩
          case measure => simp [intOf]; omega
        · have HW16 := Lib.hid (show RbW w wr key nonce u7 ST by
            have := HW.out
            rwa [List.take_of_length_le (by rw [HSL.out]; omega)] at this)
          clear HW
          obtain ⟨gs, cs, rfl, hcs, hRS⟩ := Row32.of_own HW16.out.own (by rw [HSL.out]; omega)
          rw [HSL.out] at hcs
          obtain ⟨vx, wx, hrx, hox, hgx, hobx⟩ := append32 (wr.alloc (.cells #[] 39)) (.slice (some ⟨wr.heap.size, 0, none⟩) 0 0) [] ST gs 0 cs (World.ownsRow_lit (base := 0) (e := 39) (size := 1) wr #[] 0 (by omega) (by unfold maxLen; omega) rfl) (fun j u hj => by
            have hj2 : j < ST.length := by have := (List.getElem?_eq_some_iff.1 hj).1; rwa [wl_len] at this
            rw [Nat.zero_add, (hRS.same ((Chg.refl Nowhere wr).alloc (.cells #[] 39))).cell (List.getElem?_eq_getElem hj2), ← hj, wl_get (List.getElem?_eq_getElem hj2)]) (by rw [HSL.out]; decide)
          rw [List.nil_append] at hox
          obtain ⟨gx, cx, rfl, hcx, hRX⟩ := Row32.of_own hox (by rw [HSL.out]; omega)
          rw [HSL.out] at hcx
          have hgxg : wr.heap.size ≤ gx := by
            rcases hobx with e | e <;> simp only [Value.ownBlock, Option.some.injEq] at e
            · omega
            · rw [sz1] at e; omega
          have hgsl := hRS.lt
          have hgsg : w.heap.size ≤ gs := HW16.out.ge gs rfl
          have hgsn : w.heap.size + 1 + 1 < gs := by
            obtain ⟨cur, hcur, -, -⟩ := hRS
            have n1 : gs ≠ w.heap.size := fun e => by have h2 := HW16.out.k; rw [← e, hcur] at h2; simp at h2
            have n2 : gs ≠ w.heap.size + 1 := fun e => by have h2 := HW16.out.n; rw [← e, hcur] at h2; simp at h2
            have n3 : gs ≠ w.heap.size + 1 + 1 := fun e => by have h2 := HW16.out.r; rw [← e, hcur] at h2; simp at h2
            omega
          have hrl := lt_blk HW16.out.r
          have HX := Lib.hid (show RbX w wx gs gx ST (itr (fun _ x => itr quart 8 x) 0 ST) from ⟨by
            have := hgx.block (w.heap.size + 1 + 1) (by rw [sz1]; omega) (by simp only [Value.ownBlock, ne_eq, Option.some.injEq]; omega)
            exact this.trans (alloc_old HW16.out.r), by
            obtain ⟨cur, h1, h2, h3⟩ := hRS
            refine ⟨cur, ?_, h2, h3⟩
            have := hgx.block gs (by rw [sz1]; omega) (by simp only [Value.ownBlock, ne_eq, Option.some.injEq]; omega)
            exact this.trans (alloc_old h1), hRX, (HW16.out.c.alloc _).grown hgx (fun k hk => .inl (by simp only [Value.ownBlock, Option.some.injEq] at hk; omega)), by omega, hgsn, by omega⟩)
          have HRX := Lib.hid hrx
          rw [HSL.out] at HRX
          clear hrx hox hgx hobx hRX hRS hgsl hgsg hgsn hrl hgxg HW16
          rw [HSL.out]
          go_wp2_with (at_builtin; refine Lib.wpList_append_run _ rfl _ _ 49 49 rfl (.slice (some ⟨wr.heap.size, 0, none⟩) 0 0) (.slice (some ⟨gs, 0, none⟩) 16 cs) rfl rfl (.slice (some ⟨gx, 0, none⟩) 16 cx) wx HRX.out ?_)
          clear HRX
          go_loopw [11] (fun i wr => ∃ n : Nat, n ≤ 10 ∧ i = .int .i64 n ∧ RbX w wr gs gx ST (itr (fun _ x => itr quart 8 x) n ST)) (fun i _ => 10 - (intOf i).toNat)
          case atStart => exact ⟨0, by omega, rfl, HX.out⟩
          case round =>
            obtain ⟨n, hn, rfl, hX⟩ := hrel
            clear HX
            obtain ⟨X, hXe⟩ : ∃ X, X = itr (fun _ x => itr quart 8 x) n ST := ⟨_, rfl⟩
            rw [← hXe] at hX
            have HX := Lib.hid hX
            have HXL := Lib.hid (show X.length = 16 by rw [hXe, rnds_len, HSL.out])
            have HXW := Lib.hid (show W32 X by rw [hXe]; exact rnds_w32 HSW.out n)
            have HXE := Lib.hid hXe
            clear hXe hX
            by_cases hn2 : n < 10
            · have hd10 : decide ((n : Int) < 10) = true := decide_eq_true (by omega)
              go_wp2_with fail
              go_loopw [12] (fun i wr => ∃ k : Nat, k ≤ 8 ∧ i = .int .i64 k ∧ RbX w wr gs gx ST (itr quart k X)) (fun i _ => 8 - (intOf i).toNat)
              case atStart => exact ⟨0, by omega, rfl, HX.out⟩
              case round =>
                obtain ⟨k, hk, rfl, hX⟩ := hrel
                clear HX
                obtain ⟨Y, hYe⟩ : ∃ Y, Y = itr quart k X := ⟨_, rfl⟩
                rw [← hYe] at hX
                have HX := Lib.hid hX
                have HYL := Lib.hid (show Y.length = 16 by rw [hYe, rnd_len, HXL.out])
                have HYW := Lib.hid (show W32 Y by rw [hYe]; exact rnd_w32 HXW.out k)
                have HYE := Lib.hid hYe
                clear hYe hX
                by_cases hk2 : k < 8
                · have hd8 : decide ((k : Int) < 8) = true := decide_eq_true (by omega)
                  obtain ⟨tt, ht0, ht1, e0, e1, e2, e3⟩ := place_forms hk2
                  have HQL := Lib.hid (show quR k Y = qr (Y.getD (place k 0) 0) (Y.getD (place k 1) 0) (Y.getD (place k 2) 0) (Y.getD (place k 3) 0) from rfl)
                  have HQN := Lib.hid (show ∀ j, (quS k j Y).set (place k j) ((quR k Y).getD j 0) = quS k (j + 1) Y from fun j => rfl)
                  have HPL := Lib.hid (show ∀ j, j < 4 → place k j < 16 from fun j hj => place_lt hk2 hj)
                  have HPE := Lib.hid (show quS k 4 Y = itr quart (k + 1) X by rw [← quart_eq, HYE.out]; rfl)
                  obtain ⟨p0, hp0⟩ : ∃ p, p = place k 0 := ⟨_, rfl⟩
                  obtain ⟨p1, hp1⟩ : ∃ p, p = place k 1 := ⟨_, rfl⟩
                  obtain ⟨p2, hp2⟩ : ∃ p, p = place k 2 := ⟨_, rfl⟩
                  obtain ⟨p3, hp3⟩ : ∃ p, p = place k 3 := ⟨_, rfl⟩
                  have HP0 := Lib.hid (show p0 < 16 by rw [hp0]; exact HPL.out 0 (by decide))
                  have HP1 := Lib.hid (show p1 < 16 by rw [hp1]; exact HPL.out 1 (by decide))
                  have HP2 := Lib.hid (show p2 < 16 by rw [hp2]; exact HPL.out 2 (by decide))
                  have HP3 := Lib.hid (show p3 < 16 by rw [hp3]; exact HPL.out 3 (by decide))
                  have HN0 := HQN.out 0
                  have HN1 := HQN.out 1
                  have HN2 := HQN.out 2
                  have HN3 := HQN.out 3
                  rw [← hp0] at HN0 e0 HQL
                  rw [← hp1] at HN1 e1 HQL
                  rw [← hp2] at HN2 e2 HQL
                  rw [← hp3] at HN3 e3 HQL
                  have HM0 := Lib.hid HN0
                  have HM1 := Lib.hid HN1
                  have HM2 := Lib.hid HN2
                  have HM3 := Lib.hid HN3
                  clear HN0 HN1 HN2 HN3 HQN hp0 hp1 hp2 hp3 HPL
                  have f0 : (k : Int) % 4 = (p0 : Int) := by omega
                  have f1 : 4 + ((k : Int) + (tt : Int)) % 4 = (p1 : Int) := by omega
                  have f2 : 8 + ((k : Int) + 2 * (tt : Int)) % 4 = (p2 : Int) := by omega
                  have f3 : 12 + ((k : Int) + 3 * (tt : Int)) % 4 = (p3 : Int) := by omega
                  have htt : tt ≤ 1 := by omega
                  clear e0 e1 e2 e3
                  go_upto_if 68 with fail
                  go_cut [13, 68] (fun v t wx => v = .int .i64 (tt : Int) ∧ wx = wr)
                  case first =>
                    rcases (by omega : k < 4 ∨ 4 ≤ k) with h | h
                    · obtain rfl := ht0 h
                      have hd : decide (4 ≤ (k : Int)) = false := decide_eq_false (by omega)
                      go_wp2_with fail
                      go_meet
                      exact ⟨rfl, rfl⟩
                    · obtain rfl := ht1 h
                      have hd : decide (4 ≤ (k : Int)) = true := decide_eq_true (by omega)
                      go_wp2_with fail
                      go_meet
                      exact ⟨rfl, rfl⟩
                  case rest =>
                    obtain ⟨rfl, rfl⟩ := hcut
                    clear ht0 ht1
                    go_wp2_with fail
                    rw [f0]
                    have UX := Lib.hid HX.out
                    refine wp_region_calm0 19 [88, 89, 90, 91, 92, 93, 94, 95, 96, 97, 98, 99, 100, 101, 102, 103, 104, 105, 18] [18] [⟨[88], fun v _ => v = [.slice (some ⟨gx, 0, none⟩) 16 cx]⟩, ⟨[89], fun v _ => v = [.int .i64 (p0 : Int)]⟩, ⟨[90], fun v _ => v = [.pointer (some ⟨gx, p0, none⟩)]⟩, ⟨[91], fun v _ => v = [.int .u32 ((Y.getD p0 0 : Nat) : Int)]⟩, ⟨[92], fun v _ => v = [.slice (some ⟨gx, 0, none⟩) 16 cx]⟩, ⟨[93], fun v _ => v = [.int .i64 (p1 : Int)]⟩, ⟨[94], fun v _ => v = [.pointer (some ⟨gx, p1, none⟩)]⟩, ⟨[95], fun v _ => v = [.int .u32 ((Y.getD p1 0 : Nat) : Int)]⟩, ⟨[96], fun v _ => v = [.slice (some ⟨gx, 0, none⟩) 16 cx]⟩, ⟨[97], fun v _ => v = [.int .i64 (p2 : Int)]⟩, ⟨[98], fun v _ => v = [.pointer (some ⟨gx, p2, none⟩)]⟩, ⟨[99], fun v _ => v = [.int .u32 ((Y.getD p2 0 : Nat) : Int)]⟩, ⟨[100], fun v _ => v = [.slice (some ⟨gx, 0, none⟩) 16 cx]⟩, ⟨[101], fun v _ => v = [.int .i64 (p3 : Int)]⟩, ⟨[102], fun v _ => v = [.pointer (some ⟨gx, p3, none⟩)]⟩, ⟨[103], fun v _ => v = [.int .u32 ((Y.getD p3 0 : Nat) : Int)]⟩, ⟨[104], fun v _ => v = [.agg #[.int .u32 ((Y.getD p0 0 : Nat) : Int), .int .u32 ((Y.getD p1 0 : Nat) : Int), .int .u32 ((Y.getD p2 0 : Nat) : Int), .int .u32 ((Y.getD p3 0 : Nat) : Int)]]⟩, ⟨[105], fun v _ => v = [.agg (ws (quR k Y))]⟩, ⟨[18], IsNew wc.heap.size 51 (ws (List.replicate 4 0))⟩] (Chg Nowhere) (by kernel_rfl) (by kernel_rfl) (by kernel_rfl) (Chg.refl _) Chg.trans' Chg.size (by decide) (Chg.refl Nowhere _).drew ?_ ?_ ?_
                    · exact ⟨fun _ _ _ _ h => h, fun _ _ _ _ h => h, fun _ _ _ _ h => h, fun _ _ _ _ h => h, fun _ _ _ _ h => h, fun _ _ _ _ h => h, fun _ _ _ _ h => h, fun _ _ _ _ h => h, fun _ _ _ _ h => h, fun _ _ _ _ h => h, fun _ _ _ _ h => h, fun _ _ _ _ h => h, fun _ _ _ _ h => h, fun _ _ _ _ h => h, fun _ _ _ _ h => h, fun _ _ _ _ h => h, fun _ _ _ _ h => h, fun _ _ _ _ h => h, fun _ _ _ hR h => IsNew.chg h hR, trivial⟩
                    · simp only [List.take_succ_cons, List.take_zero]
                      refine Steps.cons ?_ (Steps.cons ?_ (Steps.cons ?_ (Steps.cons ?_ (Steps.cons ?_ (Steps.cons ?_ (Steps.cons ?_ (Steps.cons ?_ (Steps.cons ?_ (Steps.cons ?_ (Steps.cons ?_ (Steps.cons ?_ (Steps.cons ?_ (Steps.cons ?_ (Steps.cons ?_ (Steps.cons ?_ (Steps.cons ?_ (Steps.cons ?_ (Steps.cons ?_ Steps.nil))))))))))))))))))
                      · intro x w' hR hd K Q' hK
                        exact wp_move rfl rfl (hK _ _ (Chg.refl _ _) rfl (fun d h1 h2 => by cases h1; simp at h2))
                      · intro x w' hR hd K Q' hK
                        exact wp_move rfl rfl (hK _ _ (Chg.refl _ _) rfl (fun d h1 h2 => by cases h1; simp at h2))
                      · intro x w' hR hd K Q' hK
                        exact wp_index_addr rfl (List.head_eq_of_cons_eq (hd 0 (by kernel_rfl))) (List.head_eq_of_cons_eq (hd 1 (by kernel_rfl))) (ia49 gx p0 16 cx (by have := HP0.out; omega) _) (hK _ _ (Chg.refl _ _) rfl (fun d h1 h2 => by cases h1; simp at h2))
                      · intro x w' hR hd K Q' hK
                        exact wp_load_one rfl (List.head_eq_of_cons_eq (hd 2 (by kernel_rfl))) (ld39 _ _ _ _ ((UX.out.x.same hR).cell (some_getD (by rw [HYL.out]; exact HP0.out)))) (hK _ _ (Chg.refl _ _) rfl (fun d h1 h2 => by cases h1; simp at h2))
                      · intro x w' hR hd K Q' hK
                        exact wp_move rfl rfl (hK _ _ (Chg.refl _ _) rfl (fun d h1 h2 => by cases h1; simp at h2))
                      · intro x w' hR hd K Q' hK
                        exact wp_move rfl rfl (hK _ _ (Chg.refl _ _) rfl (fun d h1 h2 => by cases h1; simp at h2))
                      · intro x w' hR hd K Q' hK
                        exact wp_index_addr rfl (List.head_eq_of_cons_eq (hd 4 (by kernel_rfl))) (List.head_eq_of_cons_eq (hd 5 (by kernel_rfl))) (ia49 gx p1 16 cx (by have := HP1.out; omega) _) (hK _ _ (Chg.refl _ _) rfl (fun d h1 h2 => by cases h1; simp at h2))
                      · intro x w' hR hd K Q' hK
                        exact wp_load_one rfl (List.head_eq_of_cons_eq (hd 6 (by kernel_rfl))) (ld39 _ _ _ _ ((UX.out.x.same hR).cell (some_getD (by rw [HYL.out]; exact HP1.out)))) (hK _ _ (Chg.refl _ _) rfl (fun d h1 h2 => by cases h1; simp at h2))
                      · intro x w' hR hd K Q' hK
                        exact wp_move rfl rfl (hK _ _ (Chg.refl _ _) rfl (fun d h1 h2 => by cases h1; simp at h2))
                      · intro x w' hR hd K Q' hK
                        exact wp_move rfl rfl (hK _ _ (Chg.refl _ _) rfl (fun d h1 h2 => by cases h1; simp at h2))
                      · intro x w' hR hd K Q' hK
                        exact wp_index_addr rfl (List.head_eq_of_cons_eq (hd 8 (by kernel_rfl))) (List.head_eq_of_cons_eq (hd 9 (by kernel_rfl))) (ia49 gx p2 16 cx (by have := HP2.out; omega) _) (hK _ _ (Chg.refl _ _) rfl (fun d h1 h2 => by cases h1; simp at h2))
                      · intro x w' hR hd K Q' hK
                        exact wp_load_one rfl (List.head_eq_of_cons_eq (hd 10 (by kernel_rfl))) (ld39 _ _ _ _ ((UX.out.x.same hR).cell (some_getD (by rw [HYL.out]; exact HP2.out)))) (hK _ _ (Chg.refl _ _) rfl (fun d h1 h2 => by cases h1; simp at h2))
                      · intro x w' hR hd K Q' hK
                        exact wp_move rfl rfl (hK _ _ (Chg.refl _ _) rfl (fun d h1 h2 => by cases h1; simp at h2))
                      · intro x w' hR hd K Q' hK
                        exact wp_move rfl rfl (hK _ _ (Chg.refl _ _) rfl (fun d h1 h2 => by cases h1; simp at h2))
                      · intro x w' hR hd K Q' hK
                        exact wp_index_addr rfl (List.head_eq_of_cons_eq (hd 12 (by kernel_rfl))) (List.head_eq_of_cons_eq (hd 13 (by kernel_rfl))) (ia49 gx p3 16 cx (by have := HP3.out; omega) _) (hK _ _ (Chg.refl _ _) rfl (fun d h1 h2 => by cases h1; simp at h2))
                      · intro x w' hR hd K Q' hK
                        exact wp_load_one rfl (List.head_eq_of_cons_eq (hd 14 (by kernel_rfl))) (ld39 _ _ _ _ ((UX.out.x.same hR).cell (some_getD (by rw [HYL.out]; exact HP3.out)))) (hK _ _ (Chg.refl _ _) rfl (fun d h1 h2 => by cases h1; simp at h2))
                      · intro x w' hR hd K Q' hK
                        exact wp_build_op rfl (four_parts (hd 3 (by kernel_rfl)) (hd 7 (by kernel_rfl)) (hd 11 (by kernel_rfl)) (hd 15 (by kernel_rfl))) (bd51 _ _ _ _ _) (hK _ _ (Chg.refl _ _) rfl (fun d h1 h2 => by cases h1; simp at h2))
                      · intro x w' hR hd K Q' hK
                        have hq : Calls Tryd.prog 27 #[.agg (ws [Y.getD p0 0, Y.getD p1 0, Y.getD p2 0, Y.getD p3 0])] w' (Gives w' (.agg (ws (quR k Y)))) := by
                          have := rquarter_any [Y.getD p0 0, Y.getD p1 0, Y.getD p2 0, Y.getD p3 0] rfl (fun x hx => by simp only [List.mem_cons, List.not_mem_nil, or_false] at hx; rcases hx with rfl | rfl | rfl | rfl <;> exact HYW.out.get _) w'
                          rwa [qst_qr, ← HQL.out] at this
                        exact wp_call_fn rfl enters_rquarter [.agg (ws [Y.getD p0 0, Y.getD p1 0, Y.getD p2 0, Y.getD p3 0])] (hd 16 (by kernel_rfl)) (hq.mono fun e w3 ⟨he, hC3⟩ => ⟨_, he, hK _ _ hC3 rfl (fun d h1 h2 => by cases h1; simp at h2)⟩)
                      · intro x w' hR hd K Q' hK
                        exact wp_alloc_op rfl Tryd.zeroValue51 (hK _ _ ((Chg.refl _ _).alloc _) ⟨_, rfl, hR.size, alloc_new _ _⟩ (fun _ _ _ => ⟨_, rfl, Nat.le_refl _, by simp⟩))
                    · intro x w' hR hV hap
                      have e105 : x 105 = .agg (ws (quR k Y)) := List.head_eq_of_cons_eq (hV 17 (by decide))
                      obtain ⟨b18, h18, B18, C18⟩ := hV 18 (by decide)
                      have e18 : x 18 = .pointer (some ⟨b18, 0, none⟩) := List.head_eq_of_cons_eq h18
                      have HC18 := Lib.hid C18
                      have VX := Lib.hid (UX.out.chg hR)
                      have HD18 := Lib.hid (show b18 ≠ gs ∧ b18 ≠ gx ∧ w.heap.size + 1 + 1 < b18 from (by have a1 := UX.out.s.lt; have a2 := UX.out.x.lt; have a3 := lt_blk UX.out.r; omega))
                      clear hR hV hap h18 C18
                      set_option linter.unusedSimpArgs false in
                      simp only [puts, putsL, List.contains_cons, List.contains_nil, Nat.reduceBEq, Bool.or_true, Bool.true_or, Bool.or_false, Bool.false_eq_true, if_true, if_false, Nat.reduceAdd, List.drop_succ_cons, List.drop_zero, e105, e18]
                      generalize x 88 = x88
                      generalize x 89 = x89
                      generalize x 90 = x90
                      generalize x 91 = x91
                      generalize x 92 = x92
                      generalize x 93 = x93
                      generalize x 94 = x94
                      generalize x 95 = x95
                      generalize x 96 = x96
                      generalize x 97 = x97
                      generalize x 98 = x98
                      generalize x 99 = x99
                      generalize x 100 = x100
                      generalize x 101 = x101
                      generalize x 102 = x102
                      generalize x 103 = x103
                      generalize x 104 = x104
                      clear e105 e18
                      have hIQ : (Tryd.prog.info? 51).map (·.size) = some (ws (quR k Y)).size := info4
                      go_upto_region 26 with (refine wpList_store_row rfl 51 (Operand.tmp 18) (Operand.tmp 105) rfl b18 _ rfl rfl 51 _ HC18.out hIQ rfl (ws_one _) ?_)
                      simp only [Act.put]
                      have HX0 := Lib.hid (show RbX w (w'.setRow b18 (ws (quR k Y))) gs gx ST (quS k 0 Y) from VX.out.row HD18.out.1 HD18.out.2.1 HD18.out.2.2 _)
                      have HQ0 := Lib.hid (show (w'.setRow b18 (ws (quR k Y))).heap[b18]? = some (.cells (ws (quR k Y)) 51 (0, 0)) from row_blk HC18.out)
                      generalize w'.setRow b18 (ws (quR k Y)) = v0 at HX0 HQ0 ⊢
                      obtain ⟨z0, hz0⟩ : ∃ z, z = (quR k Y).getD 0 0 := ⟨_, rfl⟩
                      have cq0 : v0.cell? ⟨b18, 0, none⟩ = some (.int .u32 (z0 : Int)) := (cell_blk HQ0.out (o := 0)).trans (ws_get (by rw [hz0]; exact some_getD (by show 0 < 4; decide)))
                      have HM0' := Lib.hid (show (quS k 0 Y).set p0 z0 = quS k 1 Y by rw [hz0]; exact HM0.out)
                      have HL0 := Lib.hid (show p0 < (quS k 0 Y).length by rw [quS_len, HYL.out]; exact HP0.out)
                      obtain ⟨o0, ho0⟩ : ∃ v, (quS k 0 Y)[p0]? = some v := ⟨_, List.getElem?_eq_getElem HL0.out⟩
                      have cx0 := HX0.out.x.cell ho0
                      have fx0 : v0.frozen? ⟨gx, p0, none⟩ = false := HX0.out.x.frozen
                      have hp0 : (p0 : Int) < 16 := by have := HP0.out; omega
                      clear hz0 ho0
                      go_upto_region 27 with fail
                      show Code.wp _ _ _ _ (v0.setCell ⟨gx, p0, none⟩ (.int .u32 (z0 : Int)))
                      have HX1 := Lib.hid (show RbX w (v0.setCell ⟨gx, p0, none⟩ (.int .u32 (z0 : Int))) gs gx ST (quS k 1 Y) by rw [← HM0'.out]; exact HX0.out.put HL0.out _)
                      have HQ1 := Lib.hid (show (v0.setCell ⟨gx, p0, none⟩ (.int .u32 (z0 : Int))).heap[b18]? = some (.cells (ws (quR k Y)) 51 (0, 0)) from (set_other _ (by exact HD18.out.2.1)).trans HQ0.out)
                      generalize v0.setCell ⟨gx, p0, none⟩ (.int .u32 (z0 : Int)) = v1 at HX1 HQ1 ⊢
                      clear cq0 cx0 fx0 HX0 HQ0
                      obtain ⟨z1, hz1⟩ : ∃ z, z = (quR k Y).getD 1 0 := ⟨_, rfl⟩
                      have cq1 : v1.cell? ⟨b18, 1, none⟩ = some (.int .u32 (z1 : Int)) := (cell_blk HQ1.out (o := 1)).trans (ws_get (by rw [hz1]; exact some_getD (by show 1 < 4; decide)))
                      have HM1' := Lib.hid (show (quS k 1 Y).set p1 z1 = quS k 2 Y by rw [hz1]; exact HM1.out)
                      have HL1 := Lib.hid (show p1 < (quS k 1 Y).length by rw [quS_len, HYL.out]; exact HP1.out)
                      obtain ⟨o1, ho1⟩ : ∃ v, (quS k 1 Y)[p1]? = some v := ⟨_, List.getElem?_eq_getElem HL1.out⟩
                      have cx1 := HX1.out.x.cell ho1
                      have fx1 : v1.frozen? ⟨gx, p1, none⟩ = false := HX1.out.x.frozen
                      have hp1 : (p1 : Int) < 16 := by have := HP1.out; omega
                      clear hz1 ho1
                      go_upto_region 28 with fail
                      show Code.wp _ _ _ _ (v1.setCell ⟨gx, p1, none⟩ (.int .u32 (z1 : Int)))
                      have HX2 := Lib.hid (show RbX w (v1.setCell ⟨gx, p1, none⟩ (.int .u32 (z1 : Int))) gs gx ST (quS k 2 Y) by rw [← HM1'.out]; exact HX1.out.put HL1.out _)
                      have HQ2 := Lib.hid (show (v1.setCell ⟨gx, p1, none⟩ (.int .u32 (z1 : Int))).heap[b18]? = some (.cells (ws (quR k Y)) 51 (0, 0)) from (set_other _ (by exact HD18.out.2.1)).trans HQ1.out)
                      generalize v1.setCell ⟨gx, p1, none⟩ (.int .u32 (z1 : Int)) = v2 at HX2 HQ2 ⊢
                      clear cq1 cx1 fx1 HX1 HQ1
                      obtain ⟨z2, hz2⟩ : ∃ z, z = (quR k Y).getD 2 0 := ⟨_, rfl⟩
                      have cq2 : v2.cell? ⟨b18, 2, none⟩ = some (.int .u32 (z2 : Int)) := (cell_blk HQ2.out (o := 2)).trans (ws_get (by rw [hz2]; exact some_getD (by show 2 < 4; decide)))
                      have HM2' := Lib.hid (show (quS k 2 Y).set p2 z2 = quS k 3 Y by rw [hz2]; exact HM2.out)
                      have HL2 := Lib.hid (show p2 < (quS k 2 Y).length by rw [quS_len, HYL.out]; exact HP2.out)
                      obtain ⟨o2, ho2⟩ : ∃ v, (quS k 2 Y)[p2]? = some v := ⟨_, List.getElem?_eq_getElem HL2.out⟩
                      have cx2 := HX2.out.x.cell ho2
                      have fx2 : v2.frozen? ⟨gx, p2, none⟩ = false := HX2.out.x.frozen
                      have hp2 : (p2 : Int) < 16 := by have := HP2.out; omega
                      clear hz2 ho2
                      go_upto_region 29 with fail
                      show Code.wp _ _ _ _ (v2.setCell ⟨gx, p2, none⟩ (.int .u32 (z2 : Int)))
                      have HX3 := Lib.hid (show RbX w (v2.setCell ⟨gx, p2, none⟩ (.int .u32 (z2 : Int))) gs gx ST (quS k 3 Y) by rw [← HM2'.out]; exact HX2.out.put HL2.out _)
                      have HQ3 := Lib.hid (show (v2.setCell ⟨gx, p2, none⟩ (.int .u32 (z2 : Int))).heap[b18]? = some (.cells (ws (quR k Y)) 51 (0, 0)) from (set_other _ (by exact HD18.out.2.1)).trans HQ2.out)
                      generalize v2.setCell ⟨gx, p2, none⟩ (.int .u32 (z2 : Int)) = v3 at HX3 HQ3 ⊢
                      clear cq2 cx2 fx2 HX2 HQ2
                      obtain ⟨z3, hz3⟩ : ∃ z, z = (quR k Y).getD 3 0 := ⟨_, rfl⟩
                      have cq3 : v3.cell? ⟨b18, 3, none⟩ = some (.int .u32 (z3 : Int)) := (cell_blk HQ3.out (o := 3)).trans (ws_get (by rw [hz3]; exact some_getD (by show 3 < 4; decide)))
                      have HM3' := Lib.hid (show (quS k 3 Y).set p3 z3 = quS k 4 Y by rw [hz3]; exact HM3.out)
                      have HL3 := Lib.hid (show p3 < (quS k 3 Y).length by rw [quS_len, HYL.out]; exact HP3.out)
                      obtain ⟨o3, ho3⟩ : ∃ v, (quS k 3 Y)[p3]? = some v := ⟨_, List.getElem?_eq_getElem HL3.out⟩
                      have cx3 := HX3.out.x.cell ho3
                      have fx3 : v3.frozen? ⟨gx, p3, none⟩ = false := HX3.out.x.frozen
                      have hp3 : (p3 : Int) < 16 := by have := HP3.out; omega
                      clear hz3 ho3
                      go_wp2_with fail
                      go_roundw
                      case rel => exact ⟨k + 1, by omega, by go_num, (by rw [← HPE.out, ← HM3'.out]; exact HX3.out.put HL3.out _)⟩
                      case measure => simp [intOf]; omega
                · have HQ := Lib.hid (show Y = itr (fun _ x => itr quart 8 x) (n + 1) ST by rw [rnds_succ, ← HXE.out, HYE.out, show k = 8 by omega])
                  rw [HQ.out] at HX
                  go_wp2_with fail
                  go_roundw
                  case rel => exact ⟨n + 1, by omega, by go_num, HX.out⟩
                  case measure => simp [intOf]; omega
            · obtain ⟨OUT, hO⟩ : ∃ OUT, OUT = block key ctr nonce := ⟨_, rfl⟩
              have HOL := Lib.hid (show OUT.length = 64 by rw [hO, block_len])
              have HOE := Lib.hid hO
              obtain ⟨BW, hBW⟩ : ∃ BW, BW = blockW key ctr nonce := ⟨_, rfl⟩
              have HBO := Lib.hid (show ∀ (i k x : Nat), BW[i]? = some x → k < 4 → OUT[4 * i + k]? = some (x / 256 ^ k % 256) from fun i k x h hk => by rw [hO]; rw [hBW] at h; exact block_get h hk)
              have HBWE := Lib.hid hBW
              clear hBW hO
              have HI64 := Lib.hid (show InfoArr 43 (bs (List.replicate 64 0)).size by rw [bs_size]; exact info64)
              go_upto_region 31 with (refine wpList_store_row rfl 43 (Operand.tmp 19) (Operand.tmp 126) rfl wr.heap.size (bs (List.replicate 64 0)) rfl rfl 43 (bs (List.replicate 64 0)) (alloc_new _ _) HI64.out rfl (bs_one _) ?_)
              simp only [Act.put]
              show Code.wp _ _ _ _ ((wr.alloc (.cells (bs (List.replicate 64 0)) 43)).setRow wr.heap.size (bs (List.replicate 64 0)))
              have HX0 := Lib.hid (show RbX w ((wr.alloc (.cells (bs (List.replicate 64 0)) 43)).setRow wr.heap.size (bs (List.replicate 64 0))) gs gx ST X from (HX.out.chg ((Chg.refl Nowhere wr).alloc _)).row (by have := HX.out.s.lt; omega) (by have := HX.out.x.lt; omega) (by have := lt_blk HX.out.r; omega) _)
              have HO0 := Lib.hid (show ((wr.alloc (.cells (bs (List.replicate 64 0)) 43)).setRow wr.heap.size (bs (List.replicate 64 0))).heap[wr.heap.size]? = some (.cells (bs (fillTo 0 OUT (4 * 0))) 43 (0, 0)) by rw [Nat.mul_zero, fill_zero, HOL.out]; exact row_blk (alloc_new _ _))
              have HD := Lib.hid (show wr.heap.size ≠ gs ∧ wr.heap.size ≠ gx ∧ w.heap.size + 1 + 1 < wr.heap.size from (by have a1 := HX.out.s.lt; have a2 := HX.out.x.lt; have a3 := lt_blk HX.out.r; omega))
              generalize (wr.alloc (.cells (bs (List.replicate 64 0)) 43)).setRow wr.heap.size (bs (List.replicate 64 0)) = w5 at HX0 HO0 ⊢
              generalize wr.heap.size = g5 at HO0 HD ⊢
              go_wp2_with fail
              go_loopw [20] (fun i wr => ∃ m : Nat, m ≤ 16 ∧ i = .int .i64 m ∧ RbX w wr gs gx ST X ∧ wr.heap[g5]? = some (.cells (bs (fillTo 0 OUT (4 * m))) 43 (0, 0))) (fun i _ => 16 - (intOf i).toNat)
              case atStart => exact ⟨0, by omega, rfl, HX0.out, HO0.out⟩
              case round =>
                obtain ⟨m, hm, rfl, hX, hO⟩ := hrel
                clear HX HX0 HO0
                have HX := Lib.hid hX
                have HO := Lib.hid hO
                clear hX hO
                by_cases hm2 : m < 16
                · have hd16 : decide ((m : Int) < 16) = true := decide_eq_true (by omega)
                  obtain ⟨a, ha⟩ : ∃ a, a = X.getD m 0 := ⟨_, rfl⟩
                  obtain ⟨b, hb⟩ : ∃ b, b = ST.getD m 0 := ⟨_, rfl⟩
                  have ca : wr.cell? ⟨gx, m, none⟩ = some (.int .u32 (a : Int)) := HX.out.x.cell (by rw [ha]; exact some_getD (by rw [HXL.out]; exact hm2))
                  have cb : wr.cell? ⟨gs, m, none⟩ = some (.int .u32 (b : Int)) := HX.out.s.cell (by rw [hb]; exact some_getD (by rw [HSL.out]; exact hm2))
                  obtain ⟨v, hv, hve, Ev⟩ := add_nm a b
                  have HBW := Lib.hid (show BW[m]? = some v from HBWE.out ▸ blockW_get' hm2 (by omega) HST.out HXE.out ha hb hve)
                  have HO0 := Lib.hid (show wr.heap[g5]? = some (.cells (bs (fillTo 0 OUT (4 * m + 0))) 43 (0, 0)) from HO.out)
                  clear ha hb hve hv
                  go_wp2_with fail
                  go_quiet (fail)
                  go_wp2_with fail
                  go_loopw [22] (fun i wr => ∃ k : Nat, k ≤ 4 ∧ i = .int .i64 k ∧ RbX w wr gs gx ST X ∧ wr.heap[g5]? = some (.cells (bs (fillTo 0 OUT (4 * m + k))) 43 (0, 0))) (fun i _ => 4 - (intOf i).toNat)
                  case atStart => exact ⟨0, by omega, rfl, HX.out.chg ((Chg.refl _ _).drewN _), HO0.out⟩
                  case round =>
                    obtain ⟨k, hk, rfl, hX, hO⟩ := hrel
                    clear HX HO HO0 ca cb
                    have HX := Lib.hid hX
                    have HO := Lib.hid hO
                    clear hX hO
                    by_cases hk2 : k < 4
                    · have HB := Lib.hid (show OUT[4 * m + k]? = some (v / 256 ^ k % 256) from HBO.out _ _ _ HBW.out hk2)
                      obtain ⟨u, hu⟩ : ∃ u, u = v / 256 ^ k % 256 := ⟨_, rfl⟩
                      have E2 : (v : Int) / 2 ^ (8 * k) % 256 = (u : Int) := by rw [hu, byte_of]
                      rw [← hu] at HB
                      obtain ⟨z, hz⟩ := fill_getD OUT (k := 4 * m + k) (by rw [HOL.out]; omega)
                      have co := (cell_blk HO.out (o := 4 * m + k)).trans (bs_get hz)
                      have fo : wr.frozen? ⟨g5, 4 * m + k, none⟩ = false := frozen_blk HO.out
                      clear hu hz
                      go_wp2_with fail
                      go_roundw
                      case rel => exact ⟨k + 1, by omega, by go_num, HX.out.other HD.out.1 HD.out.2.1 HD.out.2.2 _ _, (set_blk _ HO.out).trans (by rw [bs_set, fill_set 0 OUT HB.out, Nat.add_assoc])⟩
                      case measure => simp [intOf]; omega
                    · have HF := Lib.hid (show fillTo 0 OUT (4 * m + k) = fillTo 0 OUT (4 * (m + 1)) by rw [show k = 4 by omega, Nat.mul_succ])
                      rw [HF.out] at HO
                      go_wp2_with fail
                      go_roundw
                      case rel => first | exact ⟨m + 1, by omega, by go_num, HX.out, HO.out⟩ | ((repeat apply Exists.intro); refine ⟨?_, rfl⟩; exact ⟨m + 1, by omega, by go_num, HX.out, HO.out⟩)
                      case measure => simp [intOf]; omega
                · have HF := Lib.hid (show fillTo 0 OUT (4 * m) = OUT by rw [fill_all 0 OUT (by rw [HOL.out]; omega)])
                  rw [HF.out] at HO
                  have HIO := Lib.hid (show InfoArr 43 (bs OUT).size by rw [bs_size, HOL.out]; exact info64)
                  go_wp2_with (first | (refine wpList_load_row rfl 43 (Operand.tmp 19) rfl g5 rfl 43 _ (0, 0) _ HO.out Tryd.underlying43 rfl HIO.out ?_) | (refine wpList_store_row rfl 43 (Operand.tmp 6) (Operand.tmp 154) rfl (w.heap.size + 1 + 1) _ rfl rfl 43 _ HX.out.r HIO.out (by rw [bs_size, bs_size, HOL.out]; rfl) (bs_one _) ?_))
                  refine bodyPost_ret (results_cell_row rfl _ _ (w.heap.size + 1 + 1) _ _ (0, 0) _ rfl (row_blk HX.out.r) Tryd.underlying43 rfl HIO.out) rfl ⟨by rw [HOE.out], HX.out.c.putRow (.inr (by omega))⟩
end Go.Proofs.YtebmbapaedlmiaaDoor
