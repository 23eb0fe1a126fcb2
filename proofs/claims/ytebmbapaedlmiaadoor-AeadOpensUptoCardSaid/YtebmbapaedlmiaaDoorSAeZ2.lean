/-
  Package aead: Open (the walk).
  Package aead: the document's examples (plain: no program in sight).
-/
import Derived.Test.YtebmbapaedlmiaaDoorSCalm2

namespace Go.Proofs.YtebmbapaedlmiaaDoor
open Go.RowKit Ae
set_option linter.unusedVariables false

/-- A slice of bytes and an error's number. -/
def GivesT (w : World) (l : List Nat) (n : Nat) : Ending → World → Prop := fun e w' => ∃ v, e = .returned (.tuple #[v, .int .i64 (n : Int)]) ∧ RdB w' v l ∧ Chg Nowhere w w'
theorem enters_same : Enters Tryd.prog 17 := enters_of Tryd.func17 (by kernel_rfl) rfl
theorem enters_xor : Enters Tryd.prog 14 := enters_of Tryd.func14 (by kernel_rfl) rfl
theorem one_const {x : Nat → Value} {d f g : Nat} {u c s t : Value} (h1 : [x d] = [u]) (h3 : [x f] = [s]) (h4 : [x g] = [t]) : [x d, c, x f, x g] = [u, c, s, t] := by rw [List.head_eq_of_cons_eq h1, List.head_eq_of_cons_eq h3, List.head_eq_of_cons_eq h4]
set_option maxHeartbeats 2000000 in
set_option maxRecDepth 100000 in
theorem open_short (k nn v x : Value) (m : List Nat) (w : World) (hx : RdB w x m) (hm : m.length < 16) (cs1 cs2 : Array Value) (hk : k = .agg cs1) (hn : nn = .agg cs2) :
    Calls Tryd.prog 11 #[k, nn, v, x] w (GivesT w [] 3) := by
  subst hk hn
  obtain ⟨n, hnn⟩ : ∃ n, n = m.length := ⟨_, rfl⟩
  obtain ⟨-, A2, c2, rfl, hnc2, -⟩ := hx
  rw [← hnn] at hnc2 hm ⊢
  clear hnn
  go_enter Tryd.func11, Tryd.ntmps11
  have hd : decide ((n : Int) - 16 < 0) = true := decide_eq_true (by omega)
  go_wp2_with fail
  refine bodyPost_ret (v := .tuple #[.slice .none 0 0, .int .i64 3]) (by simp [results, Tryd.results11, go_sem]) rfl ?_
  exact ⟨_, rfl, rd_none _ _ _ _ rfl, ((Chg.refl Nowhere w).alloc _).alloc _⟩
set_option maxHeartbeats 2000000 in
set_option maxRecDepth 100000 in
theorem open_any (key nonce : List Nat) (hk : key.length = 32) (hkb : Byt key) (hn : nonce.length = 12) (hnb : Byt nonce) (v x : Value) (l m : List Nat) (n : Nat) (w : World) (h : RdB w v l) (hx : RdB w x m) (hb : Byt l) (hmb : Byt m) (hl : l.length ≤ 40000000) (hm : m.length = n + 16) (hnl : n ≤ 40000000) (hg : Glob w) :
    Calls Tryd.prog 11 #[.agg (bs key), .agg (bs nonce), v, x] w (GivesT w (if tagL key nonce l (m.take n) = m.drop n then xors key 1 nonce (m.take n) else []) (if tagL key nonce l (m.take n) = m.drop n then 0 else 70)) := by
  obtain ⟨M, hM⟩ : ∃ M, M = m.take n := ⟨_, rfl⟩
  obtain ⟨D, hD⟩ : ∃ D, D = m.drop n := ⟨_, rfl⟩
  rw [← hM, ← hD]
  obtain ⟨T, hT⟩ : ∃ T, T = tagL key nonce l M := ⟨_, rfl⟩
  obtain ⟨O, hO⟩ : ∃ O, O = xors key 1 nonce M := ⟨_, rfl⟩
  rw [← hT, ← hO]
  have hMl : M.length = n := by rw [hM, List.length_take, hm]; omega
  have hMb : Byt M := by rw [hM]; exact hmb.take n
  have hDl : D.length = 16 := by rw [hD, List.length_drop, hm]; omega
  have hDb : Byt D := by rw [hD]; exact hmb.drop n
  have hTl : T.length = 16 := by rw [hT]; exact tagL_len _ _ _ _
  have hTb : Byt T := by rw [hT]; exact tagL_byt _ _ _ _
  have HOL := Lib.hid (show O.length = n by rw [hO, xors_len, hMl])
  have HCX := Lib.hid (show ∀ w1 s, Chg Nowhere w w1 → RdB w1 s M → Calls Tryd.prog 14 #[.agg (bs key), .int .u32 1, .agg (bs nonce), s] w1 (GivesB w1 O) from fun w1 s hc hs => by rw [hO]; exact xor_any key nonce 1 hk hkb hn hnb s M w1 hs hMb (by omega) (hg.chg hc) (by omega))
  have HCT := Lib.hid (show ∀ w1 s, Chg Nowhere w w1 → RdB w1 s M → Calls Tryd.prog 15 #[.agg (bs key), .agg (bs nonce), v, s] w1 (Gives w1 (.agg (bs T))) from fun w1 s hc hs => by rw [hT]; exact tag_any key nonce hk hkb hn hnb v s l M w1 (h.same hc) hs hb hMb hl (by omega) (hg.chg hc))
  obtain ⟨tb, htb⟩ : ∃ b, b = decide (T = D) := ⟨_, rfl⟩
  obtain ⟨R, hRR⟩ : ∃ R, R = if T = D then O else [] := ⟨_, rfl⟩
  obtain ⟨E, hEE⟩ : ∃ R, R = if T = D then 0 else 70 := ⟨_, rfl⟩
  rw [← hRR, ← hEE]
  have HRE := Lib.hid (show (tb = true → R = O ∧ E = 0) ∧ (tb = false → R = [] ∧ E = 70) from ⟨fun h => by
    have e : T = D := by rw [htb, decide_eq_true_eq] at h; exact h
    rw [hRR, hEE, if_pos e, if_pos e]; exact ⟨rfl, rfl⟩, fun h => by
    have e : ¬ T = D := by rw [htb, decide_eq_false_iff_not] at h; exact h
    rw [hRR, hEE, if_neg e, if_neg e]; exact ⟨rfl, rfl⟩⟩)
  have HCS := Lib.hid (show ∀ w1, Calls Tryd.prog 17 #[.agg (bs T), .agg (bs D)] w1 (Gives w1 (.bool tb)) from fun w1 => by rw [htb]; exact same_any T D hTl hTb hDl hDb w1)
  have HIK := Lib.hid (show InfoArr 23 (bs key).size by rw [bs_size, hk]; exact info32)
  have HIN := Lib.hid (show InfoArr 25 (bs nonce).size by rw [bs_size, hn]; exact info12)
  have hu1 := Tryd.underlying23
  have hu2 := Tryd.underlying25
  have hu3 := Tryd.underlying36
  have hi1 : (Tryd.prog.info? 23).map (·.size) = some (bl key).length := by have := HIK.out; rwa [InfoArr, bs_size, ← bl_len] at this
  have hi2 : (Tryd.prog.info? 25).map (·.size) = some (bl nonce).length := by have := HIN.out; rwa [InfoArr, bs_size, ← bl_len] at this
  have hi3 : (Tryd.prog.info? 36).map (·.size) = some (bl D).length := by rw [bl_len, hDl]; exact info16
  have HX := Lib.hid hx
  obtain ⟨-, A, c, rfl, hnc, -⟩ := h
  obtain ⟨-, A2, c2, rfl, hnc2, hA2⟩ := hx
  obtain ⟨g, o, rfl, hgl, hcell⟩ := hA2 (by omega)
  have HRD := Lib.hid (show w.rangeAt g (o + n) (bl D) from fun j u hj => by
    rw [hD, ← bl_drop, List.getElem?_drop] at hj
    rw [Nat.add_assoc, hcell (n + j) (List.getElem?_eq_some_iff.1 hj).1]
    exact hj)
  have HMX := Lib.hid (show ∀ w1 cc, n ≤ cc → cc ≤ c2 → Chg Nowhere w w1 → RdB w1 (cutB (some ⟨g, o, none⟩) 0 n cc) M from fun w1 cc h1 h2 hc => by
    have := (HX.out.same hc).cut (lo := 0) (hi := n) (m := cc) (Nat.zero_le _) (by omega) h1 h2
    rwa [List.drop_zero, Nat.sub_zero, ← hM] at this)
  have hcut : cutB (some ⟨g, o, none⟩) n (n + 16) c2 = .slice (some ⟨g, o + n, none⟩) 16 (c2 - n) := by
    unfold cutB
    rw [if_neg (by omega), show n + 16 - n = 16 by omega]
    simp [Addr.add]
  have HCUT := Lib.hid hcut
  have HHD := Lib.hid hgl
  rw [hm]
  rw [hm] at hnc2
  clear htb hRR hEE hO hT hM hD hk hkb hn hnb hb hmb hg hMl hMb hDl hDb hTl hTb hA2 hcell hcut hgl HX hm
  have HC0 := Lib.hid (((Chg.refl Nowhere w).alloc (.cells (bs key) 23)).alloc (.cells (bs nonce) 25))
  have HRK := Lib.hid (show ((w.alloc (.cells (bs key) 23)).alloc (.cells (bs nonce) 25)).rangeAt w.heap.size 0 (bl key) from rangeAt_blk (alloc_old (alloc_new _ _)))
  have HRN := Lib.hid (show ((w.alloc (.cells (bs key) 23)).alloc (.cells (bs nonce) 25)).rangeAt (w.heap.size + 1) 0 (bl nonce) from rangeAt_blk (new_1 _ _ _))
  have hd0 : decide ((n : Int) < 0) = false := decide_eq_false (by omega)
  have hsub : ((n : Int) + 16) - 16 = (n : Int) := by omega
  go_enter Tryd.func11, Tryd.ntmps11
  go_wp2_with fail
  refine wp_region_calm0 14 [16, 17, 18, 19, 20, 21, 22, 23, 24, 25, 26, 27, 28, 29] [] [⟨[16], fun v _ => v = [.agg (bs key)]⟩, ⟨[17], fun v _ => v = [.agg (bs nonce)]⟩, ⟨[18], fun v _ => v = [.slice A l.length c]⟩, ⟨[19], fun v _ => v = [.slice (some ⟨g, o, none⟩) (n + 16) c2]⟩, ⟨[20], fun v _ => v = [.int .i64 (n : Int)]⟩, ⟨[21], fun v _ => v = [.int .i64 (n : Int)]⟩, ⟨[22], fun v _ => v = [cutB (some ⟨g, o, none⟩) 0 n n]⟩, ⟨[23], fun v _ => v = [.agg (bs T)]⟩, ⟨[24], fun v _ => v = [.slice (some ⟨g, o, none⟩) (n + 16) c2]⟩, ⟨[25], fun v _ => v = [.int .i64 (n : Int)]⟩, ⟨[26], fun v _ => v = [.slice (some ⟨g, o + n, none⟩) 16 (c2 - n)]⟩, ⟨[27], fun v _ => v = [.pointer (some ⟨g, o + n, none⟩)]⟩, ⟨[28], fun v _ => v = [.agg (bs D)]⟩, ⟨[29], fun v _ => v = [.bool tb]⟩] (Chg Nowhere) (by kernel_rfl) (by kernel_rfl) (by kernel_rfl) (Chg.refl _) Chg.trans' Chg.size (by decide) (Chg.refl Nowhere _).drew ?_ ?_ ?_
  · exact ⟨fun _ _ _ _ h => h, fun _ _ _ _ h => h, fun _ _ _ _ h => h, fun _ _ _ _ h => h, fun _ _ _ _ h => h, fun _ _ _ _ h => h, fun _ _ _ _ h => h, fun _ _ _ _ h => h, fun _ _ _ _ h => h, fun _ _ _ _ h => h, fun _ _ _ _ h => h, fun _ _ _ _ h => h, fun _ _ _ _ h => h, fun _ _ _ _ h => h, trivial⟩
  · simp only [List.take_succ_cons, List.take_zero]
    refine Steps.cons ?_ (Steps.cons ?_ (Steps.cons ?_ (Steps.cons ?_ (Steps.cons ?_ (Steps.cons ?_ (Steps.cons ?_ (Steps.cons ?_ (Steps.cons ?_ (Steps.cons ?_ (Steps.cons ?_ (Steps.cons ?_ (Steps.cons ?_ (Steps.cons ?_ Steps.nil)))))))))))))
    · intro x w' hR hd K Q' hK
      exact wp_load_mid 23 (Operand.tmp 4) rfl w.heap.size 0 rfl (bl key) _ (rangeAt_chg HRK.out hR) hu1 rfl hi1 (hK _ _ (Chg.refl _ _) rfl (fun d h1 h2 => by simp at h2))
    · intro x w' hR hd K Q' hK
      exact wp_load_mid 25 (Operand.tmp 5) rfl (w.heap.size + 1) 0 rfl (bl nonce) _ (rangeAt_chg HRN.out hR) hu2 rfl hi2 (hK _ _ (Chg.refl _ _) rfl (fun d h1 h2 => by simp at h2))
    · intro x w' hR hd K Q' hK
      exact wp_move rfl rfl (hK _ _ (Chg.refl _ _) rfl (fun d h1 h2 => by simp at h2))
    · intro x w' hR hd K Q' hK
      exact wp_move rfl rfl (hK _ _ (Chg.refl _ _) rfl (fun d h1 h2 => by simp at h2))
    · intro x w' hR hd K Q' hK
      exact wp_move rfl rfl (hK _ _ (Chg.refl _ _) rfl (fun d h1 h2 => by simp at h2))
    · intro x w' hR hd K Q' hK
      exact wp_move rfl rfl (hK _ _ (Chg.refl _ _) rfl (fun d h1 h2 => by simp at h2))
    · intro x w' hR hd K Q' hK
      exact wp_slice_of rfl (List.head_eq_of_cons_eq (hd 3 (by kernel_rfl))) rfl (congrArg some (List.head_eq_of_cons_eq (hd 4 (by kernel_rfl)))) (congrArg some (List.head_eq_of_cons_eq (hd 5 (by kernel_rfl)))) (cut_hm w' (some ⟨g, o, none⟩) (n + 16) c2 n n (Nat.le_refl _) (by omega)) (hK _ _ (Chg.refl _ _) rfl (fun d h1 h2 => by simp at h2))
    · intro x w' hR hd K Q' hK
      exact wp_call_fn rfl enters_tag [.agg (bs key), .agg (bs nonce), .slice A l.length c, cutB (some ⟨g, o, none⟩) 0 n n] (four_slots (hd 0 (by kernel_rfl)) (hd 1 (by kernel_rfl)) (hd 2 (by kernel_rfl)) (hd 6 (by kernel_rfl))) ((HCT.out w' _ (HC0.out.then_none hR) (HMX.out _ _ (Nat.le_refl _) (by omega) (HC0.out.then_none hR))).mono fun e w1 ⟨he, hC1⟩ => ⟨_, he, hK _ _ hC1 rfl (fun d h1 h2 => by simp at h2)⟩)
    · intro x w' hR hd K Q' hK
      exact wp_move rfl rfl (hK _ _ (Chg.refl _ _) rfl (fun d h1 h2 => by simp at h2))
    · intro x w' hR hd K Q' hK
      exact wp_move rfl rfl (hK _ _ (Chg.refl _ _) rfl (fun d h1 h2 => by simp at h2))
    · intro x w' hR hd K Q' hK
      exact wp_slice_of rfl (List.head_eq_of_cons_eq (hd 8 (by kernel_rfl))) (congrArg some (List.head_eq_of_cons_eq (hd 9 (by kernel_rfl)))) rfl rfl (cut_l w' (some ⟨g, o, none⟩) (n + 16) c2 n (by omega)) (hK _ _ (Chg.refl _ _) (congrArg (fun z => [z]) HCUT.out) (fun d h1 h2 => by simp at h2))
    · intro x w' hR hd K Q' hK
      exact wp_array_at rfl (List.head_eq_of_cons_eq (hd 10 (by kernel_rfl))) (at_tag _ _ _) (hK _ _ (Chg.refl _ _) rfl (fun d h1 h2 => by simp at h2))
    · intro x w' hR hd K Q' hK
      exact wp_load_mid 36 (Operand.tmp 27) rfl g (o + n) (List.head_eq_of_cons_eq (hd 11 (by kernel_rfl))) (bl D) _ (rangeAt_chg HRD.out (HC0.out.then_none hR)) hu3 rfl hi3 (hK _ _ (Chg.refl _ _) rfl (fun d h1 h2 => by simp at h2))
    · intro x w' hR hd K Q' hK
      exact wp_call_fn rfl enters_same [.agg (bs T), .agg (bs D)] (two_slots (hd 7 (by kernel_rfl)) (hd 12 (by kernel_rfl))) ((HCS.out w').mono fun e w1 ⟨he, hC1⟩ => ⟨_, he, hK _ _ hC1 rfl (fun d h1 h2 => by simp at h2)⟩)
  · intro x w' hR hV hap
    have e29 : x 29 = .bool tb := List.head_eq_of_cons_eq (hV 13 (by decide))
    have HC1 := Lib.hid (HC0.out.then_none hR)
    have HRK1 := Lib.hid (rangeAt_chg HRK.out hR)
    have HRN1 := Lib.hid (rangeAt_chg HRN.out hR)
    clear hR hV hap
    set_option linter.unusedSimpArgs false in
    simp only [puts, putsL, List.contains_cons, List.contains_nil, Nat.reduceBEq, Bool.or_true, Bool.true_or, Bool.or_false, Bool.false_eq_true, if_true, if_false, Nat.reduceAdd, List.drop_succ_cons, List.drop_zero, e29]
    clear e29
    cases tb with
    | false =>
      obtain ⟨h1, h2⟩ := HRE.out.2 rfl
      subst h1 h2
      go_wp2_with fail
      refine bodyPost_ret (v := .tuple #[.slice .none 0 0, .int .i64 70]) (by simp [results, Tryd.results11, go_sem]) rfl ?_
      exact ⟨_, rfl, rd_none _ _ _ _ rfl, HC1.out⟩
    | true =>
      obtain ⟨h1, h2⟩ := HRE.out.1 rfl
      subst h1 h2
      clear HRE HCT HCS HRK HRN HRD HCUT
      go_wp2_with fail
      refine wp_region_calm0 6 [31, 32, 33, 34, 35, 36] [] [⟨[31], fun v _ => v = [.agg (bs key)]⟩, ⟨[32], fun v _ => v = [.agg (bs nonce)]⟩, ⟨[33], fun v _ => v = [.slice (some ⟨g, o, none⟩) (n + 16) c2]⟩, ⟨[34], fun v _ => v = [.int .i64 (n : Int)]⟩, ⟨[35], fun v _ => v = [cutB (some ⟨g, o, none⟩) 0 n c2]⟩, ⟨[36], fun v w2 => ∃ b, v = [.slice (some ⟨b, 0, none⟩) R.length R.length] ∧ w2.heap[b]? = some (.cells (bs R) 5 (0, 0))⟩] (Chg Nowhere) (by kernel_rfl) (by kernel_rfl) (by kernel_rfl) (Chg.refl _) Chg.trans' Chg.size (by decide) (Chg.refl Nowhere _).drew ?_ ?_ ?_
      · exact ⟨fun _ _ _ _ h => h, fun _ _ _ _ h => h, fun _ _ _ _ h => h, fun _ _ _ _ h => h, fun _ _ _ _ h => h, fun _ _ _ hR ⟨b, h1, h2⟩ => ⟨b, h1, hR.same h2⟩, trivial⟩
      · simp only [List.take_succ_cons, List.take_zero]
        refine Steps.cons ?_ (Steps.cons ?_ (Steps.cons ?_ (Steps.cons ?_ (Steps.cons ?_ (Steps.cons ?_ Steps.nil)))))
        · intro x w' hR hd K Q' hK
          exact wp_load_mid 23 (Operand.tmp 4) rfl w.heap.size 0 rfl (bl key) _ (rangeAt_chg HRK1.out hR) hu1 rfl hi1 (hK _ _ (Chg.refl _ _) rfl (fun d h1 h2 => by simp at h2))
        · intro x w' hR hd K Q' hK
          exact wp_load_mid 25 (Operand.tmp 5) rfl (w.heap.size + 1) 0 rfl (bl nonce) _ (rangeAt_chg HRN1.out hR) hu2 rfl hi2 (hK _ _ (Chg.refl _ _) rfl (fun d h1 h2 => by simp at h2))
        · intro x w' hR hd K Q' hK
          exact wp_move rfl rfl (hK _ _ (Chg.refl _ _) rfl (fun d h1 h2 => by simp at h2))
        · intro x w' hR hd K Q' hK
          exact wp_move rfl rfl (hK _ _ (Chg.refl _ _) rfl (fun d h1 h2 => by simp at h2))
        · intro x w' hR hd K Q' hK
          exact wp_slice_of rfl (List.head_eq_of_cons_eq (hd 2 (by kernel_rfl))) rfl (congrArg some (List.head_eq_of_cons_eq (hd 3 (by kernel_rfl)))) rfl (cut_h w' (some ⟨g, o, none⟩) (n + 16) c2 n (by omega)) (hK _ _ (Chg.refl _ _) rfl (fun d h1 h2 => by simp at h2))
        · intro x w' hR hd K Q' hK
          exact wp_call_fn rfl enters_xor [.agg (bs key), .int .u32 1, .agg (bs nonce), cutB (some ⟨g, o, none⟩) 0 n c2] (one_const (hd 0 (by kernel_rfl)) (hd 1 (by kernel_rfl)) (hd 4 (by kernel_rfl))) ((HCX.out w' _ (HC1.out.then_none hR) (HMX.out _ _ (by omega) (Nat.le_refl _) (HC1.out.then_none hR))).mono fun e w1 ⟨v1, he, ⟨b1, hb1, hv1, hh1⟩, hC1⟩ => ⟨_, he, hK _ _ hC1 ⟨b1, by rw [hv1]; rfl, hh1⟩ (fun d h1 h2 => by simp at h2)⟩)
      · intro x w' hR hV hap
        obtain ⟨b, h36, hb36⟩ := hV 5 (by decide)
        have e36 : x 36 = .slice (some ⟨b, 0, none⟩) R.length R.length := List.head_eq_of_cons_eq h36
        have HB := Lib.hid hb36
        have HC2 := Lib.hid (HC1.out.then_none hR)
        clear hR hV hap h36 hb36
        set_option linter.unusedSimpArgs false in
        simp only [puts, putsL, List.contains_cons, List.contains_nil, Nat.reduceBEq, Bool.or_true, Bool.true_or, Bool.or_false, Bool.false_eq_true, if_true, if_false, Nat.reduceAdd, List.drop_succ_cons, List.drop_zero, e36]
        clear e36
        go_wp2_with fail
        refine bodyPost_ret (v := .tuple #[.slice (some ⟨b, 0, none⟩) R.length R.length, .int .i64 0]) (by simp [results, Tryd.results11, go_sem]) rfl ?_
        exact ⟨_, rfl, rd_blk HB.out rfl, HC2.out⟩
end Go.Proofs.YtebmbapaedlmiaaDoor

namespace Go.Proofs.YtebmbapaedlmiaaDoor
open Ae
set_option linter.unusedVariables false

def Ae.exK : List Nat := (List.range 32).map (128 + ·)
def Ae.exN : List Nat := [7, 0, 0, 0, 64, 65, 66, 67, 68, 69, 70, 71]
def Ae.exB : List Nat := [80, 81, 82, 83, 192, 193, 194, 195, 196, 197, 198, 199]
def Ae.exT : List Nat := [76, 97, 100, 105, 101, 115, 32, 97, 110, 100, 32, 71, 101, 110, 116, 108, 101, 109, 101, 110, 32, 111, 102, 32, 116, 104, 101, 32, 99, 108, 97, 115, 115, 32, 111, 102, 32, 39, 57, 57, 58, 32, 73, 102, 32, 73, 32, 99, 111, 117, 108, 100, 32, 111, 102, 102, 101, 114, 32, 121, 111, 117, 32, 111, 110, 108, 121, 32, 111, 110, 101, 32, 116, 105, 112, 32, 102, 111, 114, 32, 116, 104, 101, 32, 102, 117, 116, 117, 114, 101, 44, 32, 115, 117, 110, 115, 99, 114, 101, 101, 110, 32, 119, 111, 117, 108, 100, 32, 98, 101, 32, 105, 116, 46]
def Ae.exO : List Nat := [211, 26, 141, 52, 100, 142, 96, 219, 123, 134, 175, 188, 83, 239, 126, 194, 164, 173, 237, 81, 41, 110, 8, 254, 169, 226, 181, 167, 54, 238, 98, 214, 61, 190, 164, 94, 140, 169, 103, 18, 130, 250, 251, 105, 218, 146, 114, 139, 26, 113, 222, 10, 158, 6, 11, 41, 5, 214, 165, 182, 126, 205, 59, 54, 146, 221, 189, 127, 45, 119, 139, 140, 152, 3, 174, 227, 40, 9, 27, 88, 250, 179, 36, 228, 250, 214, 117, 148, 85, 133, 128, 139, 72, 49, 215, 188, 63, 244, 222, 240, 142, 75, 122, 157, 229, 118, 210, 101, 134, 206, 198, 75, 97, 22]
def Ae.exW : List Nat := [26, 225, 11, 89, 79, 9, 226, 106, 126, 144, 46, 203, 208, 96, 6, 145]
def Ae.ex1 : List Nat := [159, 123, 233, 93, 1, 253, 64, 186, 21, 226, 143, 251, 54, 129, 10, 174, 193, 192, 136, 63, 9, 1, 110, 222, 221, 138, 208, 135, 85, 130, 3, 165, 78, 158, 203, 56, 172, 142, 94, 43, 184, 218, 178, 15, 250, 219, 82, 232, 117, 4, 178, 110, 190, 105, 109, 79, 96, 164, 133, 207, 17, 184, 27, 89]
def Ae.ex2 : List Nat := [252, 177, 196, 95, 66, 25, 238, 172, 236, 106, 222, 195, 78, 102, 105, 120, 142, 219, 65, 196, 156, 163, 1, 225, 39, 224, 172, 171, 59, 68, 185, 207, 92, 134, 187, 149, 224, 107, 13, 242, 144, 26, 182, 69, 228, 171, 230, 34, 21, 56, 12, 3, 206, 53, 108, 215, 166, 118, 99, 251, 221, 239, 255, 100]
theorem xor_two (key nonce : List Nat) (b i : Nat) (hi : i < 128) : xorAt key 1 nonce i b = b ^^^ (block key 1 nonce ++ block key 2 nonce).getD i 0 := by
  have h1 : (block key 1 nonce).length = 64 := block_len _ _ _
  unfold xorAt
  have e1 : m32 (1 + 0) = 1 := rfl
  have e2 : m32 (1 + 1) = 2 := rfl
  generalize hB1 : block key 1 nonce = B1 at *
  generalize hB2 : block key 2 nonce = B2 at *
  rcases (by omega : i < 64 ∨ 64 ≤ i) with hh | hh
  · rw [show i / 64 = 0 by omega, show i % 64 = i by omega, e1, hB1, List.getD_eq_getElem?_getD, List.getD_eq_getElem?_getD, List.getElem?_append_left (by omega)]
  · rw [show i / 64 = 1 by omega, show i % 64 = i - 64 by omega, e2, hB2, List.getD_eq_getElem?_getD, List.getD_eq_getElem?_getD, List.getElem?_append_right (by omega), h1]
theorem xors_two (key nonce l : List Nat) (h : l.length ≤ 128) : xors key 1 nonce l = (List.range l.length).map fun i => l.getD i 0 ^^^ (block key 1 nonce ++ block key 2 nonce).getD i 0 :=
  List.map_congr_left fun i hi => xor_two key nonce _ i (Nat.lt_of_lt_of_le (List.mem_range.1 hi) h)
set_option maxRecDepth 100000 in
theorem ex_block1 : block exK 1 exN = ex1 := by decide +kernel
set_option maxRecDepth 100000 in
theorem ex_block2 : block exK 2 exN = ex2 := by decide +kernel
set_option maxRecDepth 100000 in
theorem ex_xor : (List.range exT.length).map (fun i => exT.getD i 0 ^^^ (ex1 ++ ex2).getD i 0) = exO := by decide +kernel
set_option maxRecDepth 100000 in
theorem ex_tag : tagL exK exN exB exO = exW := by decide +kernel
set_option maxRecDepth 100000 in
theorem ex_tag0 : tagL exK exN exB [] ≠ List.replicate 16 0 := by decide +kernel
theorem ex_seal : sealL exK exN exB exT = exO ++ exW := by
  unfold sealL
  rw [xors_two _ _ _ (by decide), ex_block1, ex_block2, ex_xor, ex_tag]
end Go.Proofs.YtebmbapaedlmiaaDoor
