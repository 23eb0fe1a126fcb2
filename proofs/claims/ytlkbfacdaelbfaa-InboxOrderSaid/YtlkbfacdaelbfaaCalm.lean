/-
  A region that draws its order: each operation of its front once, from what it waits for; then its forced tail. No program in sight.
-/
import Derived.StillTail
import Derived.Shelf.Abstract
import Derived.Test.YtlkbfacdaelbfaaKit
namespace Go.Proofs.Ytlkbfacdaelbfaa
open Go.RowKit
set_option linter.unusedVariables false

/-- What is known of slots (and of the world) once an operation has been carried out. -/
structure Fact where
  slots : List Nat
  says : List Value → World → Prop
def Fact.at (f : Fact) (x : Nat → Value) (w : World) : Prop := f.says (f.slots.map x) w
def nothing : Fact := ⟨[], fun _ _ => True⟩
def upd (x : Nat → Value) (d : Option Nat) (v : Value) : Nat → Value := match d with
  | none => x
  | some d => fun k => if k = d then v else x k
def putsL (ds : List Nat) (x : Nat → Value) : Nat → List Value → List Value
  | _, [] => []
  | i, v :: l => (if ds.contains i then x i else v) :: putsL ds x (i + 1) l
/-- An act whose slots ds hold what x tells. -/
def puts (a : Act) (ds : List Nat) (x : Nat → Value) : Act := { a with tmps := (putsL ds x 0 a.tmps.toList).toArray }
theorem upd_same (x : Nat → Value) (d : Nat) (v : Value) : upd x (some d) v d = v := by simp [upd]
theorem upd_ne (x : Nat → Value) (d : Option Nat) (v : Value) {k : Nat} (h : d ≠ some k) : upd x d v k = x k := by
  cases d with
  | none => rfl
  | some d => simp [upd]; intro e; exact absurd (by rw [e]) h
theorem putsL_get (ds : List Nat) (x : Nat → Value) : ∀ (l : List Value) (i k : Nat), (putsL ds x i l)[k]? = (l[k]?).map fun v => if ds.contains (i + k) then x (i + k) else v
  | [], _, _ => by simp [putsL]
  | v :: l, i, 0 => by simp [putsL]
  | v :: l, i, k + 1 => by rw [putsL, List.getElem?_cons_succ, putsL_get ds x l (i + 1) k, List.getElem?_cons_succ, show i + 1 + k = i + (k + 1) by omega]
theorem puts_get (a : Act) (ds : List Nat) (x : Nat → Value) (k : Nat) : (puts a ds x).tmps[k]? = (a.tmps[k]?).map fun v => if ds.contains k then x k else v := by
  show (putsL ds x 0 a.tmps.toList).toArray[k]? = _
  rw [List.getElem?_toArray, putsL_get, Nat.zero_add, Array.getElem?_toList]
theorem puts_self (a : Act) (ds : List Nat) : puts a ds (fun k => a.tmps.getD k undef) = a := by
  obtain ⟨tmps, defers⟩ := a
  have : (puts ⟨tmps, defers⟩ ds (fun k => tmps.getD k undef)).tmps = tmps := by
    apply Array.ext_getElem?
    intro k
    rw [puts_get]
    cases hk : tmps[k]? with
    | none => rfl
    | some v =>
      simp only [Option.map_some]
      split
      · simp [hk]
      · rfl
  show (⟨(puts ⟨tmps, defers⟩ ds (fun k => tmps.getD k undef)).tmps, defers⟩ : Act) = _
  rw [this]
theorem puts_upd (ds : List Nat) (a : Act) (x : Nat → Value) (d : Option Nat) (v : Value) (_h : ds.Nodup) (h : ∀ k, d = some k → k ∈ ds) : (puts a ds x).put d v = puts a ds (upd x d v) := by
  cases d with
  | none => rfl
  | some d =>
    have hd := h d rfl
    have : ((puts a ds x).put (some d) v).tmps = (puts a ds (upd x (some d) v)).tmps := by
      apply Array.ext_getElem?
      intro k
      show ((puts a ds x).tmps.setIfInBounds d v)[k]? = _
      rw [Array.getElem?_setIfInBounds, puts_get, puts_get]
      by_cases e : d = k
      · subst e
        have hc : ds.contains d = true := by simpa using hd
        rw [if_pos rfl, upd_same]
        have hs : (puts a ds x).tmps.size = a.tmps.size := by
          have : ∀ (l : List Value) i, (putsL ds x i l).length = l.length := by
            intro l; induction l with
            | nil => intro i; rfl
            | cons v l ih => intro i; rw [putsL, List.length_cons, ih, List.length_cons]
          simp [puts, this]
        rw [hs]
        by_cases hlt : d < a.tmps.size
        · rw [if_pos hlt, Array.getElem?_eq_getElem hlt]; simp; intro hn; exact absurd hd hn
        · rw [if_neg hlt, Array.getElem?_eq_none (by omega)]; rfl
      · rw [if_neg e]
        have : upd x (some d) v k = x k := upd_ne _ _ _ (by intro q; injection q with q; exact e q)
        rw [this]
    show (⟨((puts a ds x).put (some d) v).tmps, a.defers⟩ : Act) = ⟨(puts a ds (upd x (some d) v)).tmps, a.defers⟩
    rw [this]

/-- Operation i waits for operation j, or for one that waits for it, and so on, so many steps. -/
def reach (l : List Oper) : Nat → Nat → Nat → Bool
  | 0, _, _ => false
  | f + 1, i, j => match l[i]? with
    | some o => o.after.any fun e => Region.binds .any e && (e.on == j || (decide (j < e.on) && reach l f e.on j))
    | none => false
def waits2 (l : List Oper) (i j : Nat) : Bool := reach l 8 i j
def dstOf (l : List Oper) (i : Nat) : Option Nat := (l[i]?).bind (·.dst)
def nodupB : List Nat → Bool
  | [] => true
  | x :: l => !l.contains x && nodupB l
theorem nodupB_spec : ∀ {l : List Nat}, nodupB l = true → l.Nodup
  | [], _ => List.nodup_nil
  | x :: l, h => by
    simp only [nodupB, Bool.and_eq_true, Bool.not_eq_true', List.contains_eq_mem, decide_eq_false_iff_not] at h
    exact List.nodup_cons.2 ⟨h.1, nodupB_spec h.2⟩
/-- The closed facts of such a region. -/
def calmB (l : List Oper) (n : Nat) (ds : List Nat) (F : List (List Nat)) : Bool :=
  decide (n ≤ l.length) && nodupB ds && decide (ds = (l.take n).filterMap (·.dst)) &&
  ((List.range l.length).all fun i => (l[i]?.map fun o => o.after.all fun e => !Region.binds .any e || decide (e.on < i)).getD true) &&
  ((List.range l.length).all fun k => decide (k < n) || (List.range n).all fun j => waits2 l k j) &&
  ((List.range n).all fun i => (F.getD i []).all fun s => dstOf l i == some s || (List.range i).any fun j => dstOf l j == some s && waits2 l i j) &&
  Region.seqB .any l.toArray (l.length - n) n (Array.replicate n true ++ Array.replicate (l.length - n) false)

/-- How many of the first m are not listed. -/
def unl (listed : Array Bool) : Nat → Nat
  | 0 => 0
  | m + 1 => unl listed m + if listed.getD m true = false then 1 else 0
theorem unl_set_out (listed : Array Bool) {i : Nat} : ∀ {m : Nat}, m ≤ i → unl (listed.setIfInBounds i true) m = unl listed m
  | 0, _ => rfl
  | m + 1, h => by rw [unl, unl, unl_set_out listed (by omega), getD_set_ne true (by omega)]
theorem unl_set (listed : Array Bool) {i : Nat} (hi : i < listed.size) (h : listed.getD i true = false) : ∀ {m : Nat}, i < m → unl (listed.setIfInBounds i true) m + 1 = unl listed m
  | 0, hm => by omega
  | m + 1, hm => by
    rw [unl, unl]
    by_cases e : i = m
    · subst e
      rw [unl_set_out listed (Nat.le_refl _), if_pos h, if_neg (by simp [hi])]
    · have := unl_set listed hi h (m := m) (by omega)
      rw [getD_set_ne true e]
      omega
theorem unl_zero {listed : Array Bool} : ∀ {m : Nat}, unl listed m = 0 → ∀ i, i < m → listed.getD i true = true
  | 0, _, _, hi => by omega
  | m + 1, h, i, hi => by
    rw [unl] at h
    by_cases e : i = m
    · subst e
      cases hh : listed.getD i true with
      | true => rfl
      | false => rw [if_pos hh] at h; omega
    · exact unl_zero (m := m) (by omega) i (by omega)
theorem unl_first {listed : Array Bool} : ∀ {m : Nat}, 0 < unl listed m → ∃ i, i < m ∧ listed.getD i true = false ∧ ∀ j, j < i → listed.getD j true = true
  | 0, h => by simp [unl] at h
  | m + 1, h => by
    rw [unl] at h
    by_cases h0 : 0 < unl listed m
    · obtain ⟨i, h1, h2, h3⟩ := unl_first h0
      exact ⟨i, by omega, h2, h3⟩
    · have hz : unl listed m = 0 := by omega
      rw [hz] at h
      refine ⟨m, by omega, ?_, fun j hj => unl_zero hz j hj⟩
      cases hh : listed.getD m true with
      | false => rfl
      | true => rw [if_neg (by simp [hh])] at h; omega

/-- The block that a pointer or a slice lies in. -/
def blk : Value → Option Nat
  | .pointer (some a) => some a.block
  | .slice (some a) _ _ => some a.block
  | _ => none
/-- A value whose block was made between two worlds. -/
def Born (w w2 : World) (v : Value) : Prop := ∃ b, blk v = some b ∧ w.heap.size ≤ b ∧ b < w2.heap.size
/-- What has been done so far. -/
structure Done (w : World) (R : World → World → Prop) (l : List Oper) (n : Nat) (A : List Nat) (F : List Fact) (listed : Array Bool) (x : Nat → Value) (w' : World) : Prop where
  rel : R w w'
  size : listed.size = l.length
  closed : ∀ j oj, l[j]? = some oj → listed.getD j false = true → ∀ e ∈ oj.after, Region.binds .any e = true → listed.getD e.on false = true
  tail : ∀ t, n ≤ t → t < l.length → listed.getD t true = false
  fact : ∀ i, i < n → listed.getD i false = true → (F.getD i nothing).at x w'
  born : ∀ d i, d ∈ A → i < n → dstOf l i = some d → listed.getD i false = true → ∃ b, blk (x d) = some b ∧ b < w'.heap.size
  apart : ∀ d e i j, d ∈ A → e ∈ A → i < n → j < n → dstOf l i = some d → dstOf l j = some e → listed.getD i false = true → listed.getD j false = true → d ≠ e → blk (x d) ≠ blk (x e)

section
variable {P : Program} {l : List Oper} {n : Nat} {ds : List Nat} {A : List Nat} {F : List Fact} {Q : Exit → Act → World → Prop} {R : World → World → Prop}
theorem Done.reached {w : World} {listed : Array Bool} {x : Nat → Value} {w' : World} (h : Done w R l n A F listed x w') : ∀ (f : Nat) {i : Nat} {o : Oper}, l[i]? = some o → (∀ e ∈ o.after, Region.binds .any e = true → listed.getD e.on false = true) → ∀ {j : Nat}, reach l f i j = true → listed.getD j false = true
  | 0, _, _, _, _, _, hw => by simp [reach] at hw
  | f + 1, i, o, ho, hr, j, hw => by
    rw [reach, ho] at hw
    obtain ⟨e, he, hb⟩ := Array.any_eq_true'.1 hw
    simp only [Bool.and_eq_true, Bool.or_eq_true, beq_iff_eq, decide_eq_true_eq] at hb
    have h1 := hr e he hb.1
    rcases hb.2 with h2 | ⟨_, h2⟩
    · rw [← h2]; exact h1
    · obtain ⟨o2, ho2⟩ : ∃ o2, l[e.on]? = some o2 := by
        cases hq : l[e.on]? with
        | some o2 => exact ⟨o2, rfl⟩
        | none => cases f with
          | zero => simp [reach] at h2
          | succ f => rw [reach, hq] at h2; simp at h2
      exact h.reached f ho2 (fun e' he' hb' => h.closed e.on o2 ho2 h1 e' he' hb') h2
theorem Done.waited {w : World} {listed : Array Bool} {x : Nat → Value} {w' : World} (h : Done w R l n A F listed x w') {i : Nat} {o : Oper} (ho : l[i]? = some o) (hr : ∀ e ∈ o.after, Region.binds .any e = true → listed.getD e.on false = true) {j : Nat} (hw : waits2 l i j = true) : listed.getD j false = true :=
  h.reached 8 ho hr hw
theorem dst_twice {s : Nat} : ∀ (L : List Oper) (p r : Nat) (op or : Oper), p < r → L[p]? = some op → L[r]? = some or → op.dst = some s → or.dst = some s → ¬ (L.filterMap (·.dst)).Nodup := by
  intro L
  induction L with
  | nil => intro p r op or _ h _ _ _; simp at h
  | cons z L ihL =>
    intro p r op or hpr hp hr hdp hdr hnd2
    match p, r, hpr with
    | 0, r + 1, _ =>
      simp at hp hr
      subst hp
      rw [List.filterMap_cons, hdp] at hnd2
      exact (List.nodup_cons.1 hnd2).1 (List.mem_filterMap.2 ⟨or, List.mem_of_getElem? hr, hdr⟩)
    | p + 1, r + 1, hpr =>
      simp at hp hr
      refine ihL p r op or (by omega) hp hr hdp hdr ?_
      rw [List.filterMap_cons] at hnd2
      split at hnd2
      · exact hnd2
      · exact (List.nodup_cons.1 hnd2).2
theorem calm_steps {a : Act} {w : World} (hB : calmB l n ds (F.map (·.slots)) = true) (trans : ∀ {a b c}, R a b → R b c → R a c) (grows : ∀ {a b}, R a b → a.heap.size ≤ b.heap.size) (hA : ∀ d, d ∈ A → d ∈ ds)
    (stable : ∀ i, i < n → ∀ x w1 w2, R w1 w2 → (F.getD i nothing).at x w1 → (F.getD i nothing).at x w2)
    (step : ∀ i o, l[i]? = some o → i < n → ∀ x w', R w w' → (∀ j, waits2 l i j = true → (F.getD j nothing).at x w') →
      if Region.wanted o (yielded l.toArray (puts a ds x).tmps) then o.wp P (puts a ds x) w' (fun a2 w2 => ∃ v, a2 = (puts a ds x).put o.dst v ∧ R w' w2 ∧ (F.getD i nothing).at (upd x o.dst v) w2 ∧ ∀ d, o.dst = some d → d ∈ A → Born w' w2 v) Q
      else (F.getD i nothing).at (upd x o.dst undef) w' ∧ ∀ d, o.dst = some d → d ∉ A)
    (tail : ∀ x w', R w w' → (∀ i, i < n → (F.getD i nothing).at x w') → (∀ d e, d ∈ A → e ∈ A → d ≠ e → blk (x d) ≠ blk (x e)) → wpList P l.toArray Q (l.drop n) (puts a ds x) w') (refl : ∀ w, R w w) :
    ∀ (f : Nat) (listed : Array Bool) (x : Nat → Value) (w' : World), unl listed n = f → Done w R l n A F listed x w' → wpAny P .any l.toArray Q (f + (l.length - n)) listed (puts a ds x) w' := by
  simp only [calmB, Bool.and_eq_true, decide_eq_true_eq] at hB
  obtain ⟨⟨⟨⟨⟨⟨hn, hnd⟩, hds⟩, hback⟩, htail⟩, hloc⟩, hseq⟩ := hB
  have hnd := nodupB_spec hnd
  have back : ∀ (i : Nat) o, l[i]? = some o → ∀ e ∈ o.after, Region.binds .any e = true → e.on < i := fun i o ho e he hb => by
    have h1 := List.all_eq_true.1 hback i (List.mem_range.2 (List.getElem?_eq_some_iff.1 ho).1)
    rw [ho] at h1
    simp only [Option.map_some, Option.getD_some, Array.all_eq_true_iff_forall_mem, Bool.or_eq_true, Bool.not_eq_true', decide_eq_true_eq] at h1
    exact (h1 e he).resolve_left (by simp [hb])
  have dmem : ∀ (i : Nat) o k, l[i]? = some o → i < n → o.dst = some k → k ∈ ds := fun i o k ho hi hk => by
    rw [hds]
    exact List.mem_filterMap.2 ⟨o, List.mem_of_getElem? (i := i) (by rw [List.getElem?_take_of_lt hi]; exact ho), hk⟩
  have dinj : ∀ k i s, k < n → i < n → dstOf l k = some s → dstOf l i = some s → k ≠ i → False := fun k i s hk hi h1 h2 hne => by
    unfold dstOf at h1 h2
    obtain ⟨ok, hok, hdk⟩ := Option.bind_eq_some_iff.1 h1
    obtain ⟨oi, hoi, hdi⟩ := Option.bind_eq_some_iff.1 h2
    have hk1 : (l.take n)[k]? = some ok := by rw [List.getElem?_take_of_lt hk]; exact hok
    have hi1 : (l.take n)[i]? = some oi := by rw [List.getElem?_take_of_lt hi]; exact hoi
    rcases Nat.lt_or_gt_of_ne hne with hlt | hlt
    · exact dst_twice _ k i ok oi hlt hk1 hi1 hdk hdi (hds ▸ hnd)
    · exact dst_twice _ i k oi ok hlt hi1 hk1 hdi hdk (hds ▸ hnd)
  intro f
  induction f with
  | zero =>
    intro listed x w' hu hD
    have hall := unl_zero hu
    have hl : listed = Array.replicate n true ++ Array.replicate (l.length - n) false := by
      apply Array.ext_getElem?
      intro i
      have hs := hD.size
      rcases Nat.lt_or_ge i listed.size with hi | hi
      · rw [Array.getElem?_append]
        by_cases hin : i < n
        · have := hall i hin
          simp [hi] at this
          simp [hin, hi, this]
        · have := hD.tail i (by omega) (by omega)
          simp [hi] at this
          rw [if_neg (by simpa using hin), Array.getElem?_eq_getElem hi, this, Array.getElem?_replicate, if_pos (by simp; omega)]
      · rw [Array.getElem?_eq_none hi, Array.getElem?_eq_none (by simp; omega)]
    have H := tail x w' hD.rel (fun i hi => hD.fact i hi (by
      have := hall i hi
      have hi2 : i < listed.size := by rw [hD.size]; omega
      simp [hi2] at this ⊢; exact this)) (fun d e hd he hne => by
      have find : ∀ d, d ∈ A → ∃ i, i < n ∧ dstOf l i = some d ∧ listed.getD i false = true := fun d hd => by
        have h1 := hA d hd
        rw [hds] at h1
        obtain ⟨o, ho, hod⟩ := List.mem_filterMap.1 h1
        obtain ⟨i, hi⟩ := List.mem_iff_getElem?.1 ho
        have hi1 := (List.getElem?_eq_some_iff.1 hi).1
        have hi1 : i < n := by rw [List.length_take] at hi1; omega
        rw [List.getElem?_take_of_lt hi1] at hi
        refine ⟨i, hi1, by unfold dstOf; rw [hi]; exact hod, ?_⟩
        have h2 := hall i hi1
        have hi2 : i < listed.size := by rw [hD.size]; omega
        simp [hi2] at h2 ⊢; exact h2
      obtain ⟨i, hi, h1, h2⟩ := find d hd
      obtain ⟨j, hj, h3, h4⟩ := find e he
      exact hD.apart d e i j hd he hi hj h1 h3 h2 h4 hne)
    have := wpAny_of_seq (md := .any) (Q' := Q) (l.drop n) n listed (puts a ds x) w' (fun j => by simp [List.getElem?_drop]) (by rw [List.length_drop, hl]; exact hseq) H
    rw [List.length_drop] at this
    rw [Nat.zero_add]
    exact this
  | succ f ih =>
    intro listed x w' hu hD
    have hs := hD.size
    obtain ⟨i0, hi0, hun0, hbef⟩ := unl_first (by omega : 0 < unl listed n)
    have hready : i0 ∈ Region.ready .any l.toArray listed := by
      obtain ⟨o, ho⟩ : ∃ o, l[i0]? = some o := ⟨_, List.getElem?_eq_getElem (by omega)⟩
      refine mem_ready.2 ⟨hun0, o, by simpa using ho, fun e he hb => ?_⟩
      have h1 := back i0 o ho e he hb
      have h2 := hbef e.on h1
      have h3 : e.on < listed.size := by omega
      simp [h3] at h2 ⊢; exact h2
    rw [show f + 1 + (l.length - n) = (f + (l.length - n)) + 1 by omega]
    refine ⟨fun h => (by rw [h] at hready; cases hready), fun i hi => ?_⟩
    obtain ⟨hun, o, ho, hall⟩ := mem_ready.1 hi
    have ho' : l[i]? = some o := by simpa using ho
    have hil : i < l.length := (List.getElem?_eq_some_iff.1 ho').1
    have hin : i < n := by
      rcases Nat.lt_or_ge i n with h | h
      · exact h
      · have h1 := List.all_eq_true.1 htail i (List.mem_range.2 hil)
        simp only [Bool.or_eq_true, decide_eq_true_eq] at h1
        rcases h1 with h1 | h1
        · omega
        · have h2 := hD.waited ho' (fun e he hb => hall e he hb) (List.all_eq_true.1 h1 i0 (List.mem_range.2 hi0))
          rw [getD_both hun0] at h2
          cases h2
    have hset : unl (listed.setIfInBounds i true) n = f := by
      have := unl_set listed (i := i) (by omega) hun hin
      omega
    have next : ∀ v w2, R w' w2 → (F.getD i nothing).at (upd x o.dst v) w2 → (∀ d, o.dst = some d → d ∈ A → Born w' w2 v) → Done w R l n A F (listed.setIfInBounds i true) (upd x o.dst v) w2 := fun v w2 hR hV hBorn => by
      have hdi : dstOf l i = o.dst := by unfold dstOf; rw [ho']; rfl
      have born' : ∀ d j, d ∈ A → j < n → dstOf l j = some d → (listed.setIfInBounds i true).getD j false = true → (j = i ∧ upd x o.dst v d = v ∧ Born w' w2 v) ∨ (j ≠ i ∧ upd x o.dst v d = x d ∧ listed.getD j false = true) := fun d j hd hj hdj hl => by
        by_cases hij : j = i
        · subst hij
          rw [hdi] at hdj
          exact .inl ⟨rfl, by rw [hdj]; exact upd_same _ _ _, hBorn d hdj hd⟩
        · rw [getD_set_ne false (Ne.symm hij)] at hl
          refine .inr ⟨hij, upd_ne _ _ _ (fun hc => ?_), hl⟩
          rw [← hdi] at hc
          exact dinj j i d hj hin hdj hc hij
      refine ⟨trans hD.rel hR, by simpa using hD.size, fun j oj hj hl e he hb => ?_, fun t ht ht2 => by rw [getD_set_ne true (by omega)]; exact hD.tail t ht ht2, fun j hj hl => ?_, ?_, ?_⟩
      · by_cases hij : i = j
        · subst hij
          rw [ho'] at hj; cases hj
          exact getD_set_true (hall e he hb)
        · rw [getD_set_ne false hij] at hl
          exact getD_set_true (hD.closed j oj hj hl e he hb)
      · by_cases hij : i = j
        · subst hij; exact hV
        · rw [getD_set_ne false hij] at hl
          refine stable j hj _ _ _ hR ?_
          have h1 := hD.fact j hj hl
          have e1 : (F.getD j nothing).slots.map (upd x o.dst v) = (F.getD j nothing).slots.map x := by
            apply List.map_congr_left
            intro s hsm
            refine upd_ne x o.dst v fun hc => ?_
            have h2 := List.all_eq_true.1 hloc j (List.mem_range.2 hj)
            have e2 : (F.map (·.slots)).getD j [] = (F.getD j nothing).slots := by
              simp only [List.getD_eq_getElem?_getD, List.getElem?_map]
              cases F[j]? <;> rfl
            rw [e2] at h2
            have h3 := List.all_eq_true.1 h2 s hsm
            -- the slot s belongs to an operation that is listed; i is not
            have uniq : ∀ k, listed.getD k false = true → k < n → dstOf l k = some s → False := fun k hk hkn hd => by
              have hne : k ≠ i := by rintro rfl; rw [getD_both hun] at hk; cases hk
              unfold dstOf at hd
              obtain ⟨ok, hok, hdk⟩ := Option.bind_eq_some_iff.1 hd
              exact dinj k i s hkn hin (by unfold dstOf; rw [hok]; exact hdk) (by unfold dstOf; rw [ho']; exact hc) hne
            simp only [Bool.or_eq_true, beq_iff_eq, List.any_eq_true, List.mem_range, Bool.and_eq_true] at h3
            rcases h3 with h3 | ⟨k, hk, h3, hw2⟩
            · exact uniq j hl hj h3
            · obtain ⟨oj, hoj⟩ : ∃ oj, l[j]? = some oj := ⟨_, List.getElem?_eq_getElem (by omega)⟩
              exact uniq k (hD.waited hoj (fun e he hb => hD.closed j oj hoj hl e he hb) hw2) (by omega) h3
          unfold Fact.at at h1 ⊢
          rw [e1]; exact h1
      · intro d j hd hj hdj hl
        rcases born' d j hd hj hdj hl with ⟨_, h2, b, h3, h4, h5⟩ | ⟨_, h2, h3⟩
        · exact ⟨b, by rw [h2]; exact h3, h5⟩
        · obtain ⟨b, h4, h5⟩ := hD.born d j hd hj hdj h3
          exact ⟨b, by rw [h2]; exact h4, Nat.lt_of_lt_of_le h5 (grows hR)⟩
      · intro d e j k hd he hj hk hdj hek hl hl2 hne
        rcases born' d j hd hj hdj hl with ⟨h1, h2, b, h3, h4, h5⟩ | ⟨h1, h2, h3⟩ <;> rcases born' e k he hk hek hl2 with ⟨g1, g2, c, g3, g4, g5⟩ | ⟨g1, g2, g3⟩
        · exfalso; rw [h1, ← g1, hek] at hdj; cases hdj; exact hne rfl
        · obtain ⟨c, g4, g5⟩ := hD.born e k he hk hek g3
          rw [h2, g2, h3, g4]; intro q; injection q with q; omega
        · obtain ⟨b, h4, h5⟩ := hD.born d j hd hj hdj h3
          rw [h2, g2, h4, g3]; intro q; injection q with q; omega
        · rw [h2, g2]; exact hD.apart d e j k hd he hj hk hdj hek h3 g3 hne
    have hst := step i o ho' hin x w' hD.rel fun j hj => by
      have hjl := hD.waited ho' (fun e he hb => hall e he hb) hj
      have hjn : j < n := by
        rcases Nat.lt_or_ge j n with h | h
        · exact h
        · exfalso
          rcases Nat.lt_or_ge j l.length with h2 | h2
          · have := hD.tail j h h2
            rw [getD_both this] at hjl; cases hjl
          · rw [show listed.getD j false = false from by simp [Array.getElem?_eq_none (by omega : listed.size ≤ j)]] at hjl; cases hjl
      exact hD.fact j hjn hjl
    unfold wpOp
    simp only [ho]
    split
    · rename_i hw
      rw [if_pos hw] at hst
      refine .inl (Oper.wp_mono (fun a2 w2 ⟨v, e, hR, hV, hBn⟩ => ?_) hst)
      rw [e, puts_upd ds a x o.dst v hnd (fun k hk => dmem i o k ho' hin hk)]
      exact ih _ _ _ hset (next v w2 hR hV hBn)
    · rename_i hw
      rw [if_neg hw] at hst
      rw [puts_upd ds a x o.dst undef hnd (fun k hk => dmem i o k ho' hin hk)]
      exact ih _ _ _ hset (next undef w' (refl w') hst.1 (fun d hd hdA => absurd hdA (hst.2 d hd)))
/-- The law: each operation of the front once, from what it waits for; then the tail. -/
theorem wp_region_calm {id : Nat} {a : Act} {w : World} (n : Nat) (ds : List Nat) (A : List Nat) (F : List Fact) (R : World → World → Prop) (hm : P.follows .mixedOrders = true) (hB : calmB l n ds (F.map (·.slots)) = true)
    (refl : ∀ w, R w w) (trans : ∀ {a b c}, R a b → R b c → R a c) (grows : ∀ {a b}, R a b → a.heap.size ≤ b.heap.size) (hA : ∀ d, d ∈ A → d ∈ ds) (drew : R w { w with drawn := w.drawn + 1 })
    (stable : ∀ i, i < n → ∀ x w1 w2, R w1 w2 → (F.getD i nothing).at x w1 → (F.getD i nothing).at x w2)
    (step : ∀ i o, l[i]? = some o → i < n → ∀ x w', R w w' → (∀ j, waits2 l i j = true → (F.getD j nothing).at x w') →
      if Region.wanted o (yielded l.toArray (puts a ds x).tmps) then o.wp P (puts a ds x) w' (fun a2 w2 => ∃ v, a2 = (puts a ds x).put o.dst v ∧ R w' w2 ∧ (F.getD i nothing).at (upd x o.dst v) w2 ∧ ∀ d, o.dst = some d → d ∈ A → Born w' w2 v) Q
      else (F.getD i nothing).at (upd x o.dst undef) w' ∧ ∀ d, o.dst = some d → d ∉ A)
    (tail : ∀ x w', R w w' → (∀ i, i < n → (F.getD i nothing).at x w') → (∀ d e, d ∈ A → e ∈ A → d ≠ e → blk (x d) ≠ blk (x e)) → wpList P l.toArray Q (l.drop n) (puts a ds x) w') : (Code.region id l.toArray true).wp P Q a w := by
  refine wp_region_any hm ?_
  have hn : n ≤ l.length := by
    simp only [calmB, Bool.and_eq_true, decide_eq_true_eq] at hB
    exact hB.1.1.1.1.1.1
  have hu : ∀ m, m ≤ l.length → unl (Array.replicate l.length false) m = m := by
    intro m
    induction m with
    | zero => intro _; rfl
    | succ m ihm => intro hm2; rw [unl, ihm (by omega), if_pos (getD_in (by simp; omega) (getD_replicate_false _ _))]
  have D : Done w R l n A F (Array.replicate l.length false) (fun k => a.tmps.getD k undef) { w with drawn := w.drawn + 1 } :=
    ⟨drew, by simp, fun j oj _ hl => (by rw [getD_replicate_false] at hl; cases hl), fun t _ ht => getD_in (by simpa using ht) (getD_replicate_false _ _), fun i _ hl => (by rw [getD_replicate_false] at hl; cases hl), fun d i _ _ _ hl => (by rw [getD_replicate_false] at hl; cases hl), fun d e i j _ _ _ _ _ _ hl => (by rw [getD_replicate_false] at hl; cases hl)⟩
  have H := calm_steps (R := R) (a := a) (w := w) (P := P) (Q := Q) hB trans grows hA stable step tail refl n (Array.replicate l.length false) (fun k => a.tmps.getD k undef) { w with drawn := w.drawn + 1 } (hu n hn) D
  rw [puts_self, show n + (l.length - n) = l.length by omega] at H
  simpa using H
end
/-- What is told of each operation holds on. -/
def Lasting (R : World → World → Prop) : List Fact → Prop
  | [] => True
  | f :: F => (∀ v w1 w2, R w1 w2 → f.says v w1 → f.says v w2) ∧ Lasting R F
theorem Lasting.get {R : World → World → Prop} : ∀ {F : List Fact}, Lasting R F → ∀ i, ∀ v w1 w2, R w1 w2 → (F.getD i nothing).says v w1 → (F.getD i nothing).says v w2
  | [], _, i, v, w1, w2, _, h => h
  | f :: F, h, 0, v, w1, w2, hR, hv => h.1 v w1 w2 hR hv
  | f :: F, h, i + 1, v, w1, w2, hR, hv => h.2.get i v w1 w2 hR hv
/-- One operation after the other, each from what it waits for. -/
def Steps (P : Program) (l : List Oper) (ds : List Nat) (A : List Nat) (F : List Fact) (R : World → World → Prop) (a : Act) (w : World) : Nat → List Oper → Prop
  | _, [] => True
  | i, o :: rest => (∀ x w', R w w' → (∀ j, waits2 l i j = true → (F.getD j nothing).at x w') →
      ∀ (K : Act → World → Prop) (Q' : Exit → Act → World → Prop), (∀ v w2, R w' w2 → (F.getD i nothing).at (upd x o.dst v) w2 → (∀ d, o.dst = some d → d ∈ A → Born w' w2 v) → K ((puts a ds x).put o.dst v) w2) → o.wp P (puts a ds x) w' K Q') ∧
      Steps P l ds A F R a w (i + 1) rest
theorem Steps.nil {P : Program} {l : List Oper} {ds : List Nat} {A : List Nat} {F : List Fact} {R : World → World → Prop} {a : Act} {w : World} {i : Nat} : Steps P l ds A F R a w i [] := trivial
theorem Steps.cons {P : Program} {l : List Oper} {ds : List Nat} {A : List Nat} {F : List Fact} {R : World → World → Prop} {a : Act} {w : World} {i : Nat} {o : Oper} {rest : List Oper}
    (h : ∀ x w', R w w' → (∀ j, waits2 l i j = true → (F.getD j nothing).at x w') →
      ∀ (K : Act → World → Prop) (Q' : Exit → Act → World → Prop), (∀ v w2, R w' w2 → (F.getD i nothing).at (upd x o.dst v) w2 → (∀ d, o.dst = some d → d ∈ A → Born w' w2 v) → K ((puts a ds x).put o.dst v) w2) → o.wp P (puts a ds x) w' K Q')
    (k : Steps P l ds A F R a w (i + 1) rest) : Steps P l ds A F R a w i (o :: rest) := ⟨h, k⟩
theorem Steps.get {P : Program} {l : List Oper} {ds : List Nat} {A : List Nat} {F : List Fact} {R : World → World → Prop} {a : Act} {w : World} : ∀ {k : Nat} {L : List Oper}, Steps P l ds A F R a w k L → ∀ j o, L[j]? = some o →
    ∀ x w', R w w' → (∀ i, waits2 l (k + j) i = true → (F.getD i nothing).at x w') →
      ∀ (K : Act → World → Prop) (Q' : Exit → Act → World → Prop), (∀ v w2, R w' w2 → (F.getD (k + j) nothing).at (upd x o.dst v) w2 → (∀ d, o.dst = some d → d ∈ A → Born w' w2 v) → K ((puts a ds x).put o.dst v) w2) → o.wp P (puts a ds x) w' K Q'
  | k, [], _, j, o, ho => by simp at ho
  | k, o' :: L, h, 0, o, ho => by simp at ho; subst ho; exact h.1
  | k, o' :: L, h, j + 1, o, ho => by
    have := h.2.get j o (by simpa using ho)
    rw [show k + 1 + j = k + (j + 1) by omega] at this
    exact this
/-- The same where no operation of the front has a guard, and none panics. -/
theorem wp_region_calm0 {P : Program} {l : List Oper} {Q : Exit → Act → World → Prop} {id : Nat} {a : Act} {w : World} (n : Nat) (ds : List Nat) (A : List Nat) (F : List Fact) (R : World → World → Prop) (hm : P.follows .mixedOrders = true) (hB : calmB l n ds (F.map (·.slots)) = true) (hg : ((l.take n).all fun o => o.guard.isNone) = true)
    (refl : ∀ w, R w w) (trans : ∀ {a b c}, R a b → R b c → R a c) (grows : ∀ {a b}, R a b → a.heap.size ≤ b.heap.size) (hA : ∀ d, d ∈ A → d ∈ ds) (drew : R w { w with drawn := w.drawn + 1 })
    (stable : Lasting R F) (step : Steps P l ds A F R a w 0 (l.take n))
    (tail : ∀ x w', R w w' → (∀ i, i < n → (F.getD i nothing).at x w') → (∀ d e, d ∈ A → e ∈ A → d ≠ e → blk (x d) ≠ blk (x e)) → wpList P l.toArray Q (l.drop n) (puts a ds x) w') : (Code.region id l.toArray true).wp P Q a w := by
  refine wp_region_calm n ds A F R hm hB refl trans grows hA drew (fun i _ x w1 w2 hR h => stable.get i _ _ _ hR h) (fun i o ho hi x w' hR hd => ?_) tail
  have ho2 : (l.take n)[i]? = some o := by rw [List.getElem?_take_of_lt hi]; exact ho
  have hgo : o.guard = none := by
    have h1 := List.all_eq_true.1 hg o (List.mem_of_getElem? (i := i) ho2)
    simpa using h1
  rw [if_pos (by simp [Region.wanted, hgo])]
  have := step.get i o ho2 x w' hR (by rw [Nat.zero_add]; exact hd)
  rw [Nat.zero_add] at this
  exact this _ _ fun v w2 h1 h2 h3 => ⟨v, rfl, h1, h2, h3⟩
theorem wp_run {P : Program} {o : Oper} {a : Act} {w w2 : World} {v : Value} {K : Act → World → Prop} {Q : Exit → Act → World → Prop} (hrun : (execOp a.eval o).run P w = .ok (.value v) w2) (h : K (a.put o.dst v) w2) : o.wp P a w K Q := by
  unfold Oper.wp; rw [hrun]; exact h
theorem wp_enter {P : Program} {o : Oper} {a : Act} {w : World} {f : FuncId} {args : Array Value} {K : Act → World → Prop} {Q : Exit → Act → World → Prop} (hrun : (execOp a.eval o).run P w = .ok (.enter f args) w)
    (h : Calls P f args w fun e w2 => ∃ v, e = .returned v ∧ K (a.put o.dst v) w2) : o.wp P a w K Q := by
  unfold Oper.wp; rw [hrun]
  exact h.mono fun e w2 ⟨v, he, hk⟩ => by subst he; exact hk
theorem wp_alloc_op {P : Program} {o : Oper} {a : Act} {w : World} {t : TypeId} {z : Value} {K : Act → World → Prop} {Q : Exit → Act → World → Prop} (ho : o.op = .alloc t) (hz : ∀ w, (zeroValue t).run P w = .ok z w)
    (h : K (a.put o.dst (.pointer (some ⟨w.heap.size, 0, none⟩))) (w.alloc (.cells z.cells t))) : o.wp P a w K Q := by
  refine wp_run ?_ h
  unfold execOp
  simp only [ho]
  simp [Instr.alloc, hz, newVar, newRow]
theorem wp_call_fn {P : Program} {o : Oper} {a : Act} {w : World} {f : FuncId} {args : Array Operand} {tys : Array TypeId} {K : Act → World → Prop} {Q : Exit → Act → World → Prop}
    (ho : o.op = .call { callee := .value (.func f), args := args, argTypes := tys }) (hf : Enters P f) (vs : List Value) (hvs : args.toList.map a.eval = vs)
    (h : Calls P f vs.toArray w fun e w2 => ∃ v, e = .returned v ∧ K (a.put o.dst v) w2) : o.wp P a w K Q := by
  refine wp_enter ?_ h
  have e : args.map a.eval = vs.toArray := by rw [← hvs]; exact (List.map_toArray ..).symm ▸ rfl
  rw [← e]
  unfold execOp
  simp only [ho]
  have hf' : ∀ vs w, (callFunc f vs).run P w = .ok (.enter f vs) w := hf
  simp [resolve, Act.eval, Deferred.ofValue, invoke, hf']
theorem wp_slice_at {P : Program} {o : Oper} {a : Act} {w : World} {t : TypeId} {x : Operand} {lo hi mx : Option Operand} {v : Value} {K : Act → World → Prop} {Q : Exit → Act → World → Prop} (ho : o.op = .slice t x lo hi mx)
    (hrun : (Instr.sliceAt t (a.eval x) (lo.map a.eval) (hi.map a.eval) (mx.map a.eval)).run P w = .ok v w) (h : K (a.put o.dst v) w) : o.wp P a w K Q := by
  refine wp_run ?_ h
  unfold execOp
  simp only [ho]
  simp [hrun]
theorem wp_array_at {P : Program} {o : Oper} {a : Act} {w : World} {t : TypeId} {x : Operand} {v0 v : Value} {K : Act → World → Prop} {Q : Exit → Act → World → Prop} (ho : o.op = .sliceToArrayPointer t x) (hx : a.eval x = v0)
    (hrun : (Instr.arrayAt t v0).run P w = .ok v w) (h : K (a.put o.dst v) w) : o.wp P a w K Q := by
  refine wp_run ?_ h
  unfold execOp
  simp only [ho, hx]
  simp [hrun]
theorem wp_index_addr {P : Program} {o : Oper} {a : Act} {w : World} {t : TypeId} {x i : Operand} {vx vi v : Value} {K : Act → World → Prop} {Q : Exit → Act → World → Prop} (ho : o.op = .indexAddr t x i) (hx : a.eval x = vx) (hi : a.eval i = vi)
    (hrun : (Instr.indexAt t vx vi).run P w = .ok v w) (h : K (a.put o.dst v) w) : o.wp P a w K Q := by
  refine wp_run ?_ h
  unfold execOp
  simp only [ho, hx, hi]
  simp [hrun]
theorem wp_load_one {P : Program} {o : Oper} {a : Act} {w : World} {t : TypeId} {x : Operand} {vx v : Value} {K : Act → World → Prop} {Q : Exit → Act → World → Prop} (ho : o.op = .load t x) (hx : a.eval x = vx)
    (hrun : (Instr.loadAt t vx).run P w = .ok v w) (h : K (a.put o.dst v) w) : o.wp P a w K Q := by
  refine wp_run ?_ h
  unfold execOp
  simp only [ho, hx]
  simp [hrun]
theorem wp_build_op {P : Program} {o : Oper} {a : Act} {w : World} {t : TypeId} {parts : Array (Nat × Operand)} {ps : List (Nat × Value)} {v : Value} {K : Act → World → Prop} {Q : Exit → Act → World → Prop} (ho : o.op = .build t parts)
    (hp : parts.toList.map (fun q => (q.1, a.eval q.2)) = ps) (hrun : (Instr.build t ps.toArray).run P w = .ok v w) (h : K (a.put o.dst v) w) : o.wp P a w K Q := by
  refine wp_run ?_ h
  have e : parts.map (fun q => (q.1, a.eval q.2)) = ps.toArray := by rw [← hp]; exact (List.map_toArray ..).symm ▸ rfl
  unfold execOp
  simp only [ho]
  have e' : (parts.map fun (i, x) => (i, a.eval x)) = ps.toArray := e
  simp [e', hrun]
theorem calm_true {o : Oper} {f : Nat → Option Bool} {A B : Prop} (h : Region.wanted o f = true) (k : A) : if Region.wanted o f then A else B := by rw [if_pos h]; exact k
theorem calm_plain {o : Oper} {f : Nat → Option Bool} {A B : Prop} (h : o.guard = none) (k : A) : if Region.wanted o f then A else B := calm_true (by simp [Region.wanted, h]) k
/-- A pointer to a block of our own, as it was made. -/
def IsNew (B T : Nat) (cs : Array Value) (v : List Value) (w : World) : Prop := ∃ b, v = [.pointer (some ⟨b, 0, none⟩)] ∧ B ≤ b ∧ w.heap[b]? = some (.cells cs T (0, 0))
theorem IsNew.chg {B T : Nat} {cs : Array Value} {v : List Value} {w w' : World} (h : IsNew B T cs v w) (hc : Chg Nowhere w w') : IsNew B T cs v w' := by
  obtain ⟨b, h1, h2, h3⟩ := h
  exact ⟨b, h1, h2, hc.same h3⟩
end Go.Proofs.Ytlkbfacdaelbfaa
