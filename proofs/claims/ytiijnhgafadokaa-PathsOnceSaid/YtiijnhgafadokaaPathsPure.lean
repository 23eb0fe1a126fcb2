/-
  The table of paths (layer 20) as plain functions.
-/
namespace Go.Proofs.Ytiijnhgafadokaa.Paths

structure Path where
  st : Int
  rtt : Int
  tries : Int
  next : Int
  tok : List Int

abbrev Tab := Nat → Path

def none : Path := ⟨0, 0, 0, 0, [0, 0, 0, 0, 0, 0, 0, 0]⟩
def new : Tab := fun _ => none
def upd (T : Tab) (i : Nat) (p : Path) : Tab := fun j => if j = i then p else T j
/-- A number as a moment. -/
def mom (n : Int) : Int := if n < 0 then 0 else if 1099511627776 < n then 1099511627776 else n
theorem mom_lo (n : Int) : 0 ≤ mom n := by unfold mom; split <;> (try split) <;> omega
theorem mom_hi (n : Int) : mom n ≤ 1099511627776 := by unfold mom; split <;> (try split) <;> omega

def inR (id : Int) : Bool := decide (0 ≤ id) && decide (id < 256)
def stOf (T : Tab) (id : Int) : Int := if inR id then (T id.toNat).st else 0
def rttOf (T : Tab) (id : Int) : Int := if inR id then (T id.toNat).rtt else 0

/-- How many of the first n are new or live. -/
def busy (T : Tab) : Nat → Nat
  | 0 => 0
  | n + 1 => busy T n + if (T n).st = 1 ∨ (T n).st = 2 then 1 else 0
theorem busy_le (T : Tab) (n : Nat) : busy T n ≤ n := by
  induction n with
  | zero => simp [busy]
  | succ n ih => unfold busy; split <;> omega

/-- What a begin answers. -/
def code (T : Tab) (id : Int) : Int :=
  if inR id = false then 1 else if (T id.toNat).st ≠ 0 then 201 else if 16 ≤ busy T 256 then 2 else 0
def begins (T : Tab) (id : Int) (p : Path) : Tab := if code T id = 0 then upd T id.toNat { p with rtt := 100 } else T

def dueP (now : Int) (p : Path) : Path :=
  if p.st ≠ 1 ∨ now < p.next then p
  else if p.tries = 4 then { p with st := 4 }
  else { p with tries := p.tries + 1, next := now + p.rtt * 2 ^ (p.tries + 1).toNat }
def told (now : Int) (p : Path) : Bool := decide (p.st = 1) && decide (p.next ≤ now) && decide (p.tries ≠ 4)
def dueTo (now : Int) (T : Tab) (k : Nat) : Tab := fun i => if i < k then dueP now (T i) else T i
def dueL (now : Int) (T : Tab) : Nat → List Int
  | 0 => []
  | n + 1 => dueL now T n ++ if told now (T n) then [(n : Int)] else []
def liveL (T : Tab) : Nat → List Int
  | 0 => []
  | n + 1 => liveL T n ++ if (T n).st = 2 then [(n : Int)] else []

def answers (T : Tab) (id : Int) (tok : List Int) : Bool := inR id && decide ((T id.toNat).st = 1) && decide ((T id.toNat).tok = tok)
def answer (T : Tab) (id : Int) (tok : List Int) : Tab := if answers T id tok then upd T id.toNat { T id.toNat with st := 2 } else T
def removes (T : Tab) (id : Int) : Bool := decide (stOf T id = 1) || decide (stOf T id = 2)
def rmCode (T : Tab) (id : Int) : Int := if removes T id then 0 else 200
def remove (T : Tab) (id : Int) : Tab := if removes T id then upd T id.toNat { T id.toNat with st := 3 } else T
def newRtt (r ticks : Int) : Int := max 1 ((7 * r + min ticks 1099511627776) / 8)
def sample (T : Tab) (id ticks : Int) : Tab :=
  if stOf T id = 2 ∧ 0 ≤ ticks then upd T id.toNat { T id.toNat with rtt := newRtt (T id.toNat).rtt ticks } else T

/-- What holds of each path. -/
structure PathOk (p : Path) : Prop where
  rtt0 : 0 ≤ p.rtt
  rtt1 : p.rtt ≤ 1099511627776
  tries0 : 0 ≤ p.tries
  tries1 : p.tries ≤ 4
  next0 : 0 ≤ p.next
  next1 : p.next ≤ 1000000000000000
  tok : p.tok.length = 8
def Ok (T : Tab) : Prop := ∀ i, PathOk (T i)

theorem none_ok : PathOk none := ⟨by decide, by decide, by decide, by decide, by decide, by decide, rfl⟩
theorem Ok.new : Ok new := fun _ => none_ok
theorem Ok.upd {T : Tab} (h : Ok T) (i : Nat) {p : Path} (hp : PathOk p) : Ok (upd T i p) := by
  intro j
  unfold Paths.upd
  split
  · exact hp
  · exact h j
theorem pow_small (t : Int) (h0 : 0 ≤ t) (h1 : t ≤ 3) : (2 : Int) ^ (t + 1).toNat ≤ 16 ∧ 0 ≤ (2 : Int) ^ (t + 1).toNat := by
  have : t = 0 ∨ t = 1 ∨ t = 2 ∨ t = 3 := by omega
  rcases this with rfl | rfl | rfl | rfl <;> decide
theorem PathOk.due {p : Path} (h : PathOk p) {now : Int} (h0 : 0 ≤ now) (h1 : now ≤ 1099511627776) : PathOk (dueP now p) := by
  have ⟨a, b, c, d, e, f, g⟩ := h
  unfold dueP
  split
  · exact h
  · split
    · exact ⟨a, b, c, d, e, f, g⟩
    · have ⟨hp, hp0⟩ := pow_small p.tries c (by omega)
      have hm : p.rtt * 2 ^ (p.tries + 1).toNat ≤ 1099511627776 * 16 := Int.mul_le_mul b hp hp0 (by decide)
      have hm0 : 0 ≤ p.rtt * 2 ^ (p.tries + 1).toNat := Int.mul_nonneg a hp0
      exact ⟨a, b, by show 0 ≤ p.tries + 1; omega, by show p.tries + 1 ≤ 4; omega, by show 0 ≤ now + _; omega, by show now + _ ≤ _; omega, g⟩
theorem Ok.dueTo {T : Tab} (h : Ok T) {now : Int} (h0 : 0 ≤ now) (h1 : now ≤ 1099511627776) (k : Nat) : Ok (dueTo now T k) := by
  intro i
  unfold Paths.dueTo
  split
  · exact (h i).due h0 h1
  · exact h i
theorem dueTo_succ (now : Int) (T : Tab) (k : Nat) : dueTo now T (k + 1) = upd (dueTo now T k) k (dueP now (T k)) := by
  funext i
  unfold dueTo upd
  by_cases h : i = k
  · subst h; simp
  · by_cases h' : i < k
    · simp [h, h', show i < k + 1 by omega]
    · simp [h, h', show ¬ i < k + 1 by omega]
theorem dueTo_at (now : Int) (T : Tab) (k : Nat) : dueTo now T k k = T k := by simp [dueTo]
theorem dueTo_zero (now : Int) (T : Tab) : dueTo now T 0 = T := by funext i; simp [dueTo]
theorem upd_self (T : Tab) (k : Nat) : upd T k (T k) = T := by funext i; unfold upd; split <;> simp_all
theorem upd_upd (T : Tab) (k : Nat) (p q : Path) : upd (upd T k p) k q = upd T k q := by funext i; unfold upd; split <;> rfl
theorem newRtt_lo (r t : Int) : 1 ≤ newRtt r t := by unfold newRtt; omega
theorem newRtt_hi {r t : Int} (h : r ≤ 1099511627776) : newRtt r t ≤ 1099511627776 := by unfold newRtt; omega
theorem ok_st {p : Path} (h : PathOk p) (x : Int) : PathOk { p with st := x } := ⟨h.rtt0, h.rtt1, h.tries0, h.tries1, h.next0, h.next1, h.tok⟩
theorem ok_rtt {p : Path} (h : PathOk p) (t : Int) : PathOk { p with rtt := newRtt p.rtt t } :=
  ⟨by have := newRtt_lo p.rtt t; show 0 ≤ newRtt p.rtt t; omega, newRtt_hi h.rtt1, h.tries0, h.tries1, h.next0, h.next1, h.tok⟩
end Go.Proofs.Ytiijnhgafadokaa.Paths
