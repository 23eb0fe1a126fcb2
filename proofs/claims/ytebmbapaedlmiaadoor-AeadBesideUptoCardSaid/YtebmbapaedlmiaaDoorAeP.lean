/-
  A block of the stream: the plain facts that its walk asks.
-/
import Derived.Test.YtebmbapaedlmiaaDoorAeO
import Derived.Test.YtebmbapaedlmiaaDoorAeD
import Derived.Test.YtebmbapaedlmiaaDoorAeG
namespace Go.Proofs.YtebmbapaedlmiaaDoor
open Go.RowKit Ae
set_option linter.unusedVariables false

def W32 (l : List Nat) : Prop := ∀ x ∈ l, x < 4294967296
theorem W32.get {l : List Nat} (h : W32 l) (i : Nat) : l.getD i 0 < 4294967296 := by
  rw [List.getD_eq_getElem?_getD]
  cases hi : l[i]? with
  | none => simp
  | some x => exact h x (List.mem_of_getElem? hi)
theorem W32.set {l : List Nat} (h : W32 l) (i : Nat) {x : Nat} (hx : x < 4294967296) : W32 (l.set i x) := fun y hy => by
  rcases List.mem_or_eq_of_mem_set hy with h1 | rfl
  · exact h y h1
  · exact hx
theorem qr_len (a b c d : Nat) : (qr a b c d).length = 4 := rfl
theorem qr_w32 {a b c d : Nat} (ha : a < 4294967296) (hb : b < 4294967296) (hc : c < 4294967296) (hd : d < 4294967296) : W32 (qr a b c d) := by
  intro x hx
  simp only [qr, List.mem_cons, List.not_mem_nil, or_false] at hx
  rcases hx with rfl | rfl | rfl | rfl
  · exact m32_lt _
  · exact rl_lt (xor32_lt (rl_lt (xor32_lt hb (m32_lt _)) _) (m32_lt _)) _
  · exact m32_lt _
  · exact rl_lt (xor32_lt (rl_lt (xor32_lt hd (m32_lt _)) _) (m32_lt _)) _
/-- What the quarter of a state is. -/
def quR (i : Nat) (x : List Nat) : List Nat := qr (x.getD (place i 0) 0) (x.getD (place i 1) 0) (x.getD (place i 2) 0) (x.getD (place i 3) 0)
def quS (i j : Nat) (x : List Nat) : List Nat := itr (fun j y => y.set (place i j) ((quR i x).getD j 0)) j x
theorem quart_eq (i : Nat) (x : List Nat) : quart i x = quS i 4 x := rfl
theorem quR_w32 {x : List Nat} (h : W32 x) (i : Nat) : W32 (quR i x) := qr_w32 (h.get _) (h.get _) (h.get _) (h.get _)
theorem quS_len (i : Nat) (x : List Nat) : ∀ j, (quS i j x).length = x.length
  | 0 => rfl
  | j + 1 => by show (List.set _ _ _).length = _; rw [List.length_set]; exact quS_len i x j
theorem quS_w32 {x : List Nat} (h : W32 x) (i : Nat) : ∀ j, W32 (quS i j x)
  | 0 => h
  | j + 1 => (quS_w32 h i j).set _ ((quR_w32 h i).get _)
theorem rnd_len (x : List Nat) : ∀ k, (itr quart k x).length = x.length
  | 0 => rfl
  | k + 1 => by show (quart k _).length = _; rw [quart_eq, quS_len]; exact rnd_len x k
theorem rnd_w32 {x : List Nat} (h : W32 x) : ∀ k, W32 (itr quart k x)
  | 0 => h
  | k + 1 => by
    show W32 (quart k (itr quart k x))
    rw [quart_eq]
    exact quS_w32 (rnd_w32 h k) k 4
theorem rnds_len' (m : Nat) (x : List Nat) : ∀ n, (itr (fun _ x => itr quart m x) n x).length = x.length
  | 0 => rfl
  | n + 1 => by show (itr quart m _).length = _; rw [rnd_len]; exact rnds_len' m x n
theorem rnds_w32' (m : Nat) {x : List Nat} (h : W32 x) : ∀ n, W32 (itr (fun _ x => itr quart m x) n x)
  | 0 => h
  | n + 1 => rnd_w32 (rnds_w32' m h n) m
theorem rnds_len (x : List Nat) (n : Nat) : (itr (fun _ x => itr quart 8 x) n x).length = x.length := rnds_len' 8 x n
theorem rnds_w32 {x : List Nat} (h : W32 x) (n : Nat) : W32 (itr (fun _ x => itr quart 8 x) n x) := rnds_w32' 8 h n
theorem place_lt {i j : Nat} (hi : i < 8) (hj : j < 4) : place i j < 16 := by
  rcases (by omega : i = 0 ∨ i = 1 ∨ i = 2 ∨ i = 3 ∨ i = 4 ∨ i = 5 ∨ i = 6 ∨ i = 7) with rfl | rfl | rfl | rfl | rfl | rfl | rfl | rfl <;>
    rcases (by omega : j = 0 ∨ j = 1 ∨ j = 2 ∨ j = 3) with rfl | rfl | rfl | rfl <;> decide
theorem word4_lt {l : List Nat} (h : Byt l) (i : Nat) : word4 l i < 4294967296 := by
  have g : ∀ i, l.getD i 0 < 256 := fun i => by
    rw [List.getD_eq_getElem?_getD]
    cases hi : l[i]? with
    | none => simp
    | some x => exact h x (List.mem_of_getElem? hi)
  have h0 := g i
  have h1 := g (i + 1)
  have h2 := g (i + 2)
  have h3 := g (i + 3)
  unfold word4
  omega
theorem startW_len (key : List Nat) (ctr : Nat) (nonce : List Nat) : (startW key ctr nonce).length = 16 := rfl
theorem startW_w32 {key nonce : List Nat} {ctr : Nat} (hk : Byt key) (hn : Byt nonce) (hc : ctr < 4294967296) : W32 (startW key ctr nonce) := by
  intro x hx
  simp only [startW, List.mem_append, List.mem_cons, List.mem_map, headW, List.not_mem_nil, or_false] at hx
  rcases hx with (hx | ⟨i, _, rfl⟩) | rfl | ⟨i, _, rfl⟩
  · omega
  · exact word4_lt hk _
  · exact hc
  · exact word4_lt hn _
theorem startW_head (key : List Nat) (ctr : Nat) (nonce : List Nat) {k : Nat} (hk : k < 4) : (startW key ctr nonce)[k]? = some (headW.getD k 0) := by
  rcases (by omega : k = 0 ∨ k = 1 ∨ k = 2 ∨ k = 3) with rfl | rfl | rfl | rfl <;> rfl
theorem startW_key (key : List Nat) (ctr : Nat) (nonce : List Nat) {k : Nat} (hk : k < 8) : (startW key ctr nonce)[4 + k]? = some (word4 key (4 * k)) := by
  rcases (by omega : k = 0 ∨ k = 1 ∨ k = 2 ∨ k = 3 ∨ k = 4 ∨ k = 5 ∨ k = 6 ∨ k = 7) with rfl | rfl | rfl | rfl | rfl | rfl | rfl | rfl <;> rfl
theorem startW_ctr (key : List Nat) (ctr : Nat) (nonce : List Nat) : (startW key ctr nonce)[12]? = some ctr := rfl
theorem startW_nonce (key : List Nat) (ctr : Nat) (nonce : List Nat) {k : Nat} (hk : k < 3) : (startW key ctr nonce)[13 + k]? = some (word4 nonce (4 * k)) := by
  rcases (by omega : k = 0 ∨ k = 1 ∨ k = 2) with rfl | rfl | rfl <;> rfl
theorem flat4_get : ∀ (L : List Nat) (i k x : Nat), L[i]? = some x → k < 4 → ((L.map (bytesOf 4)).flatten)[4 * i + k]? = some (x / 256 ^ k % 256)
  | [], _, _, _, h, _ => by simp at h
  | y :: L, 0, k, x, h, hk => by
    simp at h
    subst h
    rw [List.map_cons, List.flatten_cons, List.getElem?_append_left (by rw [bytesOf_len]; omega), Nat.mul_zero, Nat.zero_add]
    exact bytesOf_get 4 _ _ hk
  | y :: L, i + 1, k, x, h, hk => by
    rw [List.map_cons, List.flatten_cons, List.getElem?_append_right (by rw [bytesOf_len]; omega), bytesOf_len, show 4 * (i + 1) + k - 4 = 4 * i + k by omega]
    exact flat4_get L i k x (by simpa using h) hk
theorem flat4_len : ∀ (L : List Nat), ((L.map (bytesOf 4)).flatten).length = 4 * L.length
  | [] => rfl
  | y :: L => by rw [List.map_cons, List.flatten_cons, List.length_append, bytesOf_len, flat4_len L, List.length_cons]; omega
theorem blockW_len (key : List Nat) (ctr : Nat) (nonce : List Nat) : (blockW key ctr nonce).length = 16 := by
  simp [blockW, rnds_len, startW_len]
theorem block_len (key : List Nat) (ctr : Nat) (nonce : List Nat) : (block key ctr nonce).length = 64 := by rw [block, flat4_len, blockW_len]
theorem flat4_byt (L : List Nat) : Byt ((L.map (bytesOf 4)).flatten) := by
  intro b hb
  obtain ⟨m, hm, hbm⟩ := List.mem_flatten.1 hb
  obtain ⟨x, _, rfl⟩ := List.mem_map.1 hm
  exact bytesOf_byt 4 x b hbm
theorem block_get {key nonce : List Nat} {ctr i k x : Nat} (h : (blockW key ctr nonce)[i]? = some x) (hk : k < 4) : (block key ctr nonce)[4 * i + k]? = some (x / 256 ^ k % 256) := by
  rw [block]; exact flat4_get _ _ _ _ h hk
theorem block_byt (key : List Nat) (ctr : Nat) (nonce : List Nat) : Byt (block key ctr nonce) := flat4_byt _
theorem blockW_get (key : List Nat) (ctr : Nat) (nonce : List Nat) {i : Nat} (hi : i < 16) : (blockW key ctr nonce)[i]? = some (m32 ((itr (fun _ x => itr quart 8 x) 10 (startW key ctr nonce)).getD i 0 + (startW key ctr nonce).getD i 0)) := by
  unfold blockW
  simp only
  rw [List.getElem?_zipWith, List.getD_eq_getElem?_getD, List.getD_eq_getElem?_getD,
    List.getElem?_eq_getElem (by rw [rnds_len, startW_len]; exact hi), List.getElem?_eq_getElem (by rw [startW_len]; exact hi)]
  rfl
theorem rnds_succ (m n : Nat) (x : List Nat) : itr (fun _ x => itr quart m x) (n + 1) x = itr quart m (itr (fun _ x => itr quart m x) n x) := rfl
/-- The cells of the table of a round's quarters. -/
def roundCells : List Value := roundP.flatten.map fun (n : Nat) => Value.int .i64 (n : Int)
theorem blockW_get' {key nonce X : List Nat} {ctr i n a b v : Nat} (hi : i < 16) (hn : n = 10) {ST : List Nat} (hS : ST = startW key ctr nonce) (hX : X = itr (fun _ x => itr quart 8 x) n ST) (ha : a = X.getD i 0) (hb : b = ST.getD i 0) (hv : v = m32 (a + b)) : (blockW key ctr nonce)[i]? = some v := by
  have e := blockW_get key ctr nonce hi
  rw [← hS] at e
  rw [← hn, ← hX, ← ha, ← hb, ← hv] at e
  exact e
/-- The closed facts on types. -/
theorem at_round {k : Nat} (hk : k < 8) (w : World) : (Instr.index 55 (.agg roundCells.toArray) (.int .i64 (k : Int))).run Tryd.prog w =
    .ok (.agg #[.int .i64 (place k 0 : Int), .int .i64 (place k 1 : Int), .int .i64 (place k 2 : Int), .int .i64 (place k 3 : Int)]) w := by
  rcases (by omega : k = 0 ∨ k = 1 ∨ k = 2 ∨ k = 3 ∨ k = 4 ∨ k = 5 ∨ k = 6 ∨ k = 7) with rfl | rfl | rfl | rfl | rfl | rfl | rfl | rfl <;> kernel_rfl
theorem at_head {k : Nat} (hk : k < 4) (w : World) : (Instr.index 51 (.agg (ws headW)) (.int .i64 (k : Int))).run Tryd.prog w = .ok (.int .u32 ((headW.getD k 0 : Nat) : Int)) w := by
  obtain ⟨i, hi⟩ := infoS32
  exact run_index_arr w Tryd.underlying51 (by kernel_rfl) hi (by kernel_rfl) _ k hk _ (ws_get (by rcases (by omega : k = 0 ∨ k = 1 ∨ k = 2 ∨ k = 3) with rfl | rfl | rfl | rfl <;> rfl))
theorem at_place {k j : Nat} (hk : k < 8) (hj : j < 4) (w : World) : (Instr.index 54 (.agg #[.int .i64 (place k 0 : Int), .int .i64 (place k 1 : Int), .int .i64 (place k 2 : Int), .int .i64 (place k 3 : Int)]) (.int .i64 (j : Int))).run Tryd.prog w = .ok (.int .i64 ((place k j : Nat) : Int)) w := by
  obtain ⟨i, hi⟩ := infoSi
  exact run_index_arr w Tryd.underlying54 (by kernel_rfl) hi (by kernel_rfl) _ j hj _ (by rcases (by omega : j = 0 ∨ j = 1 ∨ j = 2 ∨ j = 3) with rfl | rfl | rfl | rfl <;> rfl)
theorem ia54 (b j : Nat) (hj : (j : Int) < 4) (w : World) : (Instr.indexAt 54 (.pointer (some ⟨b, 0, none⟩)) (.int .i64 (j : Int))).run Tryd.prog w = .ok (.pointer (some ⟨b, j, none⟩)) w := by go_simp
theorem ia53 (b j : Nat) (hj : (j : Int) < 16) (w : World) : (Instr.indexAt 53 (.pointer (some ⟨b, 0, none⟩)) (.int .i64 (j : Int))).run Tryd.prog w = .ok (.pointer (some ⟨b, j, none⟩)) w := by go_simp
theorem ld3 (b j : Nat) (v : Int) (w : World) (h : w.cell? ⟨b, j, none⟩ = some (.int .i64 v)) : (Instr.loadAt 3 (.pointer (some ⟨b, j, none⟩))).run Tryd.prog w = .ok (.int .i64 v) w := by go_simp
theorem ld39 (b j : Nat) (v : Int) (w : World) (h : w.cell? ⟨b, j, none⟩ = some (.int .u32 v)) : (Instr.loadAt 39 (.pointer (some ⟨b, j, none⟩))).run Tryd.prog w = .ok (.int .u32 v) w := by go_simp
theorem bd51 (a b c d : Int) (w : World) : (Instr.build 51 #[(0, .int .u32 a), (1, .int .u32 b), (2, .int .u32 c), (3, .int .u32 d)]).run Tryd.prog w = .ok (.agg #[.int .u32 a, .int .u32 b, .int .u32 c, .int .u32 d]) w := by go_simp
theorem info16w : InfoArr 53 16 := by unfold InfoArr; kernel_rfl
theorem info64 : InfoArr 43 64 := by unfold InfoArr; kernel_rfl
end Go.Proofs.YtebmbapaedlmiaaDoor
