/- Plain law: lists of 32-bit words as whole numbers: their value, trimming, sums and differences with a carry. No program in sight. -/
namespace Go.Proofs.YtoefahgookhicaaGreatDoorBesafter

/-! Lists of 32-bit words, the least first. -/

def val : List Nat → Nat
  | [] => 0
  | x :: r => x + 4294967296 * val r

/-- All are words. -/
def Ws (xs : List Nat) : Prop := ∀ x ∈ xs, x < 4294967296
/-- No nought at the end. -/
def Tr (xs : List Nat) : Prop := ∀ h : xs ≠ [], xs.getLast h ≠ 0

theorem Ws.nil : Ws [] := fun x h => by cases h
theorem Ws.cons {x : Nat} {r : List Nat} (h : x < 4294967296) (hr : Ws r) : Ws (x :: r) := fun y hy => by
  rcases List.mem_cons.1 hy with rfl | hy
  · exact h
  · exact hr y hy
theorem Ws.head {x : Nat} {r : List Nat} (h : Ws (x :: r)) : x < 4294967296 := h x (List.mem_cons_self ..)
theorem Ws.tail {x : Nat} {r : List Nat} (h : Ws (x :: r)) : Ws r := fun y hy => h y (List.mem_cons_of_mem _ hy)
theorem Ws.append {a b : List Nat} (ha : Ws a) (hb : Ws b) : Ws (a ++ b) := fun x hx => by
  rcases List.mem_append.1 hx with h | h
  · exact ha x h
  · exact hb x h
theorem Ws.take {a : List Nat} (ha : Ws a) (n : Nat) : Ws (a.take n) := fun x hx => ha x (List.mem_of_mem_take hx)
theorem Ws.drop {a : List Nat} (ha : Ws a) (n : Nat) : Ws (a.drop n) := fun x hx => ha x (List.mem_of_mem_drop hx)
theorem Ws.getD {a : List Nat} (ha : Ws a) (i : Nat) : a.getD i 0 < 4294967296 := by
  by_cases h : i < a.length
  · rw [List.getD_eq_getElem?_getD, List.getElem?_eq_getElem h]; exact ha _ (List.getElem_mem h)
  · rw [List.getD_eq_getElem?_getD, List.getElem?_eq_none (by omega)]; decide
theorem Ws.set {a : List Nat} (ha : Ws a) (i x : Nat) (h : x < 4294967296) : Ws (a.set i x) := fun y hy => by
  rcases List.mem_or_eq_of_mem_set hy with h1 | h1
  · exact ha y h1
  · rw [h1]; exact h
theorem Ws.zeros (n : Nat) : Ws (List.replicate n 0) := fun x hx => by
  rw [List.eq_of_mem_replicate hx]; decide

theorem pow32_pos (n : Nat) : 0 < 4294967296 ^ n := Nat.pow_pos (by decide)
theorem pow32_succ (n : Nat) : 4294967296 ^ (n + 1) = 4294967296 * 4294967296 ^ n := by rw [Nat.pow_succ, Nat.mul_comm]
theorem pow32 (n : Nat) : 4294967296 ^ n = 2 ^ (32 * n) := by rw [Nat.pow_mul]

theorem val_append (a b : List Nat) : val (a ++ b) = val a + 4294967296 ^ a.length * val b := by
  induction a with
  | nil => simp [val]
  | cons x r ih =>
    simp only [List.cons_append, val, ih, List.length_cons, pow32_succ, Nat.mul_add, Nat.mul_assoc, Nat.add_assoc]

theorem val_lt {a : List Nat} (h : Ws a) : val a < 4294967296 ^ a.length := by
  induction a with
  | nil => decide
  | cons x r ih =>
    have h1 := ih h.tail
    have h2 := h.head
    simp only [val, List.length_cons, pow32_succ]
    have : 4294967296 * (val r + 1) ≤ 4294967296 * 4294967296 ^ r.length := Nat.mul_le_mul_left _ h1
    omega

theorem val_zeros (n : Nat) : val (List.replicate n 0) = 0 := by
  induction n with
  | zero => rfl
  | succ n ih => rw [List.replicate_succ]; simp [val, ih]

theorem val_snoc (a : List Nat) (x : Nat) : val (a ++ [x]) = val a + 4294967296 ^ a.length * x := by
  rw [val_append]; simp [val]

/-- One word more. -/
theorem val_take_succ (a : List Nat) (i : Nat) (h : i < a.length) : val (a.take (i + 1)) = val (a.take i) + 4294967296 ^ i * a.getD i 0 := by
  rw [List.take_succ_eq_append_getElem h, val_snoc, List.length_take, Nat.min_eq_left (by omega), List.getD_eq_getElem?_getD, List.getElem?_eq_getElem h]
  rfl

theorem val_take_ge (a : List Nat) (i : Nat) (h : a.length ≤ i) : val (a.take i) = val a := by rw [List.take_of_length_le h]

/-- One word more, or nothing where there is none. -/
theorem val_take_next (a : List Nat) (i : Nat) : val (a.take (i + 1)) = val (a.take i) + 4294967296 ^ i * a.getD i 0 := by
  by_cases h : i < a.length
  · exact val_take_succ a i h
  · rw [val_take_ge a _ (by omega), val_take_ge a _ (by omega), List.getD_eq_getElem?_getD, List.getElem?_eq_none (by omega)]; simp

theorem val_drop (a : List Nat) (i : Nat) (h : i ≤ a.length) : val a = val (a.take i) + 4294967296 ^ i * val (a.drop i) := by
  conv => lhs; rw [← List.take_append_drop i a]
  rw [val_append, List.length_take, Nat.min_eq_left h]

theorem val_set (a : List Nat) (i x : Nat) (h : i < a.length) : val (a.set i x) + 4294967296 ^ i * a.getD i 0 = val a + 4294967296 ^ i * x := by
  induction a generalizing i with
  | nil => cases h
  | cons y r ih =>
    cases i with
    | zero => simp [val]; omega
    | succ i =>
      have := ih i (by simpa using h)
      simp only [List.set_cons_succ, val, List.getD_cons_succ, pow32_succ, Nat.mul_assoc]
      have e := congrArg (4294967296 * ·) this
      simp only [Nat.mul_add] at e
      omega

theorem val_ge {a : List Nat} (h : a ≠ []) (ht : a.getLast h ≠ 0) : 4294967296 ^ (a.length - 1) ≤ val a := by
  have e := List.dropLast_concat_getLast h
  rw [← e, val_snoc]
  simp only [List.length_append, List.length_dropLast, List.length_cons, List.length_nil, Nat.add_sub_cancel, List.length_dropLast]
  have : 4294967296 ^ (a.length - 1) * 1 ≤ 4294967296 ^ (a.length - 1) * a.getLast h := Nat.mul_le_mul_left _ (by omega)
  omega

theorem Tr.pos {a : List Nat} (ht : Tr a) (h : a ≠ []) : 0 < val a := Nat.lt_of_lt_of_le (pow32_pos _) (val_ge h (ht h))
theorem Tr.val_zero {a : List Nat} (ht : Tr a) : val a = 0 ↔ a = [] := by
  constructor
  · intro h
    by_cases ha : a = []
    · exact ha
    · have := ht.pos ha; omega
  · rintro rfl; rfl
theorem Tr.length_zero {a : List Nat} (ht : Tr a) : a.length = 0 ↔ val a = 0 := by rw [ht.val_zero]; exact List.length_eq_zero_iff

theorem Tr.nil : Tr [] := fun h => absurd rfl h

/-- Which is shorter is less. -/
theorem val_lt_of_length {a b : List Nat} (ha : Ws a) (hb : Tr b) (h : a.length < b.length) : val a < val b := by
  have h1 := val_lt ha
  have hb0 : b ≠ [] := by intro e; subst e; simp at h
  have h2 := val_ge hb0 (hb hb0)
  have h3 : 4294967296 ^ a.length ≤ 4294967296 ^ (b.length - 1) := Nat.pow_le_pow_right (by decide) (by omega)
  omega

/-- Lists of one length: the first from above that differ decide. -/
theorem val_lt_at {a b : List Nat} {i : Nat} (ha : Ws a) (hl : a.length = b.length) (hi : i < a.length) (hd : a.drop (i + 1) = b.drop (i + 1)) (h : a.getD i 0 < b.getD i 0) : val a < val b := by
  rw [val_drop a (i + 1) (by omega), val_drop b (i + 1) (by omega), hd, val_take_succ a i hi, val_take_succ b i (by omega)]
  have h1 := val_lt (ha.take i)
  rw [List.length_take, Nat.min_eq_left (by omega)] at h1
  have h2 : 4294967296 ^ i * (a.getD i 0 + 1) ≤ 4294967296 ^ i * b.getD i 0 := Nat.mul_le_mul_left _ h
  rw [Nat.mul_add, Nat.mul_one] at h2
  omega

theorem drop_eq_step {a b : List Nat} {i : Nat} (hl : a.length = b.length) (hi : i < a.length) (hd : a.drop (i + 1) = b.drop (i + 1)) (h : a.getD i 0 = b.getD i 0) : a.drop i = b.drop i := by
  rw [List.drop_eq_getElem_cons hi, List.drop_eq_getElem_cons (by omega : i < b.length), hd]
  congr 1
  simpa [List.getD_eq_getElem?_getD, List.getElem?_eq_getElem hi, List.getElem?_eq_getElem (by omega : i < b.length)] using h

/-- What is cut off a list's end are noughts. -/
theorem val_take_zeros {a : List Nat} {n : Nat} (hn : n ≤ a.length) (h : ∀ i, n ≤ i → a.getD i 0 = 0) : val (a.take n) = val a := by
  rw [val_drop a n hn]
  have : a.drop n = List.replicate (a.length - n) 0 := by
    apply List.ext_getElem
    · simp
    · intro j h1 h2
      have := h (n + j) (by omega)
      rw [List.getElem_drop, List.getElem_replicate]
      simpa [List.getD_eq_getElem?_getD, List.getElem?_eq_getElem (by simp at h1; omega : n + j < a.length)] using this
  rw [this, val_zeros]; omega

theorem Tr.take {a : List Nat} {n : Nat} (hn : n ≤ a.length) (h : 0 < n → a.getD (n - 1) 0 ≠ 0) : Tr (a.take n) := by
  intro h0 hz
  have hn0 : 0 < n := by
    rcases Nat.eq_zero_or_pos n with e | e
    · subst e; simp at h0
    · exact e
  apply h hn0
  rw [List.getLast_eq_getElem] at hz
  simp only [List.getElem_take, List.length_take, Nat.min_eq_left hn] at hz
  rw [List.getD_eq_getElem?_getD, List.getElem?_eq_getElem (by omega : n - 1 < a.length)]
  exact hz

end Go.Proofs.YtoefahgookhicaaGreatDoorBesafter
