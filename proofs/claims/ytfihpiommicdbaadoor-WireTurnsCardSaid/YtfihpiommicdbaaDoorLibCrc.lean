/- The sum: the table of half bytes, the document division, the register bit by bit: one and the same; a run of at most 32 turned bits is seen. Plain: no program. No condition. -/
namespace Go.Cl
abbrev W32 := BitVec 32
def poly : W32 := 0xedb88320#32
/-- One bit through the register. -/
def stepR (s : W32) : W32 := (s >>> 1) ^^^ (if s.getLsbD 0 then poly else 0#32)
theorem stepR_zero : stepR 0#32 = 0#32 := by decide
theorem stepR_xor (a b : W32) : stepR (a ^^^ b) = stepR a ^^^ stepR b := by
  unfold stepR
  rw [BitVec.getLsbD_xor, BitVec.ushiftRight_xor_distrib]
  cases a.getLsbD 0 <;> cases b.getLsbD 0 <;> simp <;> (try ac_rfl)
  rw [show a >>> 1 ^^^ poly ^^^ (b >>> 1 ^^^ poly) = a >>> 1 ^^^ b >>> 1 ^^^ (poly ^^^ poly) by ac_rfl, BitVec.xor_self]
  simp
theorem stepR_even {a : W32} (h : a.getLsbD 0 = false) : stepR a = a >>> 1 := by
  unfold stepR
  rw [h]
  simp
theorem stepR_inj {a : W32} (h : stepR a = 0#32) : a = 0#32 := by
  have h0 : a.getLsbD 0 = false := by
    cases e : a.getLsbD 0 with
    | false => rfl
    | true =>
      unfold stepR at h
      rw [e] at h
      have h31 : (((a >>> 1) ^^^ (if true = true then poly else 0#32))).getLsbD 31 = false := by rw [h]; rfl
      rw [BitVec.getLsbD_xor, BitVec.getLsbD_ushiftRight, BitVec.getLsbD_of_ge _ _ (by omega)] at h31
      exact absurd h31 (by decide)
  rw [stepR_even h0] at h
  apply BitVec.eq_of_getLsbD_eq
  intro i hi
  cases i with
  | zero => simpa using h0
  | succ i =>
    have : (a >>> 1).getLsbD i = false := by rw [h]; simp
    rw [BitVec.getLsbD_ushiftRight, Nat.add_comm] at this
    simpa using this
def steps : Nat → W32 → W32
  | 0, s => s
  | n + 1, s => stepR (steps n s)
theorem steps_zero (n : Nat) : steps n 0#32 = 0#32 := by
  induction n with
  | zero => rfl
  | succ n ih => rw [steps, ih, stepR_zero]
theorem steps_xor (n : Nat) (a b : W32) : steps n (a ^^^ b) = steps n a ^^^ steps n b := by
  induction n with
  | zero => rfl
  | succ n ih => simp only [steps, ih, stepR_xor]
theorem steps_inj (n : Nat) {a : W32} (h : steps n a = 0#32) : a = 0#32 := by
  induction n with
  | zero => exact h
  | succ n ih => exact ih (stepR_inj h)
theorem steps_stepR (n : Nat) (s : W32) : steps n (stepR s) = stepR (steps n s) := by
  induction n with
  | zero => rfl
  | succ n ih => simp only [steps, ih]

def low (b : Bool) : W32 := if b then 1#32 else 0#32
def top (b : Bool) : W32 := if b then 0x80000000#32 else 0#32
/-- The register fed from below (as Go's code does), and from the top (as by division). -/
def rD (s : W32) (f : Nat → Bool) : Nat → W32
  | 0 => s
  | k + 1 => stepR (rD s f k ^^^ low (f k))
def rA (f : Nat → Bool) : Nat → W32
  | 0 => 0#32
  | k + 1 => stepR (rA f k) ^^^ top (f k)
theorem low_xor (a b : Bool) : low (a ^^ b) = low a ^^^ low b := by cases a <;> cases b <;> decide
theorem top_xor (a b : Bool) : top (a ^^ b) = top a ^^^ top b := by cases a <;> cases b <;> decide
theorem rD_lin (s : W32) (f : Nat → Bool) (n : Nat) : rD s f n = steps n s ^^^ rD 0#32 f n := by
  induction n with
  | zero => simp [rD, steps]
  | succ n ih =>
    simp only [rD, steps, ih, stepR_xor]
    ac_rfl
theorem rD_xor (s t : W32) (f g : Nat → Bool) (n : Nat) : rD s f n ^^^ rD t g n = rD (s ^^^ t) (fun k => f k ^^ g k) n := by
  induction n with
  | zero => rfl
  | succ n ih =>
    simp only [rD, ← ih, stepR_xor, low_xor]
    ac_rfl
theorem rA_xor (f g : Nat → Bool) (n : Nat) : rA (fun k => f k ^^ g k) n = rA f n ^^^ rA g n := by
  induction n with
  | zero => simp [rA]
  | succ n ih =>
    simp only [rA, ih, stepR_xor, top_xor]
    ac_rfl
theorem rA_more (f : Nat → Bool) (n m : Nat) (h : ∀ k, n ≤ k → k < n + m → f k = false) : rA f (n + m) = steps m (rA f n) := by
  induction m with
  | zero => rfl
  | succ m ih =>
    rw [← Nat.add_assoc, rA, ih (fun k a b => h k a (by omega)), h (n + m) (by omega) (by omega), steps]
    simp [top]
theorem rD_more (s : W32) (f : Nat → Bool) (n m : Nat) (h : ∀ k, n ≤ k → k < n + m → f k = false) : rD s f (n + m) = steps m (rD s f n) := by
  induction m with
  | zero => rfl
  | succ m ih =>
    rw [← Nat.add_assoc, rD, ih (fun k a b => h k a (by omega)), h (n + m) (by omega) (by omega), steps]
    simp [low]
theorem steps_top (b : Bool) : steps 32 (top b) = stepR (low b) := by cases b <;> decide +kernel
theorem rA_rD (f : Nat → Bool) (n : Nat) : steps 32 (rA f n) = rD 0#32 f n := by
  induction n with
  | zero => exact steps_zero 32
  | succ n ih => rw [rA, rD, steps_xor, steps_top, steps_stepR, ih, stepR_xor]
theorem rA_ones : rA (fun k => decide (k < 32)) 32 = 0xffffffff#32 := by decide +kernel
/-- Division is the register begun with ones. -/
theorem divides (f : Nat → Bool) (n : Nat) (h : ∀ k, n ≤ k → f k = false) : rA (fun k => f k ^^ decide (k < 32)) (n + 32) = rD 0xffffffff#32 f n := by
  rw [rA_xor, rA_more f n 32 (fun k a _ => h k a), rA_rD, Nat.add_comm n 32, rA_more _ 32 n (fun k a _ => by simp; omega), rA_ones, rD_lin 0xffffffff#32]
  ac_rfl

/-! ### a run of turned bits is seen -/
def wordOfBits (e : Nat → Bool) : Nat → W32
  | 0 => 0#32
  | m + 1 => wordOfBits e m ^^^ (low (e m) <<< m)
theorem steps_shift (m : Nat) (hm : m < 32) (b : Bool) : steps m (low b <<< m) = low b := by
  have h : ∀ m : Fin 32, ∀ b : Bool, steps m (low b <<< (m : Nat)) = low b := by decide +kernel
  exact h ⟨m, hm⟩ b
theorem rD_word (e : Nat → Bool) (m : Nat) (hm : m ≤ 32) : rD 0#32 e m = steps m (wordOfBits e m) := by
  induction m with
  | zero => rfl
  | succ m ih =>
    rw [rD, ih (by omega), wordOfBits, steps, steps_xor, steps_shift m (by omega)]
theorem wordOfBits_bit0 (e : Nat → Bool) (m : Nat) : (wordOfBits e (m + 1)).getLsbD 0 = e 0 := by
  induction m with
  | zero => simp only [wordOfBits]; cases e 0 <;> decide
  | succ m ih =>
    rw [wordOfBits, BitVec.getLsbD_xor, ih, BitVec.getLsbD_shiftLeft]
    simp
theorem rD_shift (e : Nat → Bool) (n : Nat) : ∀ m, rD (rD 0#32 e n) (fun k => e (n + k)) m = rD 0#32 e (n + m) := by
  intro m
  induction m with
  | zero => rfl
  | succ m ih => rw [rD, ih, ← Nat.add_assoc, rD]
/-- Of a run of at most 32 bits, the first of which is turned, something is left. -/
theorem burst (e : Nat → Bool) (from' n : Nat) (h0 : ∀ k, k < from' → e k = false) (h1 : e from' = true) (h2 : ∀ k, from' + 32 ≤ k → e k = false) (hn : from' < n) : rD 0#32 e n ≠ 0#32 := by
  have ha : rD 0#32 e from' = 0#32 := by
    have := rD_more 0#32 e 0 from' (fun k _ b => h0 k (by omega))
    rw [Nat.zero_add] at this
    rw [this]
    exact steps_zero _
  have hb : ∀ m, 0 < m → m ≤ 32 → rD 0#32 e (from' + m) ≠ 0#32 := by
    intro m h0 hm hz
    rw [← rD_shift, ha, rD_word _ _ hm] at hz
    have := steps_inj m hz
    obtain ⟨k, rfl⟩ : ∃ k, m = k + 1 := ⟨m - 1, by omega⟩
    have h3 := wordOfBits_bit0 (fun k => e (from' + k)) k
    rw [this] at h3
    simp [h1] at h3
  by_cases hm : n - from' ≤ 32
  · have := hb (n - from') (by omega) hm
    rwa [Nat.add_sub_cancel' (by omega)] at this
  · have hx := rD_more 0#32 e (from' + 32) (n - from' - 32) (fun k a _ => h2 k a)
    rw [show from' + 32 + (n - from' - 32) = n by omega] at hx
    rw [hx]
    intro hz
    exact hb 32 (by omega) (by omega) (steps_inj _ hz)

/-! ### bytes -/
def bitOf (bs : List Nat) (k : Nat) : Bool := (bs.getD (k / 8) 0).testBit (k % 8)
theorem bitOf_past (bs : List Nat) (k : Nat) (h : 8 * bs.length ≤ k) : bitOf bs k = false := by
  unfold bitOf
  rw [List.getD_eq_getElem?_getD, List.getElem?_eq_none (by omega)]
  simp
theorem rD_congr (s : W32) (f g : Nat → Bool) (n : Nat) (h : ∀ k, k < n → f k = g k) : rD s f n = rD s g n := by
  induction n with
  | zero => rfl
  | succ n ih => rw [rD, rD, ih fun k hk => h k (by omega), h n (by omega)]
theorem rD_byte (b : Nat) (hb : b < 256) (s : W32) : rD s (fun k => b.testBit k) 8 = steps 8 (s ^^^ BitVec.ofNat 32 b) := by
  rw [rD_lin, steps_xor]
  congr 1
  have h : ∀ b : Fin 256, rD 0#32 (fun k => (b : Nat).testBit k) 8 = steps 8 (BitVec.ofNat 32 b) := by decide +kernel
  exact h ⟨b, hb⟩
theorem rD_shift' (s : W32) (e : Nat → Bool) (n : Nat) : ∀ m, rD (rD s e n) (fun k => e (n + k)) m = rD s e (n + m) := by
  intro m
  induction m with
  | zero => rfl
  | succ m ih => rw [rD, ih, ← Nat.add_assoc, rD]
def byteW (s : W32) (b : Nat) : W32 := steps 8 (s ^^^ BitVec.ofNat 32 b)
theorem rD_bytes (bs : List Nat) (hb : ∀ b ∈ bs, b < 256) (s : W32) (j : Nat) (hj : j ≤ bs.length) : rD s (bitOf bs) (8 * j) = (bs.take j).foldl byteW s := by
  induction j with
  | zero => rfl
  | succ j ih =>
    rw [List.take_succ_eq_append_getElem (by omega), List.foldl_append, ← ih (by omega), Nat.mul_succ, ← rD_shift']
    simp only [List.foldl_cons, List.foldl_nil, byteW]
    rw [← rD_byte _ (hb _ (List.getElem_mem (by omega)))]
    refine rD_congr _ _ _ _ fun k hk => ?_
    unfold bitOf
    rw [show (8 * j + k) / 8 = j by omega, show (8 * j + k) % 8 = k by omega, List.getD_eq_getElem?_getD, List.getElem?_eq_getElem (by omega), Option.getD_some]

/-! ### half a byte by the table -/
def tabL : List Nat := [0x00000000, 0x1db71064, 0x3b6e20c8, 0x26d930ac, 0x76dc4190, 0x6b6b51f4, 0x4db26158, 0x5005713c, 0xedb88320, 0xf00f9344, 0xd6d6a3e8, 0xcb61b38c, 0x9b64c2b0, 0x86d3d2d4, 0xa00ae278, 0xbdbdf21c]
def nib (s : Nat) : Nat := s / 16 ^^^ tabL.getD (s % 16) 0
def byteN (s b : Nat) : Nat := nib (nib (s ^^^ b))
def sumN (bs : List Nat) : Nat := bs.foldl byteN 4294967295 ^^^ 4294967295
theorem tab_lt (k : Nat) (hk : k < 16) : tabL.getD k 0 < 4294967296 := by
  have h : ∀ k : Fin 16, tabL.getD k 0 < 4294967296 := by decide
  exact h ⟨k, hk⟩
theorem nib_lt (s : Nat) (hs : s < 4294967296) : nib s < 4294967296 := Nat.xor_lt_two_pow (n := 32) (by omega) (tab_lt _ (by omega))
theorem steps_hi (s : W32) : steps 4 ((s >>> 4) <<< 4) = s >>> 4 := by
  have h : ∀ i, i < 4 → (s >>> 4 <<< 4).getLsbD i = false := fun i hi => by simp [BitVec.getLsbD_shiftLeft]; omega
  have e1 : steps 1 (s >>> 4 <<< 4) = s >>> 4 <<< 4 >>> 1 := stepR_even (h 0 (by omega))
  have e2 : steps 2 (s >>> 4 <<< 4) = s >>> 4 <<< 4 >>> 1 >>> 1 := by
    rw [steps, e1, stepR_even]
    rw [BitVec.getLsbD_ushiftRight]
    exact h 1 (by omega)
  have e3 : steps 3 (s >>> 4 <<< 4) = s >>> 4 <<< 4 >>> 1 >>> 1 >>> 1 := by
    rw [steps, e2, stepR_even]
    rw [BitVec.getLsbD_ushiftRight, BitVec.getLsbD_ushiftRight]
    exact h 2 (by omega)
  rw [steps, e3, stepR_even (by rw [BitVec.getLsbD_ushiftRight, BitVec.getLsbD_ushiftRight, BitVec.getLsbD_ushiftRight]; exact h 3 (by omega))]
  apply BitVec.eq_of_getLsbD_eq
  intro i hi
  simp only [BitVec.getLsbD_ushiftRight, BitVec.getLsbD_shiftLeft]
  have : 1 + (1 + (1 + (1 + i))) - 4 = i := by omega
  rw [this]
  by_cases hx : 1 + (1 + (1 + (1 + i))) < 32
  · simp only [hx]; simp; intro _; omega
  · rw [BitVec.getLsbD_of_ge s _ (by omega)]; simp
theorem split_nib (s : Nat) : BitVec.ofNat 32 s = ((BitVec.ofNat 32 s) >>> 4) <<< 4 ^^^ BitVec.ofNat 32 (s % 16) := by
  apply BitVec.eq_of_getLsbD_eq
  intro i hi
  have e : (s % 16).testBit i = (decide (i < 4) && s.testBit i) := Nat.testBit_mod_two_pow s 4 i
  simp only [BitVec.getLsbD_xor, BitVec.getLsbD_shiftLeft, BitVec.getLsbD_ushiftRight, BitVec.getLsbD_ofNat, e]
  by_cases h4 : i < 4
  · simp [h4, hi]
  · rw [show 4 + (i - 4) = i by omega]; simp [h4, hi]
theorem nib_steps (s : Nat) (hs : s < 4294967296) : BitVec.ofNat 32 (nib s) = steps 4 (BitVec.ofNat 32 s) := by
  have h : ∀ k : Fin 16, steps 4 (BitVec.ofNat 32 k) = BitVec.ofNat 32 (tabL.getD k 0) := by decide +kernel
  rw [split_nib s, steps_xor, steps_hi, h ⟨s % 16, by omega⟩]
  unfold nib
  rw [BitVec.ofNat_xor]
  congr 1
  apply BitVec.eq_of_toNat_eq
  simp only [BitVec.toNat_ofNat, BitVec.toNat_ushiftRight, Nat.shiftRight_eq_div_pow]
  omega
theorem steps_steps (m n : Nat) (s : W32) : steps m (steps n s) = steps (m + n) s := by
  induction m with
  | zero => simp [steps]
  | succ m ih => rw [steps, ih, show m + 1 + n = (m + n) + 1 by omega, steps]
theorem byteN_lt (s b : Nat) (hs : s < 4294967296) (hb : b < 256) : byteN s b < 4294967296 := nib_lt _ (nib_lt _ (Nat.xor_lt_two_pow (n := 32) hs (by omega)))
theorem byteN_W (s b : Nat) (hs : s < 4294967296) (hb : b < 256) : BitVec.ofNat 32 (byteN s b) = byteW (BitVec.ofNat 32 s) b := by
  have hx : s ^^^ b < 4294967296 := Nat.xor_lt_two_pow (n := 32) hs (by omega)
  unfold byteN byteW
  rw [nib_steps _ (nib_lt _ hx), nib_steps _ hx, steps_steps, BitVec.ofNat_xor]
theorem foldN (bs : List Nat) (hb : ∀ b ∈ bs, b < 256) : ∀ s, s < 4294967296 → bs.foldl byteN s < 4294967296 ∧ BitVec.ofNat 32 (bs.foldl byteN s) = bs.foldl byteW (BitVec.ofNat 32 s) := by
  induction bs with
  | nil => intro s hs; exact ⟨hs, rfl⟩
  | cons b bs ih =>
    intro s hs
    have h1 := hb b (by simp)
    have := ih (fun x hx => hb x (by simp [hx])) (byteN s b) (byteN_lt s b hs h1)
    rw [byteN_W s b hs h1] at this
    exact this
theorem foldN_rD (bs : List Nat) (hb : ∀ b ∈ bs, b < 256) : bs.foldl byteN 4294967295 = (rD 0xffffffff#32 (bitOf bs) (8 * bs.length)).toNat := by
  obtain ⟨h1, h2⟩ := foldN bs hb 4294967295 (by omega)
  have := rD_bytes bs hb 0xffffffff#32 bs.length (Nat.le_refl _)
  rw [List.take_length] at this
  rw [this]
  have h3 : BitVec.ofNat 32 4294967295 = 0xffffffff#32 := rfl
  rw [h3] at h2
  rw [← h2, BitVec.toNat_ofNat, Nat.mod_eq_of_lt h1]
theorem sumN_lt (bs : List Nat) (hb : ∀ b ∈ bs, b < 256) : sumN bs < 4294967296 := Nat.xor_lt_two_pow (n := 32) (foldN bs hb 4294967295 (by omega)).1 (by omega)

/-- WHAT A RUN OF AT MOST 32 BITS CHANGES IS SEEN. -/
theorem sumN_burst (b c : List Nat) (hb : ∀ x ∈ b, x < 256) (hc : ∀ x ∈ c, x < 256) (hl : b.length = c.length) (from' : Nat) (hf : from' < 8 * b.length) (h0 : ∀ k, k < from' → bitOf b k = bitOf c k) (h1 : bitOf b from' ≠ bitOf c from') (h2 : ∀ k, from' + 32 ≤ k → bitOf b k = bitOf c k) : sumN b ≠ sumN c := by
  intro h
  have h3 : b.foldl byteN 4294967295 = c.foldl byteN 4294967295 := by
    unfold sumN at h
    have := congrArg (· ^^^ 4294967295) h
    simpa [Nat.xor_assoc] using this
  rw [foldN_rD b hb, foldN_rD c hc, ← hl] at h3
  have h4 := BitVec.eq_of_toNat_eq h3
  have h5 := rD_xor 0xffffffff#32 0xffffffff#32 (bitOf b) (bitOf c) (8 * b.length)
  rw [h4, BitVec.xor_self, BitVec.xor_self] at h5
  refine burst (fun k => bitOf b k ^^ bitOf c k) from' (8 * b.length) (fun k hk => ?_) ?_ (fun k hk => ?_) hf h5.symm
  · rw [h0 k hk]; simp
  · cases e1 : bitOf b from' <;> cases e2 : bitOf c from' <;> simp_all
  · rw [h2 k hk]; simp

/-! ### the document's division -/
def stepL (r bit : Nat) : Nat := (r * 2 + bit) % 4294967296 ^^^ (if r / 2147483648 = 1 then 79764919 else 0)
def flipN (bs : List Nat) (k : Nat) : Nat := (bitOf bs k ^^ decide (k < 32)).toNat
def refN (bs : List Nat) : Nat → Nat
  | 0 => 0
  | k + 1 => stepL (refN bs k) (flipN bs k)
def revN (r : Nat) : Nat → Nat
  | 0 => 0
  | n + 1 => revN r n * 2 + r / 2 ^ n % 2
def refSumN (bs : List Nat) : Nat := revN (refN bs (8 * bs.length + 32)) 32 ^^^ 4294967295
theorem stepL_lt (r bit : Nat) : stepL r bit < 4294967296 := Nat.xor_lt_two_pow (n := 32) (Nat.mod_lt _ (by omega)) (by split <;> omega)
theorem refN_lt (bs : List Nat) (k : Nat) : refN bs k < 4294967296 := by
  cases k with
  | zero => show 0 < _; omega
  | succ k => exact stepL_lt _ _
theorem revN_bit (r : Nat) : ∀ n i, (revN r n).testBit i = (decide (i < n) && r.testBit (n - 1 - i)) := by
  intro n
  induction n with
  | zero => intro i; simp [revN]
  | succ n ih =>
    intro i
    cases i with
    | zero =>
      rw [revN, Nat.testBit_zero]
      simp only [Nat.zero_lt_succ, decide_true, Bool.true_and, Nat.sub_zero, Nat.add_sub_cancel]
      rw [Nat.testBit_eq_decide_div_mod_eq]
      congr 1
      apply propext
      omega
    | succ i =>
      rw [revN, Nat.testBit_add_one, show (revN r n * 2 + r / 2 ^ n % 2) / 2 = revN r n by omega, ih]
      rw [show n + 1 - 1 - (i + 1) = n - 1 - i by omega]
      congr 1
      simp
theorem top_bit (r : Nat) (hr : r < 4294967296) : (r / 2147483648 = 1) ↔ r.testBit 31 = true := by
  rw [Nat.testBit_eq_decide_div_mod_eq]
  simp
  omega
theorem rA_ref (bs : List Nat) (k : Nat) : ∀ i, i < 32 → (rA (fun k => bitOf bs k ^^ decide (k < 32)) k).getLsbD i = (refN bs k).testBit (31 - i) := by
  induction k with
  | zero => intro i _; simp [rA, refN]
  | succ k ih =>
    intro i hi
    have hp : ∀ i : Fin 32, poly.getLsbD i = (79764919 : Nat).testBit (31 - i) := by decide +kernel
    have ht : ∀ (i : Fin 32) (b : Bool), (top b).getLsbD i = (b && decide ((i : Nat) = 31)) := by decide +kernel
    have h0 := ih 0 (by omega)
    have hl := refN_lt bs k
    rw [rA, refN]
    generalize hf : (bitOf bs k ^^ decide (k < 32)) = b at *
    have hfn : flipN bs k = b.toNat := by unfold flipN; rw [hf]
    rw [hfn]
    generalize rA (fun k => bitOf bs k ^^ decide (k < 32)) k = s at *
    generalize refN bs k = r at *
    unfold stepL stepR
    rw [BitVec.getLsbD_xor, BitVec.getLsbD_xor, ht ⟨i, hi⟩, BitVec.getLsbD_ushiftRight, Nat.testBit_xor]
    have hsh : ((r * 2 + b.toNat) % 4294967296).testBit (31 - i) = (if i = 31 then b else r.testBit (30 - i)) := by
      rw [show 4294967296 = 2 ^ 32 from rfl, Nat.testBit_mod_two_pow]
      simp only [show 31 - i < 32 by omega, decide_true, Bool.true_and]
      by_cases h31 : i = 31
      · subst h31
        rw [if_pos rfl, Nat.sub_self, Nat.testBit_zero]
        cases b <;> simp <;> omega
      · rw [if_neg h31, show 31 - i = (30 - i) + 1 by omega, Nat.testBit_add_one]
        congr 1
        cases b <;> simp <;> omega
    rw [hsh]
    have hc : (if s.getLsbD 0 = true then poly else 0#32).getLsbD i = (if r / 2147483648 = 1 then (79764919 : Nat) else 0).testBit (31 - i) := by
      rw [h0]
      by_cases hb : r.testBit 31 = true
      · rw [if_pos hb, if_pos ((top_bit r hl).2 hb)]
        exact hp ⟨i, hi⟩
      · rw [if_neg hb, if_neg (fun h => hb ((top_bit r hl).1 h))]
        simp
    rw [hc]
    by_cases h31 : i = 31
    · subst h31
      rw [if_pos rfl, BitVec.getLsbD_of_ge _ _ (by omega)]
      simp
      cases b <;> simp
    · rw [if_neg h31, Nat.add_comm 1 i, ih (i + 1) (by omega), show 31 - (i + 1) = 30 - i by omega]
      simp [h31]
/-- THE DOCUMENT'S SUM IS THE TABLE'S. -/
theorem refSumN_eq (bs : List Nat) (hb : ∀ b ∈ bs, b < 256) : refSumN bs = sumN bs := by
  unfold refSumN sumN
  congr 1
  rw [foldN_rD bs hb, ← divides (bitOf bs) (8 * bs.length) fun k hk => bitOf_past bs k hk]
  apply Nat.eq_of_testBit_eq
  intro i
  rw [revN_bit]
  have h := rA_ref bs (8 * bs.length + 32)
  by_cases hi : i < 32
  · have := h i hi
    rw [show 32 - 1 - i = 31 - i by omega, ← this]
    simp [hi, BitVec.testBit_toNat]
  · rw [BitVec.testBit_toNat, BitVec.getLsbD_of_ge _ _ (by omega)]
    simp [hi]
end Go.Cl
