/- The sum of bytes as plain arithmetic: bits shifted through the polynomial; linear, and no turned word goes unseen. -/
namespace Go.Proofs.Ytpblcdgglbhdoaa
namespace Crc
set_option linter.unusedVariables false
set_option linter.unusedSimpArgs false

def poly : Nat := 2197175160
def T (c : Nat) : Nat := (c / 2) ^^^ (if c % 2 = 1 then poly else 0)
def Tn : Nat → Nat → Nat
  | 0, c => c
  | n + 1, c => Tn n (T c)
def Run (c : Nat) (bs : List Nat) : Nat := bs.foldl (fun c b => Tn 8 (c ^^^ b)) c
def More (sum : Nat) (bs : List Nat) : Nat := 4294967295 ^^^ Run (4294967295 ^^^ sum) bs

theorem xor_half (a b : Nat) : (a ^^^ b) / 2 = (a / 2) ^^^ (b / 2) := by
  apply Nat.eq_of_testBit_eq
  intro i
  rw [← Nat.testBit_succ, Nat.testBit_xor, Nat.testBit_xor, Nat.testBit_succ, Nat.testBit_succ]
theorem xor_odd (a b : Nat) : (a ^^^ b) % 2 = 1 ↔ ¬ (a % 2 = 1 ↔ b % 2 = 1) := by
  have := Nat.testBit_xor a b 0
  simp only [Nat.testBit_zero] at this
  by_cases ha : a % 2 = 1 <;> by_cases hb : b % 2 = 1 <;> simp [ha, hb] at this ⊢ <;> omega
theorem xor_swap (a b c d : Nat) : (a ^^^ b) ^^^ (c ^^^ d) = (a ^^^ c) ^^^ (b ^^^ d) := by
  rw [Nat.xor_assoc, ← Nat.xor_assoc b c d, Nat.xor_comm b c, Nat.xor_assoc c b d, ← Nat.xor_assoc]
theorem T_xor (a b : Nat) : T (a ^^^ b) = T a ^^^ T b := by
  unfold T
  rw [xor_half, xor_swap]
  congr 1
  by_cases ha : a % 2 = 1 <;> by_cases hb : b % 2 = 1 <;> simp [ha, hb, xor_odd]
theorem Tn_xor : ∀ (n a b : Nat), Tn n (a ^^^ b) = Tn n a ^^^ Tn n b
  | 0, _, _ => rfl
  | n + 1, a, b => by simp only [Tn, T_xor, Tn_xor n]
theorem T_zero : T 0 = 0 := rfl
theorem Tn_zero : ∀ n, Tn n 0 = 0
  | 0 => rfl
  | n + 1 => by simp only [Tn, T_zero, Tn_zero n]
theorem Tn_add : ∀ (n m c : Nat), Tn (n + m) c = Tn m (Tn n c)
  | 0, m, c => by simp [Tn]
  | n + 1, m, c => by rw [Nat.succ_add]; simp only [Tn, Tn_add n m]
theorem T_lt {c : Nat} (h : c < 4294967296) : T c < 4294967296 := by
  unfold T
  have h1 : c / 2 < 2 ^ 32 := by omega
  have h2 : (if c % 2 = 1 then poly else 0) < 2 ^ 32 := by split <;> decide
  exact Nat.xor_lt_two_pow h1 h2
theorem Tn_lt : ∀ (n : Nat) {c : Nat}, c < 4294967296 → Tn n c < 4294967296
  | 0, _, h => h
  | n + 1, _, h => Tn_lt n (T_lt h)
theorem xor_lt {a b : Nat} (ha : a < 4294967296) (hb : b < 4294967296) : a ^^^ b < 4294967296 := Nat.xor_lt_two_pow (n := 32) ha hb
theorem Run_lt : ∀ (bs : List Nat) {c : Nat}, c < 4294967296 → (∀ b ∈ bs, b < 256) → Run c bs < 4294967296
  | [], _, h, _ => h
  | b :: bs, c, h, hb => Run_lt bs (c := Tn 8 (c ^^^ b)) (Tn_lt 8 (xor_lt h (by have := hb b (by simp); omega))) fun x hx => hb x (by simp [hx])
theorem More_lt {bs : List Nat} {c : Nat} (h : c < 4294967296) (hb : ∀ b ∈ bs, b < 256) : More c bs < 4294967296 :=
  xor_lt (by decide) (Run_lt bs (xor_lt (by decide) h) hb)
theorem Run_append (c : Nat) (a b : List Nat) : Run c (a ++ b) = Run (Run c a) b := List.foldl_append ..
theorem xor_xor (a b : Nat) : a ^^^ (a ^^^ b) = b := by rw [← Nat.xor_assoc, Nat.xor_self, Nat.zero_xor]
theorem More_append (c : Nat) (a b : List Nat) : More c (a ++ b) = More (More c a) b := by
  unfold More
  rw [xor_xor, Run_append]
theorem T_eq_zero {c : Nat} (h : c < 4294967296) (e : T c = 0) : c = 0 := by
  unfold T at e
  by_cases ho : c % 2 = 1
  · rw [if_pos ho] at e
    have := congrArg (fun x => x.testBit 31) e
    simp only [Nat.testBit_xor, Nat.zero_testBit] at this
    have h1 : (c / 2).testBit 31 = false := Nat.testBit_lt_two_pow (by omega)
    rw [h1] at this
    exact absurd this (by decide)
  · rw [if_neg ho, Nat.xor_zero] at e
    omega
theorem Tn_eq_zero : ∀ (n : Nat) {c : Nat}, c < 4294967296 → Tn n c = 0 → c = 0
  | 0, _, _, e => e
  | n + 1, _, h, e => T_eq_zero h (Tn_eq_zero n (T_lt h) e)
/-- Two runs over the same bytes differ by what they began with. -/
theorem Run_xor : ∀ (bs : List Nat) (c d : Nat), Run (c ^^^ d) bs = Run c bs ^^^ Tn (8 * bs.length) d
  | [], c, d => rfl
  | b :: bs, c, d => by
    have e : Tn 8 (c ^^^ d ^^^ b) = Tn 8 (c ^^^ b) ^^^ Tn 8 d := by
      rw [← Tn_xor]; congr 1
      rw [Nat.xor_assoc, Nat.xor_comm d b, Nat.xor_assoc]
    show Run (Tn 8 (c ^^^ d ^^^ b)) bs = Run (Tn 8 (c ^^^ b)) bs ^^^ _
    rw [e, Run_xor bs, List.length_cons, show 8 * (bs.length + 1) = 8 + 8 * bs.length by omega, Tn_add]
/-- Two runs over bytes that differ. -/
theorem Run_xors : ∀ (bs es : List Nat) (c : Nat), es.length = bs.length → Run c (List.zipWith (· ^^^ ·) bs es) = Run c bs ^^^ Run 0 es
  | [], es, c, h => by
    have : es = [] := List.eq_nil_of_length_eq_zero h
    subst this
    show c = c ^^^ 0
    rw [Nat.xor_zero]
  | b :: bs, [], c, h => by cases h
  | b :: bs, e :: es, c, h => by
    have hl : es.length = bs.length := by simpa using h
    show Run (Tn 8 (c ^^^ (b ^^^ e))) (List.zipWith (· ^^^ ·) bs es) = Run (Tn 8 (c ^^^ b)) bs ^^^ Run (Tn 8 (0 ^^^ e)) es
    rw [Run_xors bs es _ hl, ← Nat.xor_assoc, Tn_xor, Run_xor, Nat.zero_xor, Nat.xor_assoc]
    congr 1
    have := Run_xor es 0 (Tn 8 e)
    rw [Nat.zero_xor] at this
    rw [this, Nat.xor_comm, hl]
/-- Bytes of one number, the lowest first. -/
def bytes : Nat → Nat → List Nat
  | 0, _ => []
  | n + 1, w => w % 256 :: bytes n (w / 256)
theorem T_double (c : Nat) : T (2 * c) = c := by
  unfold T
  rw [if_neg (by omega), Nat.xor_zero]
  omega
theorem Tn_shift : ∀ (n c : Nat), Tn n (2 ^ n * c) = c
  | 0, c => by simp [Tn]
  | n + 1, c => by
    simp only [Tn]
    rw [show 2 ^ (n + 1) * c = 2 * (2 ^ n * c) by rw [Nat.pow_succ, Nat.mul_comm (2 ^ n) 2, Nat.mul_assoc], T_double, Tn_shift n]
theorem split_xor (w n : Nat) : w = (w % 2 ^ n) ^^^ (2 ^ n * (w / 2 ^ n)) := by
  apply Nat.eq_of_testBit_eq
  intro i
  rw [Nat.testBit_xor, Nat.testBit_mod_two_pow, Nat.testBit_two_pow_mul]
  by_cases h : i < n
  · simp [h, Nat.not_le.2 h]
  · have h' : n ≤ i := Nat.not_lt.1 h
    simp only [h, decide_false, Bool.false_and, Bool.false_xor, ge_iff_le, h', decide_true, Bool.true_and, Nat.testBit_div_two_pow]
    rw [Nat.sub_add_cancel h']
theorem Run_bytes : ∀ (n w : Nat), w < 256 ^ n → Run 0 (bytes n w) = Tn (8 * n) w
  | 0, w, h => by
    have : w = 0 := by simpa using h
    subst this; rfl
  | n + 1, w, h => by
    have hw : w / 256 < 256 ^ n := by
      rw [Nat.pow_succ, Nat.mul_comm] at h
      exact Nat.div_lt_of_lt_mul h
    show Run (Tn 8 (0 ^^^ (w % 256))) (bytes n (w / 256)) = _
    have e := Run_xor (bytes n (w / 256)) 0 (Tn 8 (w % 256))
    have hl : ∀ n w, (bytes n w).length = n := fun n => by
      induction n with
      | zero => intro w; rfl
      | succ n ih => intro w; simp [bytes, ih]
    rw [Nat.zero_xor] at e ⊢
    rw [e, Run_bytes n _ hw, hl, ← Tn_xor, show 8 * (n + 1) = 8 + 8 * n by omega, Tn_add]
    congr 1
    conv => rhs; rw [split_xor w 8]
    rw [Tn_xor, show (2:Nat) ^ 8 = 256 from rfl, show (256 : Nat) * (w / 256) = 2 ^ 8 * (w / 256) from rfl, Tn_shift, Nat.xor_comm]
theorem bytes_length : ∀ n w, (bytes n w).length = n
  | 0, w => rfl
  | n + 1, w => by simp [bytes, bytes_length n]
theorem bytes_get : ∀ (n w k : Nat), k < n → (bytes n w)[k]? = some (w / 256 ^ k % 256)
  | 0, w, k, h => by omega
  | n + 1, w, 0, h => by simp [bytes]
  | n + 1, w, k + 1, h => by
    simp only [bytes, List.getElem?_cons_succ]
    rw [bytes_get n _ k (by omega), Nat.div_div_eq_div_mul, Nat.pow_succ, Nat.mul_comm 256]
theorem bytes_lt : ∀ (n w b : Nat), b ∈ bytes n w → b < 256
  | 0, w, b, h => by cases h
  | n + 1, w, b, h => by
    rcases List.mem_cons.1 h with rfl | h
    · exact Nat.mod_lt _ (by decide)
    · exact bytes_lt n _ b h
theorem bytes_mod : ∀ (n w : Nat), bytes n (w % 256 ^ n) = bytes n w
  | 0, w => rfl
  | n + 1, w => by
    have h1 : w % 256 ^ (n + 1) % 256 = w % 256 := by
      rw [Nat.pow_succ, Nat.mul_comm, Nat.mod_mul_right_mod]
    have h2 : w % 256 ^ (n + 1) / 256 = w / 256 % 256 ^ n := by
      rw [Nat.pow_succ, Nat.mul_comm, Nat.mod_mul_right_div_self]
    show w % 256 ^ (n + 1) % 256 :: bytes n (w % 256 ^ (n + 1) / 256) = w % 256 :: bytes n (w / 256)
    rw [h1, h2, bytes_mod n]
theorem bytes_zero : ∀ n, ∀ b ∈ bytes n 0, b = 0
  | 0, b, h => by cases h
  | n + 1, b, h => by
    rcases List.mem_cons.1 h with rfl | h
    · rfl
    · exact bytes_zero n b h
theorem bytes_all_zero : ∀ (n w : Nat), w < 256 ^ n → (∀ b ∈ bytes n w, b = 0) → w = 0
  | 0, w, h, _ => by simpa using h
  | n + 1, w, h, hb => by
    have hw : w / 256 < 256 ^ n := by
      rw [Nat.pow_succ, Nat.mul_comm] at h
      exact Nat.div_lt_of_lt_mul h
    have h1 : w % 256 = 0 := hb _ (by simp [bytes])
    have h2 := bytes_all_zero n (w / 256) hw fun b h => hb b (by simp [bytes, h])
    omega
/-- A word of 32 bits, shifted by less than a byte, of which m bytes lie on the text: its sum is nil only where all those bytes are. -/
theorem burst {turn bit m : Nat} (ht : turn < 4294967296) (hb : bit < 8) (hm : m ≤ 5) :
    Run 0 (bytes m (turn * 2 ^ bit)) = 0 ↔ ∀ b ∈ bytes m (turn * 2 ^ bit), b = 0 := by
  have hw : turn * 2 ^ bit < 256 ^ 5 := by
    have : (2:Nat) ^ bit ≤ 2 ^ 7 := Nat.pow_le_pow_right (by decide) (by omega)
    have h2 : turn * 2 ^ bit ≤ turn * 2 ^ 7 := Nat.mul_le_mul_left _ this
    omega
  constructor
  · intro h
    by_cases h5 : m = 5
    · subst h5
      rw [Run_bytes 5 _ hw, show 8 * 5 = bit + (40 - bit) by omega, Tn_add, Nat.mul_comm, Tn_shift] at h
      have := Tn_eq_zero _ ht h
      subst this
      rw [Nat.zero_mul]
      exact bytes_zero 5
    · have hlt : turn * 2 ^ bit % 256 ^ m < 256 ^ m := Nat.mod_lt _ (Nat.pow_pos (by decide))
      have h32 : turn * 2 ^ bit % 256 ^ m < 4294967296 := by
        have : (256:Nat) ^ m ≤ 256 ^ 4 := Nat.pow_le_pow_right (by decide) (by omega)
        omega
      rw [← bytes_mod, Run_bytes m _ hlt] at h
      have := Tn_eq_zero _ h32 h
      rw [← bytes_mod, this]
      exact bytes_zero m
  · intro h
    have : bytes m (turn * 2 ^ bit) = List.replicate m 0 := by
      apply List.eq_replicate_iff.2
      exact ⟨bytes_length _ _, h⟩
    rw [this]
    clear this h hm
    induction m with
    | zero => rfl
    | succ m ih =>
      rw [List.replicate_succ]
      show Run (Tn 8 (0 ^^^ 0)) (List.replicate m 0) = 0
      rw [Nat.xor_self, Tn_zero]
      exact ih
/-- Bytes turned from one place on have another sum exactly where one of the turns is not nil. -/
theorem More_turned (pre mid post es : List Nat) (sum : Nat) (hl : es.length = mid.length) (hes : ∀ b ∈ es, b < 256) :
    More sum (pre ++ List.zipWith (· ^^^ ·) mid es ++ post) = More sum (pre ++ mid ++ post) ↔ Run 0 es = 0 := by
  unfold More
  have hr := Run_xors mid es (Run (4294967295 ^^^ sum) pre) hl
  rw [Run_append, Run_append, hr, Run_append, Run_append, Run_xor]
  generalize Run (Run (Run (4294967295 ^^^ sum) pre) mid) post = x
  constructor
  · intro h
    have h2 : Tn (8 * post.length) (Run 0 es) = 0 := by
      have := congrArg (fun y => x ^^^ (4294967295 ^^^ y)) h
      simp only [xor_xor, Nat.xor_self] at this
      exact this
    exact Tn_eq_zero _ (Run_lt es (by decide) hes) h2
  · intro h
    rw [h, Tn_zero, Nat.xor_zero]

end Crc
end Go.Proofs.Ytpblcdgglbhdoaa
