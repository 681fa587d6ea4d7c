/-
  Plain facts on words of 64 bits, seen as sets of bytes: a word is what a Bool function says of 64 places in a row. Nothing of the program is named here.
-/
import Derived.WalkKit
import Derived.WalkSpells
import Derived.WalkLawsBesides
namespace Go.Proofs.Ytbmejpghoafapaa

/-- The number whose bit k is 'f (base + k)', for the first n bits. -/
def wsum (f : Nat → Bool) (base : Nat) : Nat → Nat
  | 0 => 0
  | n + 1 => wsum f base n + (if f (base + n) then 2 ^ n else 0)

theorem wsum_lt (f : Nat → Bool) (base n : Nat) : wsum f base n < 2 ^ n := by
  induction n with
  | zero => simp [wsum]
  | succ n ih =>
    have : 2 ^ (n + 1) = 2 ^ n + 2 ^ n := by omega
    simp only [wsum]
    split <;> omega

theorem wsum_testBit (f : Nat → Bool) (base n k : Nat) : (wsum f base n).testBit k = (decide (k < n) && f (base + k)) := by
  induction n with
  | zero => simp [wsum]
  | succ n ih =>
    have hlt := wsum_lt f base n
    simp only [wsum]
    by_cases hf : f (base + n) = true
    · simp only [hf, if_true]
      rw [Nat.add_comm]
      rcases Nat.lt_trichotomy k n with h | h | h
      · rw [Nat.testBit_two_pow_add_gt h, ih]
        have h2 : k < n + 1 := by omega
        simp [h, h2]
      · subst h
        rw [Nat.testBit_two_pow_add_eq, Nat.testBit_lt_two_pow hlt]
        simp [hf]
      · have h2 : ¬ k < n + 1 := by omega
        rw [Nat.testBit_lt_two_pow]
        · simp [h2]
        · have h3 : 2 ^ (n + 1) ≤ 2 ^ k := Nat.pow_le_pow_right (by omega) (by omega)
          have : 2 ^ (n + 1) = 2 ^ n + 2 ^ n := by omega
          omega
    · simp only [hf, Bool.false_eq_true, if_false, Nat.add_zero]
      rw [ih]
      rcases Nat.lt_trichotomy k n with h | h | h
      · have h2 : k < n + 1 := by omega
        simp [h, h2]
      · subst h
        simp [hf]
      · have h2 : ¬ k < n + 1 := by omega
        have h3 : ¬ k < n := by omega
        simp [h2, h3]

/-- Word i of the set f. -/
def wn (f : Nat → Bool) (i : Nat) : Nat := wsum f (64 * i) 64
/-- .. as a number of the walk's. -/
def wd (f : Nat → Bool) (i : Nat) : Int := (wn f i : Int)

theorem wn_lt (f : Nat → Bool) (i : Nat) : wn f i < 18446744073709551616 := by
  have := wsum_lt f (64 * i) 64
  simpa [wn] using this
theorem wn_testBit (f : Nat → Bool) (i k : Nat) : (wn f i).testBit k = (decide (k < 64) && f (64 * i + k)) := wsum_testBit f (64 * i) 64 k
theorem wd_lo (f : Nat → Bool) (i : Nat) : 0 ≤ wd f i := by unfold wd; omega
theorem wd_hi (f : Nat → Bool) (i : Nat) : wd f i < 18446744073709551616 := by
  have := wn_lt f i
  unfold wd; omega
theorem wd_toNat (f : Nat → Bool) (i : Nat) : (wd f i).toNat = wn f i := by unfold wd; omega
theorem wd_wf (f : Nat → Bool) (i : Nat) : (Lit.int .u64 (wd f i)).wf = true := by
  have h1 := wd_lo f i
  have h2 := wd_hi f i
  simp [Lit.wf, IntKind.min, IntKind.max, IntKind.signed, IntKind.bits]
  omega

theorem wn_eq (n : Nat) (hn : n < 18446744073709551616) (f : Nat → Bool) (i : Nat) (h : ∀ k, k < 64 → n.testBit k = f (64 * i + k)) : n = wn f i := by
  apply Nat.eq_of_testBit_eq
  intro k
  rw [wn_testBit]
  by_cases hk : k < 64
  · simp [hk, h k hk]
  · rw [Nat.testBit_lt_two_pow]
    · simp [hk]
    · have : 2 ^ 64 ≤ 2 ^ k := Nat.pow_le_pow_right (by omega) (by omega)
      have h64 : (2 : Nat) ^ 64 = 18446744073709551616 := by decide
      omega

theorem wn_ext {f g : Nat → Bool} {i : Nat} (h : ∀ k, k < 64 → f (64 * i + k) = g (64 * i + k)) : wn f i = wn g i :=
  wn_eq _ (wn_lt f i) g i fun k hk => by rw [wn_testBit]; simp [hk, h k hk]
theorem wn_inj {f g : Nat → Bool} {i : Nat} (h : wn f i = wn g i) : ∀ k, k < 64 → f (64 * i + k) = g (64 * i + k) := by
  intro k hk
  have := congrArg (fun n => n.testBit k) h
  simpa [wn_testBit, hk] using this
theorem wd_ext {f g : Nat → Bool} {i : Nat} (h : ∀ k, k < 64 → f (64 * i + k) = g (64 * i + k)) : wd f i = wd g i := by unfold wd; rw [wn_ext h]
theorem wd_inj {f g : Nat → Bool} {i : Nat} (h : wd f i = wd g i) : ∀ k, k < 64 → f (64 * i + k) = g (64 * i + k) := wn_inj (by unfold wd at h; omega)

theorem wd_and (f g : Nat → Bool) (i : Nat) : bits .and .u64 (wd f i) (wd g i) = wd (fun b => f b && g b) i := by
  rw [u64_and _ _ (wd_lo f i) (wd_hi f i) (wd_lo g i) (wd_hi g i), wd_toNat, wd_toNat]
  show ((_ : Nat) : Int) = ((_ : Nat) : Int)
  congr 1
  refine wn_eq _ (Nat.lt_of_le_of_lt Nat.and_le_left (wn_lt f i)) _ i fun k hk => ?_
  simp [Nat.testBit_and, wn_testBit, hk]
theorem wd_or (f g : Nat → Bool) (i : Nat) : bits .or .u64 (wd f i) (wd g i) = wd (fun b => f b || g b) i := by
  rw [u64_or _ _ (wd_lo f i) (wd_hi f i) (wd_lo g i) (wd_hi g i), wd_toNat, wd_toNat]
  show ((_ : Nat) : Int) = ((_ : Nat) : Int)
  congr 1
  refine wn_eq _ ?_ _ i fun k hk => ?_
  · have := Nat.or_lt_two_pow (n := 64) (x := wn f i) (y := wn g i) (wn_lt f i) (wn_lt g i)
    simpa using this
  · simp [Nat.testBit_or, wn_testBit, hk]
theorem wd_xor (f g : Nat → Bool) (i : Nat) : bits .xor .u64 (wd f i) (wd g i) = wd (fun b => f b ^^ g b) i := by
  rw [u64_xor _ _ (wd_lo f i) (wd_hi f i) (wd_lo g i) (wd_hi g i), wd_toNat, wd_toNat]
  show ((_ : Nat) : Int) = ((_ : Nat) : Int)
  congr 1
  refine wn_eq _ ?_ _ i fun k hk => ?_
  · have := Nat.xor_lt_two_pow (n := 64) (x := wn f i) (y := wn g i) (wn_lt f i) (wn_lt g i)
    simpa using this
  · simp [Nat.testBit_xor, wn_testBit, hk]

/-- The word with one bit. -/
theorem wd_one (i r : Nat) (hr : r < 64) : ((2 ^ r : Nat) : Int) = wd (fun b => b == 64 * i + r) i := by
  show ((_ : Nat) : Int) = ((_ : Nat) : Int)
  congr 1
  refine wn_eq _ ?_ _ i fun k hk => ?_
  · have : 2 ^ r < 2 ^ 64 := Nat.pow_lt_pow_right (by omega) hr
    simpa using this
  · rw [Nat.testBit_two_pow]
    by_cases h : r = k
    · simp [h]
    · have h2 : ¬ k = r := fun e => h e.symm
      simp [h, h2]
theorem wn_zero (i : Nat) : wn (fun _ => false) i = 0 := (wn_eq 0 (by omega) _ i fun k hk => by simp).symm
theorem wd_zero (i : Nat) : wd (fun _ => false) i = 0 := by unfold wd; rw [wn_zero]; rfl
theorem wn_full (i : Nat) : wn (fun _ => true) i = 2 ^ 64 - 1 := (wn_eq (2 ^ 64 - 1) (by simp) _ i fun k hk => by rw [Nat.testBit_two_pow_sub_one]; simp [hk]).symm
theorem wd_full (i : Nat) : wd (fun _ => true) i = 18446744073709551615 := by unfold wd; rw [wn_full]; simp

/-- 'x>>r&1 == 1', as the walk writes it. -/
theorem wd_bit (f : Nat → Bool) (i r : Nat) (hr : r < 64) : (bits .and .u64 (wd f i / 2 ^ r) 1 == 1) = f (64 * i + r) := by
  have hq : wd f i / 2 ^ r = ((wn f i / 2 ^ r : Nat) : Int) := by
    unfold wd
    simp
  have h1 : wn f i / 2 ^ r ≤ wn f i := Nat.div_le_self _ _
  have h2 := wn_lt f i
  have ht := wn_testBit f i r
  rw [Nat.testBit_eq_decide_div_mod_eq] at ht
  generalize wn f i / 2 ^ r = m at *
  rw [hq, u64_and _ _ (by omega) (by omega) (by omega) (by omega)]
  have e : m &&& 1 = (f (64 * i + r)).toNat := by
    rw [Nat.and_one_is_mod]
    cases hf : f (64 * i + r) <;> simp [hf, hr] at ht <;> simp <;> omega
  simp only [Int.toNat_natCast]
  rw [show (1 : Int).toNat = 1 from rfl, e]
  cases f (64 * i + r) <;> rfl

/-- Every word is the word of a set. -/
theorem wd_of (n : Int) (h0 : 0 ≤ n) (h1 : n < 18446744073709551616) (f : Nat → Bool) (i : Nat) (h : ∀ k, k < 64 → n.toNat.testBit k = f (64 * i + k)) : n = wd f i := by
  unfold wd
  have := wn_eq n.toNat (by omega) f i h
  omega
/-- The set whose words are given. -/
def setOfWords (a0 a1 a2 a3 : Int) (b : Nat) : Bool :=
  (match b / 64 with | 0 => a0 | 1 => a1 | 2 => a2 | _ => a3).toNat.testBit (b % 64)
theorem words_of (a0 a1 a2 a3 : Int) (h0 : 0 ≤ a0 ∧ a0 < 18446744073709551616) (h1 : 0 ≤ a1 ∧ a1 < 18446744073709551616) (h2 : 0 ≤ a2 ∧ a2 < 18446744073709551616) (h3 : 0 ≤ a3 ∧ a3 < 18446744073709551616) :
    ∃ f : Nat → Bool, a0 = wd f 0 ∧ a1 = wd f 1 ∧ a2 = wd f 2 ∧ a3 = wd f 3 := by
  refine ⟨setOfWords a0 a1 a2 a3, wd_of _ h0.1 h0.2 _ _ fun k hk => ?_, wd_of _ h1.1 h1.2 _ _ fun k hk => ?_, wd_of _ h2.1 h2.2 _ _ fun k hk => ?_, wd_of _ h3.1 h3.2 _ _ fun k hk => ?_⟩
  · rw [setOfWords, show (64 * 0 + k) / 64 = 0 from by omega, show (64 * 0 + k) % 64 = k from by omega]; rfl
  · rw [setOfWords, show (64 * 1 + k) / 64 = 1 from by omega, show (64 * 1 + k) % 64 = k from by omega]; rfl
  · rw [setOfWords, show (64 * 2 + k) / 64 = 2 from by omega, show (64 * 2 + k) % 64 = k from by omega]; rfl
  · rw [setOfWords, show (64 * 3 + k) / 64 = 3 from by omega, show (64 * 3 + k) % 64 = k from by omega]; rfl

theorem two_pow_add_testBit (n k : Nat) (h : n.testBit k = false) (j : Nat) (hj : k < j) : (2 ^ k + n).testBit j = n.testBit j := by
  have hsplit : n = n / 2 ^ (k + 1) * 2 ^ (k + 1) + n % 2 ^ k := by
    have h1 : n % 2 ^ (k + 1) = n % 2 ^ k := by
      rw [Nat.mod_pow_succ]
      have h4 := Nat.testBit_eq_decide_div_mod_eq (x := n) (i := k)
      rw [h] at h4
      have h2 : n / 2 ^ k % 2 ≠ 1 := by simpa using h4.symm
      have h3 : n / 2 ^ k % 2 = 0 := by omega
      simp [h3]
    have h2 := Nat.div_add_mod n (2 ^ (k + 1))
    rw [h1, Nat.mul_comm] at h2
    omega
  have hlt : n % 2 ^ k < 2 ^ k := Nat.mod_lt _ (Nat.two_pow_pos k)
  have hp : 2 ^ (k + 1) = 2 ^ k + 2 ^ k := by omega
  have e : (2 ^ k + n) / 2 ^ (k + 1) = n / 2 ^ (k + 1) := by
    generalize n / 2 ^ (k + 1) = q at *
    generalize n % 2 ^ k = r at *
    rw [hsplit]
    rw [show 2 ^ k + (q * 2 ^ (k + 1) + r) = (2 ^ k + r) + q * 2 ^ (k + 1) from by omega, Nat.add_mul_div_right _ _ (Nat.two_pow_pos _), Nat.div_eq_of_lt (by omega)]
    omega
  have e2 : ∀ m : Nat, m.testBit j = (m / 2 ^ (k + 1)).testBit (j - (k + 1)) := fun m => by
    rw [Nat.testBit_div_two_pow]
    congr 1
    omega
  rw [e2, e, ← e2]

/-- The set f with byte x put in. -/
def addb (f : Nat → Bool) (x : Int) : Nat → Bool := fun b => f b || b == x.toNat
theorem addb_in (f : Nat → Bool) (i : Nat) (x : Int) (h0 : 0 ≤ x) (h : x / 64 = (i : Int)) : bits .or .u64 (wd f i) (IntKind.u64.wrap (2 ^ (x % 64).toNat)) = wd (addb f x) i := by
  have hr : (x % 64).toNat < 64 := by omega
  have hp : (2 : Nat) ^ (x % 64).toNat < 2 ^ 64 := Nat.pow_lt_pow_right (by omega) hr
  have e1 : IntKind.u64.wrap (2 ^ (x % 64).toNat) = ((2 ^ (x % 64).toNat : Nat) : Int) := by
    rw [IntKind.wrap_u64]
    have : (2 : Int) ^ (x % 64).toNat = ((2 ^ (x % 64).toNat : Nat) : Int) := by simp
    rw [this]
    generalize (2 : Nat) ^ (x % 64).toNat = m at *
    have h64 : (2 : Nat) ^ 64 = 18446744073709551616 := by decide
    omega
  rw [e1, wd_one i _ hr, wd_or]
  refine wd_ext fun k hk => ?_
  unfold addb
  rw [show 64 * i + (x % 64).toNat = x.toNat from by omega]
theorem addb_out (f : Nat → Bool) (i : Nat) (x : Int) (h0 : 0 ≤ x) (h : x / 64 ≠ (i : Int)) : wd f i = wd (addb f x) i := by
  refine wd_ext fun k hk => ?_
  unfold addb
  have : ¬ 64 * i + k = x.toNat := by omega
  simp [this]
/-- 2 to the power of k, behind a name. -/
def pw (k : Nat) : Int := ((2 ^ k : Nat) : Int)
theorem pw_zero : pw 0 = 1 := rfl
theorem pw_twice (k : Nat) (h : k < 63) : IntKind.u64.wrap (pw k * 2) = pw (k + 1) := by
  have h1 : (2 : Nat) ^ (k + 1) < 2 ^ 64 := Nat.pow_lt_pow_right (by omega) (by omega)
  have h2 : (2 : Nat) ^ (k + 1) = 2 ^ k * 2 := Nat.pow_succ ..
  have h64 : (2 : Nat) ^ 64 = 18446744073709551616 := by decide
  rw [IntKind.wrap_u64]
  unfold pw
  omega
theorem addb_plus (f : Nat → Bool) (i k : Nat) (x : Int) (h0 : 0 ≤ x) (h : x / 64 = (i : Int)) (hk : (k : Int) = x % 64) (hf : f x.toNat = false) : IntKind.u64.wrap (wd f i + pw k) = wd (addb f x) i := by
  have hk64 : k < 64 := by omega
  have e : (wn f i + 2 ^ k : Nat) = wn (addb f x) i := by
    have hor : wn f i + 2 ^ k = wn f i ||| 2 ^ k := by
      rw [Nat.add_comm]
      apply Nat.eq_of_testBit_eq
      intro j
      rw [Nat.testBit_or, Nat.testBit_two_pow]
      have hb := wn_testBit f i k
      rw [show 64 * i + k = x.toNat from by omega, hf, Bool.and_false] at hb
      rcases Nat.lt_trichotomy j k with hj | hj | hj
      · rw [Nat.testBit_two_pow_add_gt hj]
        have : ¬ k = j := by omega
        simp [this]
      · subst hj
        rw [Nat.testBit_two_pow_add_eq, hb]
        simp
      · have hne : ¬ k = j := by omega
        simp only [hne, decide_false, Bool.or_false]
        exact two_pow_add_testBit _ k hb j hj
    rw [hor]
    refine wn_eq _ ?_ _ i fun j hj => ?_
    · have := Nat.or_lt_two_pow (n := 64) (x := wn f i) (y := 2 ^ k) (wn_lt f i) (Nat.pow_lt_pow_right (by omega) hk64)
      simpa using this
    · rw [Nat.testBit_or, wn_testBit, Nat.testBit_two_pow]
      unfold addb
      rw [show x.toNat = 64 * i + k from by omega]
      by_cases hjk : k = j
      · subst hjk; simp
      · have : ¬ j = k := fun e => hjk e.symm
        simp [hjk, hj, this]
  have hlt := wn_lt (addb f x) i
  rw [IntKind.wrap_u64]
  unfold pw wd
  omega
/-- The set of some bytes. -/
def inl (l : List Int) : Nat → Bool := fun b => l.any fun x => b == x.toNat
theorem inl_nil : inl [] = fun _ => false := rfl
theorem inl_snoc (l : List Int) (x : Int) : inl (l ++ [x]) = addb (inl l) x := by
  funext b
  simp [inl, addb]
theorem inl_take (l : List Int) (k : Nat) (h : k < l.length) : inl (l.take (k + 1)) = addb (inl (l.take k)) (l.getD k 0) := by
  rw [← inl_snoc, List.take_succ_eq_append_getElem h]
  simp [h]

/-- A word, halved k times. -/
def sh (f : Nat → Bool) (i k : Nat) : Int := wd f i / 2 ^ k
theorem sh_zero (f : Nat → Bool) (i : Nat) : sh f i 0 = wd f i := by simp [sh]
theorem sh_lo (f : Nat → Bool) (i k : Nat) : 0 ≤ sh f i k := Int.ediv_nonneg (wd_lo f i) (Int.le_of_lt (Int.pow_pos (by omega)))
theorem sh_succ (f : Nat → Bool) (i k : Nat) : sh f i k / 2 = sh f i (k + 1) := by
  unfold sh
  rw [Int.ediv_ediv_of_nonneg (Int.le_of_lt (Int.pow_pos (by omega))), Int.pow_succ]
theorem sh_nat (f : Nat → Bool) (i k : Nat) : sh f i k = ((wn f i / 2 ^ k : Nat) : Int) := by
  unfold sh wd
  simp
theorem sh_hi (f : Nat → Bool) (i k : Nat) : sh f i k < 18446744073709551616 := by
  have h1 := wn_lt f i
  have h2 : wn f i / 2 ^ k ≤ wn f i := Nat.div_le_self _ _
  rw [sh_nat]
  omega
theorem sh_half (f : Nat → Bool) (i k : Nat) : IntKind.u64.wrap ((sh f i k).tdiv 2) = sh f i (k + 1) := by
  have h1 := sh_lo f i k
  have h2 := sh_hi f i k
  have h3 := sh_succ f i k
  rw [IntKind.wrap_u64, Int.tdiv_eq_ediv_of_nonneg h1]
  omega
theorem sh_bit (f : Nat → Bool) (i r : Nat) (hr : r < 64) : (sh f i r % 2 == 1) = f (64 * i + r) := by
  have ht := wn_testBit f i r
  rw [Nat.testBit_eq_decide_div_mod_eq] at ht
  rw [sh_nat]
  generalize wn f i / 2 ^ r = m at *
  cases hf : f (64 * i + r) <;> simp [hf, hr] at ht <;> simp <;> omega

end Go.Proofs.Ytbmejpghoafapaa
