/-
  The walk of math/bits.OnesCount64: the sums of neighbouring bits, byte by byte.
-/
import Derived.Test.YtbmejpghoafapaaDoorLeast
namespace Go.Proofs.YtbmejpghoafapaaDoor
open Go.RowKit

/-- n bytes b, one behind the other. -/
def mB (b : Nat) : Nat → Nat
  | 0 => 0
  | n + 1 => b + 256 * mB b n
theorem and_step (X b n : Nat) (hb : b < 256) : X &&& mB b (n + 1) = ((X % 256) &&& b) + 256 * ((X / 256) &&& mB b n) := by
  have h1 : (X &&& mB b (n + 1)) % 2 ^ 8 = (X % 2 ^ 8) &&& (mB b (n + 1) % 2 ^ 8) := Nat.and_mod_two_pow
  have h2 : (X &&& mB b (n + 1)) / 2 ^ 8 = (X / 2 ^ 8) &&& (mB b (n + 1) / 2 ^ 8) := Nat.and_div_two_pow
  have h3 : mB b (n + 1) % 2 ^ 8 = b := by simp only [mB]; omega
  have h4 : mB b (n + 1) / 2 ^ 8 = mB b n := by simp only [mB]; omega
  rw [h3] at h1
  rw [h4] at h2
  have e : (2 : Nat) ^ 8 = 256 := rfl
  rw [e] at h1 h2
  rw [← h1, ← h2]
  omega

def b1 (y : Nat) : Nat := ((y / 2) &&& 85) + (y &&& 85)
def b2 (y : Nat) : Nat := ((y / 4) &&& 51) + (y &&& 51)
def b3 (y : Nat) : Nat := (y / 16 + y) &&& 15
def s1 (n X : Nat) : Nat := ((X / 2) &&& mB 85 n) + (X &&& mB 85 n)
def s2 (n X : Nat) : Nat := ((X / 4) &&& mB 51 n) + (X &&& mB 51 n)
def s3 (n X : Nat) : Nat := (X / 16 + X) &&& mB 15 n
theorem d1 : ∀ y, y < 128 → ∀ t, t < 2 → (y + 128 * t) &&& 85 = y &&& 85 := by decide +kernel
theorem d2 : ∀ y, y < 64 → ∀ t, t < 4 → (y + 64 * t) &&& 51 = y &&& 51 := by decide +kernel
theorem d1b : ∀ y, y < 256 → b1 y < 256 := by decide +kernel
theorem d2b : ∀ y, y < 256 → b2 (b1 y) < 256 ∧ b2 (b1 y) % 16 ≤ 4 ∧ b2 (b1 y) / 16 ≤ 4 := by decide +kernel
/-- How many bits of a byte are 1. -/
def pc (y : Nat) : Nat := (List.range 8).countP fun j => y.testBit j
theorem d3 : ∀ y, y < 256 → b3 (b2 (b1 y)) = pc y := by decide +kernel
theorem pc_le : ∀ y, y < 256 → pc y ≤ 8 := by decide +kernel
theorem s1_step (n X : Nat) : s1 (n + 1) X = b1 (X % 256) + 256 * s1 n (X / 256) := by
  unfold s1 b1
  rw [and_step _ _ _ (by omega), and_step _ _ _ (by omega)]
  have h1 : (X / 2) % 256 = (X % 256) / 2 + 128 * ((X / 256) % 2) := by omega
  have h2 : X / 2 / 256 = X / 256 / 2 := by omega
  rw [h1, h2, d1 _ (by omega) _ (by omega)]
  omega
theorem s2_step (n X : Nat) : s2 (n + 1) X = b2 (X % 256) + 256 * s2 n (X / 256) := by
  unfold s2 b2
  rw [and_step _ _ _ (by omega), and_step _ _ _ (by omega)]
  have h1 : (X / 4) % 256 = (X % 256) / 4 + 64 * ((X / 256) % 4) := by omega
  have h2 : X / 4 / 256 = X / 256 / 4 := by omega
  rw [h1, h2, d2 _ (by omega) _ (by omega)]
  omega
theorem and15 (y : Nat) : y &&& 15 = y % 16 := Nat.and_two_pow_sub_one_eq_mod y 4
theorem s3_step (n X : Nat) (h1 : X % 256 / 16 ≤ 4) (h2 : X % 16 ≤ 4) (h3 : X / 256 % 16 ≤ 4) : s3 (n + 1) X = b3 (X % 256) + 256 * s3 n (X / 256) := by
  unfold s3 b3
  rw [and_step _ _ _ (by omega), and15, and15]
  have h4 : (X / 16 + X) / 256 = X / 256 / 16 + X / 256 := by omega
  rw [h4]
  congr 1
  omega
/-- The bits of the first n bytes. -/
def bitsN : Nat → Nat → Nat
  | 0, _ => 0
  | n + 1, X => pc (X % 256) + 256 * bitsN n (X / 256)
theorem s2_mod (n X : Nat) : s2 n (s1 n X) % 16 ≤ 4 ∧ s2 n (s1 n X) % 256 / 16 ≤ 4 := by
  cases n with
  | zero => simp [s2, mB]
  | succ n =>
    rw [s1_step, s2_step]
    have h0 := d1b (X % 256) (by omega)
    have h := d2b (X % 256) (by omega)
    have e1 : (b1 (X % 256) + 256 * s1 n (X / 256)) % 256 = b1 (X % 256) := by omega
    rw [e1]
    omega
theorem s3_all : ∀ n X, s3 n (s2 n (s1 n X)) = bitsN n X
  | 0, X => by simp [s3, mB, bitsN]
  | n + 1, X => by
    have hm := s2_mod (n + 1) X
    rw [s1_step, s2_step] at hm ⊢
    have h0 := d1b (X % 256) (by omega)
    have h := d2b (X % 256) (by omega)
    have hd := d3 (X % 256) (by omega)
    have e1 : (b1 (X % 256) + 256 * s1 n (X / 256)) % 256 = b1 (X % 256) := by omega
    have e2 : (b1 (X % 256) + 256 * s1 n (X / 256)) / 256 = s1 n (X / 256) := by omega
    rw [e1, e2] at hm ⊢
    have hr := s2_mod n (X / 256)
    have e3 : (b2 (b1 (X % 256)) + 256 * s2 n (s1 n (X / 256))) % 256 = b2 (b1 (X % 256)) := by omega
    have e4 : (b2 (b1 (X % 256)) + 256 * s2 n (s1 n (X / 256))) / 256 = s2 n (s1 n (X / 256)) := by omega
    rw [s3_step _ _ hm.2 hm.1 (by rw [e4]; exact hr.1), e3, e4, hd, s3_all n (X / 256)]
    rfl

/-- How many of the first n bits are 1. -/
def cnt (X : Nat) (n : Nat) : Nat := (List.range n).countP fun j => X.testBit j
theorem cnt_add (X m : Nat) : ∀ n, cnt X (m + n) = cnt X m + (List.range n).countP (fun j => X.testBit (m + j))
  | 0 => by simp [cnt]
  | n + 1 => by
    have := cnt_add X m n
    unfold cnt at this ⊢
    rw [← Nat.add_assoc, List.range_succ, List.countP_append, this, List.range_succ (n := n), List.countP_append]
    simp [Nat.add_assoc]
theorem cnt_byte (X n : Nat) : cnt X (8 + n) = pc (X % 256) + cnt (X / 256) n := by
  rw [cnt_add]
  congr 1
  · unfold cnt pc
    refine List.countP_congr fun j hj => ?_
    have : j < 8 := by simpa using hj
    rw [show 256 = 2 ^ 8 from rfl, Nat.testBit_mod_two_pow]
    simp [this]
  · unfold cnt
    refine List.countP_congr fun j _ => ?_
    rw [show 256 = 2 ^ 8 from rfl, Nat.testBit_div_two_pow, Nat.add_comm]
theorem pop_end (X : Nat) : ∃ a0 a1 a2 a3 a4 a5 a6 a7 : Nat, a0 ≤ 8 ∧ a1 ≤ 8 ∧ a2 ≤ 8 ∧ a3 ≤ 8 ∧ a4 ≤ 8 ∧ a5 ≤ 8 ∧ a6 ≤ 8 ∧ a7 ≤ 8 ∧
    bitsN 8 X = a0 + 256 * (a1 + 256 * (a2 + 256 * (a3 + 256 * (a4 + 256 * (a5 + 256 * (a6 + 256 * a7)))))) ∧ cnt X 64 = a0 + a1 + a2 + a3 + a4 + a5 + a6 + a7 := by
  refine ⟨pc (X % 256), pc (X / 256 % 256), pc (X / 256 / 256 % 256), pc (X / 256 / 256 / 256 % 256), pc (X / 256 / 256 / 256 / 256 % 256), pc (X / 256 / 256 / 256 / 256 / 256 % 256), pc (X / 256 / 256 / 256 / 256 / 256 / 256 % 256), pc (X / 256 / 256 / 256 / 256 / 256 / 256 / 256 % 256), ?_⟩
  refine ⟨pc_le _ (by omega), pc_le _ (by omega), pc_le _ (by omega), pc_le _ (by omega), pc_le _ (by omega), pc_le _ (by omega), pc_le _ (by omega), pc_le _ (by omega), ?_, ?_⟩
  · simp [bitsN]
  · rw [show 64 = 8 + (8 + (8 + (8 + (8 + (8 + (8 + (8 + 0))))))) from rfl]
    simp only [cnt_byte]
    simp [cnt]
    omega

theorem and_u64 (a b : Nat) (ha : a < 18446744073709551616) (hb : b < 18446744073709551616) : bits .and .u64 (a : Int) (b : Int) = ((a &&& b : Nat) : Int) := bits_and_u64_nat a b ha hb
theorem and_i64 (a b : Nat) (ha : a < 9223372036854775808) (hb : b < 9223372036854775808) : bits .and .i64 (a : Int) (b : Int) = ((a &&& b : Nat) : Int) := by
  have h1 : (BitVec.ofInt 64 (a : Int)).toNat = a := by
    rw [BitVec.ofInt_natCast, BitVec.toNat_ofNat]; exact Nat.mod_eq_of_lt (by omega)
  have h2 : (BitVec.ofInt 64 (b : Int)).toNat = b := by
    rw [BitVec.ofInt_natCast, BitVec.toNat_ofNat]; exact Nat.mod_eq_of_lt (by omega)
  have hx : a &&& b ≤ a := Nat.and_le_left
  show IntKind.i64.wrap ((BitVec.ofInt 64 (a : Int) &&& BitVec.ofInt 64 (b : Int)).toNat : Int) = _
  rw [BitVec.toNat_and, h1, h2, IntKind.wrap_i64]
  omega
theorem m85 : mB 85 8 = 6148914691236517205 := by decide
theorem m51 : mB 51 8 = 3689348814741910323 := by decide
theorem m15 : mB 15 8 = 1085102592571150095 := by decide
theorem k1 (x : Nat) (hx : x < 18446744073709551616) : IntKind.u64.wrap (bits .and .u64 ((x : Int) / 2) 6148914691236517205 + bits .and .u64 (x : Int) 6148914691236517205) = ((s1 8 x : Nat) : Int) ∧ s1 8 x < 18446744073709551616 := by
  have e : ((x : Int) / 2) = ((x / 2 : Nat) : Int) := by omega
  have h1 := and_u64 (x / 2) 6148914691236517205 (by omega) (by omega)
  have h2 := and_u64 x 6148914691236517205 hx (by omega)
  have h3 : x / 2 &&& 6148914691236517205 ≤ 6148914691236517205 := Nat.and_le_right
  have h4 : x &&& 6148914691236517205 ≤ 6148914691236517205 := Nat.and_le_right
  have h5 : s1 8 x = (x / 2 &&& 6148914691236517205) + (x &&& 6148914691236517205) := by unfold s1; rw [m85]
  rw [e]
  refine ⟨?_, by omega⟩
  show IntKind.u64.wrap (bits .and .u64 ((x / 2 : Nat) : Int) ((6148914691236517205 : Nat) : Int) + bits .and .u64 (x : Int) ((6148914691236517205 : Nat) : Int)) = _
  rw [h1, h2, h5, IntKind.wrap_u64]
  omega
theorem k2 (x : Nat) (hx : x < 18446744073709551616) : IntKind.u64.wrap (bits .and .u64 ((x : Int) / 4) 3689348814741910323 + bits .and .u64 (x : Int) 3689348814741910323) = ((s2 8 x : Nat) : Int) ∧ s2 8 x ≤ 7378697629483820646 := by
  have e : ((x : Int) / 4) = ((x / 4 : Nat) : Int) := by omega
  have h1 := and_u64 (x / 4) 3689348814741910323 (by omega) (by omega)
  have h2 := and_u64 x 3689348814741910323 hx (by omega)
  have h3 : x / 4 &&& 3689348814741910323 ≤ 3689348814741910323 := Nat.and_le_right
  have h4 : x &&& 3689348814741910323 ≤ 3689348814741910323 := Nat.and_le_right
  have h5 : s2 8 x = (x / 4 &&& 3689348814741910323) + (x &&& 3689348814741910323) := by unfold s2; rw [m51]
  rw [e]
  refine ⟨?_, by omega⟩
  show IntKind.u64.wrap (bits .and .u64 ((x / 4 : Nat) : Int) ((3689348814741910323 : Nat) : Int) + bits .and .u64 (x : Int) ((3689348814741910323 : Nat) : Int)) = _
  rw [h1, h2, h5, IntKind.wrap_u64]
  omega
theorem k3 (x : Nat) (hx : x ≤ 7378697629483820646) : bits .and .u64 (IntKind.u64.wrap ((x : Int) / 16 + (x : Int))) 1085102592571150095 = ((s3 8 x : Nat) : Int) := by
  have e : IntKind.u64.wrap ((x : Int) / 16 + (x : Int)) = ((x / 16 + x : Nat) : Int) := by rw [IntKind.wrap_u64]; omega
  rw [e]
  unfold s3
  rw [m15]
  exact and_u64 (x / 16 + x) 1085102592571150095 (by omega) (by omega)

theorem st_add {a b r s q t : Nat} (h1 : r = a + 256 * s) (h2 : q = b + 256 * t) : r + q = (a + b) + 256 * (s + t) := by omega
theorem div1 {a r s : Nat} (h : r = a + 256 * s) (ha : a ≤ 8) : r / 256 = s := by omega
theorem div2 {a b r s t : Nat} (h : r = a + 256 * s) (h2 : s = b + 256 * t) (ha : a ≤ 16) (hb : b ≤ 16) : r / 65536 = t := by omega
theorem div4 {a b c d r s t u v : Nat} (h : r = a + 256 * s) (h2 : s = b + 256 * t) (h3 : t = c + 256 * u) (h4 : u = d + 256 * v) (ha : a ≤ 32) (hb : b ≤ 32) (hc : c ≤ 32) (hd : d ≤ 32) : r / 4294967296 = v := by omega
theorem up {a r s B : Nat} (h : r = a + 256 * s) (ha : a ≤ 8) (hs : s ≤ B) : r ≤ 8 + 256 * B := by omega
theorem mod128 {a r s : Nat} (h : r = a + 256 * s) (ha : a ≤ 64) : r % 128 = a := by omega
theorem bnd {x3 r1 r2 r3 r4 r5 r6 a7 : Nat} (b0 : x3 ≤ 578721382704613384) (b1 : r1 ≤ 2260630401189896) (b2 : r2 ≤ 8830587504648) (b3 : r3 ≤ 34494482440) (b4 : r4 ≤ 134744072) (b5 : r5 ≤ 526344) (b6 : r6 ≤ 2056) (l7 : a7 ≤ 8) :
    x3 + r1 + (r2 + r3) + (r4 + r5 + (r6 + a7)) < 9223372036854775808 := by omega
theorem lt_of_sum {x y z B : Nat} (h : y = x + z) (hy : y < B) : x < B := by omega
theorem i64_small (x : Nat) (h : x < 9223372036854775808) : wrap64 (x : Int) = ((x : Nat) : Int) := by unfold wrap64; omega
/-- The last three sums. -/
theorem fold_sum (a0 a1 a2 a3 a4 a5 a6 a7 r1 r2 r3 r4 r5 r6 x3 : Nat) (l0 : a0 ≤ 8) (l1 : a1 ≤ 8) (l2 : a2 ≤ 8) (l3 : a3 ≤ 8) (l4 : a4 ≤ 8) (l5 : a5 ≤ 8) (l6 : a6 ≤ 8) (l7 : a7 ≤ 8)
    (h0 : x3 = a0 + 256 * r1) (h1 : r1 = a1 + 256 * r2) (h2 : r2 = a2 + 256 * r3) (h3 : r3 = a3 + 256 * r4) (h4 : r4 = a4 + 256 * r5) (h5 : r5 = a5 + 256 * r6) (h6 : r6 = a6 + 256 * a7) :
    ∃ x4 x5 x6, x4 = x3 + x3 / 256 ∧ x5 = x4 + x4 / 65536 ∧ x6 = x5 + x5 / 4294967296 ∧ x6 % 128 = a0 + a1 + a2 + a3 + a4 + a5 + a6 + a7 ∧ x6 < 9223372036854775808 := by
  have h7 : a7 = a7 + 256 * 0 := rfl
  have h8 : (0 : Nat) = 0 + 256 * 0 := rfl
  have b6 : r6 ≤ 2056 := up h6 l6 l7
  have b5 : r5 ≤ 526344 := up h5 l5 b6
  have b4 : r4 ≤ 134744072 := up h4 l4 b5
  have b3 : r3 ≤ 34494482440 := up h3 l3 b4
  have b2 : r2 ≤ 8830587504648 := up h2 l2 b3
  have b1 : r1 ≤ 2260630401189896 := up h1 l1 b2
  have b0 : x3 ≤ 578721382704613384 := up h0 l0 b1
  have s0 := st_add h0 h1
  have s1 := st_add h1 h2
  have s2 := st_add h2 h3
  have s3 := st_add h3 h4
  have s4 := st_add h4 h5
  have s5 := st_add h5 h6
  have s6 := st_add h6 h7
  have s7 := st_add h7 h8
  have t0 := st_add s0 s2
  have t1 := st_add s1 s3
  have t2 := st_add s2 s4
  have t3 := st_add s3 s5
  have t4 := st_add s4 s6
  have u0 := st_add t0 t4
  have e4 : x3 / 256 = r1 := div1 h0 l0
  have e5 : (x3 + r1) / 65536 = r2 + r3 := div2 s0 s1 (Nat.add_le_add l0 l1) (Nat.add_le_add l1 l2)
  have e6 : (x3 + r1 + (r2 + r3)) / 4294967296 = r4 + r5 + (r6 + a7) := div4 t0 t1 t2 t3 (Nat.add_le_add (Nat.add_le_add l0 l1) (Nat.add_le_add l2 l3)) (Nat.add_le_add (Nat.add_le_add l1 l2) (Nat.add_le_add l3 l4)) (Nat.add_le_add (Nat.add_le_add l2 l3) (Nat.add_le_add l4 l5)) (Nat.add_le_add (Nat.add_le_add l3 l4) (Nat.add_le_add l5 l6))
  refine ⟨x3 + r1, x3 + r1 + (r2 + r3), x3 + r1 + (r2 + r3) + (r4 + r5 + (r6 + a7)), by rw [e4], by rw [e5], by rw [e6], ?_, ?_⟩
  · have := mod128 u0 (Nat.add_le_add (Nat.add_le_add (Nat.add_le_add l0 l1) (Nat.add_le_add l2 l3)) (Nat.add_le_add (Nat.add_le_add l4 l5) (Nat.add_le_add l6 l7)))
    rw [this]
    simp only [Nat.add_assoc]
  · exact bnd b0 b1 b2 b3 b4 b5 b6 l7

theorem w64a {x y k : Nat} (h : y = x + x / k) (hy : y < 9223372036854775808) : IntKind.u64.wrap ((x : Int) + (x : Int) / (k : Int)) = ((y : Nat) : Int) := by
  have e : ((x : Int) / (k : Int)) = ((x / k : Nat) : Int) := rfl
  rw [e, IntKind.wrap_u64, h]
  generalize x / k = z at *
  omega

set_option maxHeartbeats 1000000 in
theorem ones_any (x : Nat) (w : World) (hx : x < 18446744073709551616) :
    Calls Tryd.prog 20 #[.int .u64 x] w fun e w' => e = .returned (.int .i64 (cnt x 64 : Int)) ∧ w' = w := by
  obtain ⟨q1, h1⟩ := k1 x hx
  obtain ⟨q2, h2⟩ := k2 (s1 8 x) h1
  have q3 := k3 (s2 8 (s1 8 x)) h2
  rw [s3_all] at q3
  obtain ⟨a0, a1, a2, a3, a4, a5, a6, a7, l0, l1, l2, l3, l4, l5, l6, l7, hX, hC⟩ := pop_end x
  obtain ⟨x4, x5, x6, h4, h5, h6, h7, h8⟩ := fold_sum a0 a1 a2 a3 a4 a5 a6 a7 _ _ _ _ _ _ _ l0 l1 l2 l3 l4 l5 l6 l7 hX rfl rfl rfl rfl rfl rfl
  rw [← hC] at h7
  clear hX hC l0 l1 l2 l3 l4 l5 l6 l7
  generalize s2 8 (s1 8 x) = x2 at *
  generalize s1 8 x = x1 at *
  generalize bitsN 8 x = x3 at *
  have b5 : x5 < 9223372036854775808 := lt_of_sum h6 h8
  have b4 : x4 < 9223372036854775808 := lt_of_sum h5 b5
  have q4 : IntKind.u64.wrap ((x3 : Int) + (x3 : Int) / 256) = ((x4 : Nat) : Int) := w64a h4 b4
  have q5 : IntKind.u64.wrap ((x4 : Int) + (x4 : Int) / 65536) = ((x5 : Nat) : Int) := w64a h5 b5
  have q6 : IntKind.u64.wrap ((x5 : Int) + (x5 : Int) / 4294967296) = ((x6 : Nat) : Int) := w64a h6 h8
  have q7 : bits .and .i64 (wrap64 (x6 : Int)) 127 = ((cnt x 64 : Nat) : Int) := by
    have e : wrap64 (x6 : Int) = ((x6 : Nat) : Int) := i64_small x6 h8
    rw [e, ← h7, ← Nat.and_two_pow_sub_one_eq_mod x6 7]
    exact and_i64 x6 127 h8 (by omega)
  clear h1 h2 h4 h5 h6 h7 h8 b4 b5 hx
  generalize cnt x 64 = c at *
  go_enter Tryd.func20, Tryd.ntmps20
  go_wp2
  go_ret
  exact ⟨rfl, rfl⟩

end Go.Proofs.YtbmejpghoafapaaDoor
