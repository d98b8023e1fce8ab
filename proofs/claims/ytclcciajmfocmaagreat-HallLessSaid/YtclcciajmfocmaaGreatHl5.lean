import Derived.Test.YtclcciajmfocmaaGreatHl4
import Derived.Sort.LotD5
set_option linter.all false
namespace Go.Abs.G
open Go.Proofs
attribute [local simp] I.vc sub merge place
set_option linter.unusedVariables false
set_option linter.unusedSimpArgs false

abbrev vu (n : Nat) : V := .a (.int .u64 (n : Int))
abbrev rndO (r : Nat) : O := .mem false [] [[V.a (.int .u64 (r : Int))]]

theorem wrapu64 (n : Nat) : IntKind.u64.wrap (n : Int) = ((n % 18446744073709551616 : Nat) : Int) := by
  simp [IntKind.wrap, IntKind.bits, IntKind.signed]
theorem bv64 (n : Nat) (h : n < 18446744073709551616) : (BitVec.ofNat 64 n).toNat = n := by
  simp; omega
theorem xor64 (x y : Nat) (hx : x < 18446744073709551616) (hy : y < 18446744073709551616) : IntKind.u64.wrap ((BitVec.ofNat IntKind.u64.bits x ^^^ BitVec.ofNat IntKind.u64.bits y).toNat : Int) = ((x ^^^ y : Nat) : Int) := by
  show IntKind.u64.wrap ((BitVec.ofNat 64 x ^^^ BitVec.ofNat 64 y).toNat : Int) = _
  rw [BitVec.toNat_xor, bv64 x hx, bv64 y hy, wrapu64, Nat.mod_eq_of_lt]
  exact Nat.xor_lt_two_pow (n := 64) hx hy
theorem and64 (x y : Nat) (hx : x < 18446744073709551616) (hy : y < 18446744073709551616) : IntKind.u64.wrap ((BitVec.ofNat IntKind.u64.bits x &&& BitVec.ofNat IntKind.u64.bits y).toNat : Int) = ((x &&& y : Nat) : Int) := by
  show IntKind.u64.wrap ((BitVec.ofNat 64 x &&& BitVec.ofNat 64 y).toNat : Int) = _
  rw [BitVec.toNat_and, bv64 x hx, bv64 y hy, wrapu64, Nat.mod_eq_of_lt]
  exact Nat.lt_of_le_of_lt Nat.and_le_left hx
theorem shl64 (x k : Nat) : IntKind.u64.wrap ((x : Int) * (k : Int)) = ((x * k % 18446744073709551616 : Nat) : Int) := by
  rw [← Int.natCast_mul, wrapu64]
theorem fdivNs (x k : Nat) : Int.fdiv (x : Int) (k : Int) = ((x / k : Nat) : Int) := by
  rw [Int.fdiv_eq_ediv_of_nonneg _ (by omega)]; simp

theorem bitsLen_div (x k : Nat) (h : 2 ^ k ≤ x) : Go.Sort.bitsLen x = Go.Sort.bitsLen (x / 2 ^ k) + k := by
  have hx := Go.Sort.lt_two_pow_bitsLen x
  have hk : k ≤ Go.Sort.bitsLen x := by
    refine Nat.le_of_not_lt fun hn => ?_
    have := Nat.pow_lt_pow_right (a := 2) (by omega) hn
    omega
  apply Nat.le_antisymm
  · rw [Go.Sort.bitsLen_le_iff]
    have := Go.Sort.lt_two_pow_bitsLen (x / 2 ^ k)
    rw [Nat.div_lt_iff_lt_mul (Nat.two_pow_pos k)] at this
    rwa [Nat.pow_add]
  · have : Go.Sort.bitsLen (x / 2 ^ k) ≤ Go.Sort.bitsLen x - k := by
      rw [Go.Sort.bitsLen_le_iff, Nat.div_lt_iff_lt_mul (Nat.two_pow_pos k), ← Nat.pow_add, Nat.sub_add_cancel hk]
      exact hx
    omega

theorem xorshift_spec (r : Nat) (h : r < 18446744073709551616) :
    DC Tryz.prog slices_xorshift_Next.id [.ptr 0 1 0 0] [rndO r] (fun x H => x = vu (Go.Sort.xorNextN r) ∧ H = [rndO (Go.Sort.xorNextN r)]) := by
  refine DC.of slices_xorshift_Next.ok (by simp) ?_
  unfold slices_xorshift_Next.ir
  obtain ⟨a, ha⟩ : ∃ a, a = r ^^^ (r * 8192 % 18446744073709551616) := ⟨_, rfl⟩
  obtain ⟨b, hb⟩ : ∃ b, b = a ^^^ (a / 128) := ⟨_, rfl⟩
  obtain ⟨c, hc⟩ : ∃ c, c = b ^^^ (b * 131072 % 18446744073709551616) := ⟨_, rfl⟩
  have e : Go.Sort.xorNextN r = c := by rw [hc, hb, ha]; rfl
  have la : a < 18446744073709551616 := by rw [ha]; exact Nat.xor_lt_two_pow (n := 64) h (by omega)
  have lb : b < 18446744073709551616 := by rw [hb]; exact Nat.xor_lt_two_pow (n := 64) la (by omega)
  have e1 : IntKind.u64.wrap ((r : Int) * 8192) = _ := shl64 r 8192
  have e2 : Int.fdiv (a : Int) 128 = _ := fdivNs a 128
  have e3 : IntKind.u64.wrap ((b : Int) * 131072) = _ := shl64 b 131072
  have x1 := xor64 r (r * 8192 % 18446744073709551616) h (by omega)
  have x2 := xor64 a (a / 128) la (by omega)
  have x3 := xor64 b (b * 131072 % 18446744073709551616) lb (by omega)
  rw [← ha] at x1; rw [← hb] at x2; rw [← hc] at x3
  clear ha hb hc
  rw [e]
  obtain ⟨s1, hs1⟩ : ∃ s1, r * 8192 % 18446744073709551616 = s1 := ⟨_, rfl⟩
  obtain ⟨s2, hs2⟩ : ∃ s2, a / 128 = s2 := ⟨_, rfl⟩
  obtain ⟨s3, hs3⟩ : ∃ s3, b * 131072 % 18446744073709551616 = s3 := ⟨_, rfl⟩
  rw [hs1] at e1 x1; rw [hs2] at e2 x2; rw [hs3] at e3 x3
  have m1 : min 13 IntKind.u64.bits = 13 := rfl
  have m2 : min 7 IntKind.u64.bits = 7 := rfl
  have m3 : min 17 IntKind.u64.bits = 17 := rfl
  refine vc_cut (fun s => gt s.sl 0 = .ptr 0 1 0 0 ∧ s.hp = [rndO r]) (by simp -dsimp) ?_
  rintro ⟨sl, hp, bs⟩ ⟨h0, rfl⟩
  refine vc_cut (fun s => gt s.sl 0 = .ptr 0 1 0 0 ∧ s.hp = [rndO a]) (by simp -dsimp [-BitVec.toNat_xor, h0, m1, e1, x1]) ?_
  rintro ⟨sl, hp, bs⟩ ⟨h0, rfl⟩
  refine vc_cut (fun s => gt s.sl 0 = .ptr 0 1 0 0 ∧ s.hp = [rndO b]) (by simp -dsimp [-BitVec.toNat_xor, h0, m2, e2, x2]) ?_
  rintro ⟨sl, hp, bs⟩ ⟨h0, rfl⟩
  refine vc_cut (fun s => gt s.sl 0 = .ptr 0 1 0 0 ∧ s.hp = [rndO c]) (by simp -dsimp [-BitVec.toNat_xor, h0, m3, e3, x3]) ?_
  rintro ⟨sl, hp, bs⟩ ⟨h0, rfl⟩
  simp -dsimp [h0, slices_xorshift_Next.rs]

theorem len_step (x k : Nat) : ∃ y m : Nat, (2 ^ k ≤ x ∧ y = x / 2 ^ k ∧ m = k ∨ ¬ 2 ^ k ≤ x ∧ y = x ∧ m = 0) ∧ Go.Sort.bitsLen x = Go.Sort.bitsLen y + m := by
  by_cases h : 2 ^ k ≤ x
  · exact ⟨_, _, Or.inl ⟨h, rfl, rfl⟩, bitsLen_div x k h⟩
  · exact ⟨_, _, Or.inr ⟨h, rfl, rfl⟩, rfl⟩

def lenTab : ByteArray := ⟨#[0, 1, 2, 2, 3, 3, 3, 3, 4, 4, 4, 4, 4, 4, 4, 4, 5, 5, 5, 5, 5, 5, 5, 5, 5, 5, 5, 5, 5, 5, 5, 5, 6, 6, 6, 6, 6, 6, 6, 6, 6, 6, 6, 6, 6, 6, 6, 6, 6, 6, 6, 6, 6, 6, 6, 6, 6, 6, 6, 6, 6, 6, 6, 6, 7, 7, 7, 7, 7, 7, 7, 7, 7, 7, 7, 7, 7, 7, 7, 7, 7, 7, 7, 7, 7, 7, 7, 7, 7, 7, 7, 7, 7, 7, 7, 7, 7, 7, 7, 7, 7, 7, 7, 7, 7, 7, 7, 7, 7, 7, 7, 7, 7, 7, 7, 7, 7, 7, 7, 7, 7, 7, 7, 7, 7, 7, 7, 7, 8, 8, 8, 8, 8, 8, 8, 8, 8, 8, 8, 8, 8, 8, 8, 8, 8, 8, 8, 8, 8, 8, 8, 8, 8, 8, 8, 8, 8, 8, 8, 8, 8, 8, 8, 8, 8, 8, 8, 8, 8, 8, 8, 8, 8, 8, 8, 8, 8, 8, 8, 8, 8, 8, 8, 8, 8, 8, 8, 8, 8, 8, 8, 8, 8, 8, 8, 8, 8, 8, 8, 8, 8, 8, 8, 8, 8, 8, 8, 8, 8, 8, 8, 8, 8, 8, 8, 8, 8, 8, 8, 8, 8, 8, 8, 8, 8, 8, 8, 8, 8, 8, 8, 8, 8, 8, 8, 8, 8, 8, 8, 8, 8, 8, 8, 8, 8, 8, 8, 8, 8, 8, 8, 8, 8, 8, 8, 8]⟩

theorem lenTab_size : lenTab.size = 256 := by decide +kernel
theorem lenTab_at : ∀ y, y < 256 → byteAt lenTab y = (Go.Sort.bitsLen y : Int) := by decide +kernel
theorem bitsLen_le64 (x : Nat) (h : x < 18446744073709551616) : Go.Sort.bitsLen x ≤ 64 := (Go.Sort.bitsLen_le_iff x 64).2 h

theorem len64_spec (x : Nat) (h : x < 18446744073709551616) : Pf Tryz.prog math_bits_Len64.id [vu x] (vi (Go.Sort.bitsLen x)) := by
  refine DC.of math_bits_Len64.ok (by simp) ?_
  unfold math_bits_Len64.ir
  obtain ⟨y, m, hc, hb⟩ := len_step x 32
  obtain ⟨y', m', hc', hb'⟩ := len_step y 16
  obtain ⟨z, n, hd, hb2⟩ := len_step y' 8
  have hx := bitsLen_le64 x h
  refine vc_cut (fun s => gt s.sl 0 = vu x ∧ gt s.sl 2 = vi 0 ∧ s.hp = []) (by simp -dsimp) ?_
  rintro ⟨sl, hp, bs⟩ ⟨h0, h2, rfl⟩
  refine vc_cut (fun s => gt s.sl 0 = vu y ∧ gt s.sl 2 = vi m ∧ s.hp = []) ?_ ?_
  · rcases hc with ⟨c, hy, hm⟩ | ⟨c, hy, hm⟩
    · have i : (4294967296 : Int) ≤ x := by omega
      have e := fdivNs x 4294967296
      have mn : min 32 IntKind.u64.bits = 32 := rfl
      have e : Int.fdiv (x : Int) 4294967296 = (y : Int) := by rw [hy]; exact e
      subst hm
      clear hy
      simp -dsimp [h0, h2, i, e, mn]
    · have i : ¬ (4294967296 : Int) ≤ x := by omega
      subst hm
      rw [hy]
      simp -dsimp [h0, h2, i]
  rintro ⟨sl, hp, bs⟩ ⟨h0, h2, rfl⟩
  have ly : y < 4294967296 := by omega
  clear hc
  refine vc_cut (fun s => gt s.sl 0 = vu y' ∧ gt s.sl 2 = vi (m + m' : Nat) ∧ s.hp = []) ?_ ?_
  · rcases hc' with ⟨c, hy, hm⟩ | ⟨c, hy, hm⟩
    · have i : (65536 : Int) ≤ y := by omega
      have e := fdivNs y 65536
      have mn : min 16 IntKind.u64.bits = 16 := rfl
      have e : Int.fdiv (y : Int) 65536 = (y' : Int) := by rw [hy]; exact e
      subst hm
      have w : IntKind.i64.wrap ((m : Int) + 16) = (m : Int) + 16 := by rw [wrap64] <;> omega
      clear hy
      simp -dsimp [h0, h2, i, e, mn, w]
    · have i : ¬ (65536 : Int) ≤ y := by omega
      subst hm
      rw [hy]
      simp -dsimp [h0, h2, i]
  rintro ⟨sl, hp, bs⟩ ⟨h0, h2, rfl⟩
  have ly' : y' < 65536 := by omega
  clear hc'
  refine vc_cut (fun s => gt s.sl 0 = vu z ∧ gt s.sl 2 = vi (m + m' + n : Nat) ∧ s.hp = []) ?_ ?_
  · rcases hd with ⟨c, hy, hm⟩ | ⟨c, hy, hm⟩
    · have i : (256 : Int) ≤ y' := by omega
      have e := fdivNs y' 256
      have mn : min 8 IntKind.u64.bits = 8 := rfl
      have e : Int.fdiv (y' : Int) 256 = (z : Int) := by rw [hy]; exact e
      subst hm
      have w : IntKind.i64.wrap ((m : Int) + (m' : Int) + 8) = (m : Int) + (m' : Int) + 8 := by rw [wrap64] <;> omega
      clear hy
      simp -dsimp [h0, h2, i, e, mn, w]
    · have i : ¬ (256 : Int) ≤ y' := by omega
      subst hm
      rw [hy]
      simp -dsimp [h0, h2, i]
  rintro ⟨sl, hp, bs⟩ ⟨h0, h2, rfl⟩
  have lz : z < 256 := by omega
  have iz : (z : Int) < 256 := by omega
  clear hd
  have w8 : IntKind.u8.wrap (z : Int) = z := by simp [IntKind.wrap, IntKind.bits, IntKind.signed]; omega
  have t1 := lenTab_at z lz
  have t2 : IntKind.i64.wrap (Go.Sort.bitsLen z : Int) = (Go.Sort.bitsLen z : Int) := by rw [wrap64] <;> omega
  have t3 : IntKind.i64.wrap ((m : Int) + (m' : Int) + (n : Int) + (Go.Sort.bitsLen z : Int)) = (Go.Sort.bitsLen x : Int) := by rw [wrap64] <;> omega
  have ts := lenTab_size
  generalize hL : (ByteArray.mk _) = L
  have hL' : lenTab = L := hL
  rw [hL'] at t1 ts
  simp -dsimp [h0, h2, w8, t1, t2, t3, ts, iz, math_bits_Len64.rs, lz]

theorem len_spec (x : Nat) (h : x < 18446744073709551616) : Pf Tryz.prog math_bits_Len.id [vu x] (vi (Go.Sort.bitsLen x)) := by
  refine DC.of math_bits_Len.ok (by simp) ?_
  simp -dsimp [↓call_f, ↓vc_cond_false, math_bits_Len.ir]
  refine (len64_spec x h).use ?_
  simp -dsimp [math_bits_Len.rs]

theorem pow2_spec (x : Nat) (h : x < 4611686018427387904) : Pf Tryz.prog slices_nextPowerOfTwo.id [vi x] (vu (2 ^ Go.Sort.bitsLen x)) := by
  refine DC.of slices_nextPowerOfTwo.ok (by simp) ?_
  have w : IntKind.u64.wrap (x : Int) = x := by rw [wrapu64, Nat.mod_eq_of_lt (by omega)]
  have hk : Go.Sort.bitsLen x ≤ 62 := (Go.Sort.bitsLen_le_iff x 62).2 h
  have hp : 2 ^ Go.Sort.bitsLen x ≤ 2 ^ 62 := Nat.pow_le_pow_right (by omega) hk
  have w2 : IntKind.u64.wrap (((2 : Nat) ^ Go.Sort.bitsLen x : Nat) : Int) = ((2 ^ Go.Sort.bitsLen x : Nat) : Int) := by rw [wrapu64, Nat.mod_eq_of_lt (by omega)]
  have mn : min (Go.Sort.bitsLen x) IntKind.u64.bits = Go.Sort.bitsLen x := by show min (Go.Sort.bitsLen x) 64 = _; omega
  simp -dsimp [↓call_f, slices_nextPowerOfTwo.ir, w]
  refine (len_spec x (by omega)).use ?_
  simp -dsimp [slices_nextPowerOfTwo.rs, mn, ← Int.natCast_pow]
  exact w2
end Go.Abs.G


namespace Go.Abs.G
open Go.Proofs
attribute [local simp] I.vc sub merge place
set_option linter.unusedVariables false
set_option linter.unusedSimpArgs false

/-- k rounds of breakPatterns. -/
def bp (a len : Nat) (d : Array Int) : Nat → UInt64 × Array Int
  | 0 => (UInt64.ofNat len, d)
  | k + 1 => Go.Sort.breakStep a len (1 <<< Go.Sort.bitsLen len) (bp a len d k) (a + len / 4 * 2 - 1 + k)

theorem bp_3 (d : Array Int) (a b : Nat) (h : 8 ≤ b - a) : Go.Sort.breakPatterns d a b = (bp a (b - a) d 3).2 := by
  unfold Go.Sort.breakPatterns
  simp only []
  rw [if_pos h]
  rfl

theorem bp_size (a len : Nat) (d : Array Int) (k : Nat) : (bp a len d k).2.size = d.size := by
  induction k with
  | zero => rfl
  | succ k ih =>
    show (Go.Sort.swp _ _ _).size = _
    rw [swp_size]; exact ih

set_option maxHeartbeats 1000000 in
theorem break_spec (d : Array Int) (a b : Nat) (hab : a + 12 < b) (hb : b ≤ d.size) (hs : d.size ≤ 1152921504606846976) :
    DC Tryz.prog slices_breakPatternsOrdered_int.id [dataV d.size, vi a, vi b] [rowsO d] (fun r H => ∃ J, H = rowsO (Go.Sort.breakPatterns d a b) :: J) := by
  refine DC.of slices_breakPatternsOrdered_int.ok (by simp) ?_
  rw [bp_3 d a b (by omega)]
  obtain ⟨len, hl⟩ : ∃ len, b - a = len := ⟨_, rfl⟩
  rw [hl]
  obtain ⟨S, hS⟩ : ∃ S, (bp a len d 3).2 = S := ⟨_, rfl⟩
  rw [hS]
  unfold slices_breakPatternsOrdered_int.ir
  have w0 : IntKind.i64.wrap ((b : Int) - a) = (len : Int) := by rw [wrap64] <;> omega
  refine vc_cut (fun s => gt s.sl 0 = dataV d.size ∧ gt s.sl 1 = vi a ∧ gt s.sl 6 = vi len ∧ s.hp = [rowsO d]) (by simp -dsimp [w0]) ?_
  rintro ⟨sl, hp, bs⟩ ⟨h0, h1, h6, rfl⟩
  have i8 : (8 : Int) ≤ len := by omega
  refine vc_cut (fun s => gt s.sl 0 = dataV d.size ∧ gt s.sl 1 = vi a ∧ gt s.sl 6 = vi len ∧ gt s.sl 15 = .bool true ∧ s.hp = [rowsO d]) (by simp -dsimp [h0, h1, h6, i8]) ?_
  rintro ⟨sl, hp, bs⟩ ⟨h0, h1, h6, h15, rfl⟩
  rw [vc_cond_true (by simpa using h15)]
  have wl : IntKind.u64.wrap (len : Int) = len := by rw [wrapu64, Nat.mod_eq_of_lt (by omega)]
  refine vc_cut (fun s => gt s.sl 0 = dataV d.size ∧ gt s.sl 1 = vi a ∧ gt s.sl 6 = vi len ∧ gt s.sl 7 = .ptr 1 1 0 0 ∧ s.hp = [rowsO d, rndO len]) (by simp -dsimp [h0, h1, h6, wl]) ?_
  rintro ⟨sl, hp, bs⟩ ⟨h0, h1, h6, h7, rfl⟩
  obtain ⟨M, hM⟩ : ∃ M, M = 2 ^ Go.Sort.bitsLen len := ⟨_, rfl⟩
  have M1 : 1 ≤ M := by rw [hM]; exact Nat.two_pow_pos _
  have M2 : M ≤ 2 * len := by rw [hM]; exact Go.Sort.two_pow_bitsLen_le (by omega)
  refine vc_cut (fun s => gt s.sl 0 = dataV d.size ∧ gt s.sl 1 = vi a ∧ gt s.sl 6 = vi len ∧ gt s.sl 7 = .ptr 1 1 0 0 ∧ gt s.sl 8 = vu M ∧ s.hp = [rowsO d, rndO len]) ?_ ?_
  · have hp2 := pow2_spec len (by omega)
    rw [← hM] at hp2
    simp -dsimp [↓call_f, h0, h1, h6, h7]
    refine hp2.use ?_
    simp -dsimp [h0, h1, h6, h7]
  rintro ⟨sl, hp, bs⟩ ⟨h0, h1, h6, h7, h8, rfl⟩
  obtain ⟨i0, hi0⟩ : ∃ i0, a + len / 4 * 2 - 1 = i0 := ⟨_, rfl⟩
  have y1 : IntKind.i64.wrap ((len : Int) / 4) = (len : Int) / 4 := by rw [wrap64] <;> omega
  have y2 : IntKind.i64.wrap ((len : Int) / 4 * 2) = (len : Int) / 4 * 2 := by rw [wrap64] <;> omega
  have y3 : IntKind.i64.wrap ((a : Int) + (len : Int) / 4 * 2) = (i0 : Int) + 1 := by rw [wrap64] <;> omega
  have y4 : IntKind.i64.wrap ((i0 : Int) + 1 - 1) = (i0 : Int) := by rw [wrap64] <;> omega
  have y4' : IntKind.i64.wrap (i0 : Int) = (i0 : Int) := by rw [wrap64] <;> omega
  have y5 : IntKind.i64.wrap ((i0 : Int) + 1 + 1) = (i0 : Int) + 2 := by rw [wrap64] <;> omega
  refine vc_cut (fun s => gt s.sl 0 = dataV d.size ∧ gt s.sl 1 = vi a ∧ gt s.sl 6 = vi len ∧ gt s.sl 7 = .ptr 1 1 0 0 ∧ gt s.sl 8 = vu M ∧ gt s.sl 9 = vi i0 ∧ s.hp = [rowsO d, rndO len]) (by simp -dsimp [h0, h1, h6, h7, h8, y1, y2, y3, y4, y4']) ?_
  rintro ⟨sl, hp, bs⟩ ⟨h0, h1, h6, h7, h8, h9, rfl⟩
  have e0 : (bp a len d 0).1.toNat = len := by show (UInt64.ofNat len).toNat = len; simp; omega
  simp -dsimp [↓loop_f]
  refine WI.mono (Q := fun e st => e = .exit 0 ∧ ∃ o, st.hp = [rowsO S, o]) (WI.loop 2 (by simp) (fun st => ∃ k : Nat, k ≤ 3 ∧ gt st.sl 0 = dataV d.size ∧ gt st.sl 1 = vi a ∧ gt st.sl 6 = vi len ∧ gt st.sl 7 = .ptr 1 1 0 0 ∧ gt st.sl 8 = vu M ∧ gt st.sl 9 = vi (i0 + k : Nat) ∧ st.hp = [rowsO (bp a len d k).2, rndO (bp a len d k).1.toNat]) (fun st => ((i0 : Int) + 3 - (gt st.sl 9).num).toNat) ?_ ?_) ?_
  · exact ⟨0, by omega, by simp [h0], by simp [h1], by simp [h6], by simp [h7], by simp [h8], by simp [h9], by rw [e0]; rfl⟩
  · clear h0 h1 h6 h7 h8 h9 e0
    rintro ⟨sl, hp, bs⟩ ⟨k, hk, h0, h1, h6, h7, h8, h9, rfl⟩
    by_cases hk3 : k = 3
    · subst hk3
      have iN : ¬ (i0 : Int) + 3 ≤ (i0 : Int) + 2 := by omega
      simp -dsimp [slices_breakPatternsOrdered_int.b0, h0, h1, h6, h7, h8, h9, y1, y2, y3, y5, iN, hS]
    have hb1 : bp a len d (k + 1) = Go.Sort.breakStep a len (1 <<< Go.Sort.bitsLen len) (bp a len d k) (i0 + k) := by rw [← hi0]; rfl
    obtain ⟨st, hst⟩ : ∃ st, bp a len d k = st := ⟨_, rfl⟩
    obtain ⟨r, dk⟩ := st
    have zk : dk.size = d.size := by have := bp_size a len d k; rw [hst] at this; exact this
    rw [hst] at hb1 ⊢
    simp only
    have lr : r.toNat < 18446744073709551616 := r.toNat_lt
    have xs := xorshift_spec r.toNat lr
    obtain ⟨x, hx⟩ : ∃ x, Go.Sort.xorNext r = x := ⟨_, rfl⟩
    have ex : Go.Sort.xorNextN r.toNat = x.toNat := by rw [← Go.Sort.xorNext_toNat, hx]
    have lx : x.toNat < 18446744073709551616 := x.toNat_lt
    rw [ex] at xs
    obtain ⟨o0, ho0⟩ : ∃ o0, x.toNat &&& (M - 1) = o0 := ⟨_, rfl⟩
    have bo0 : o0 ≤ M - 1 := by rw [← ho0]; exact Nat.and_le_right
    obtain ⟨o1, ho1⟩ : ∃ o1, (if o0 ≥ len then o0 - len else o0) = o1 := ⟨_, rfl⟩
    have bo1 : o1 < len := by rw [← ho1]; split <;> omega
    have step : bp a len d (k + 1) = (x, Go.Sort.swp dk (i0 + k) (a + o1)) := by
      rw [hb1]
      unfold Go.Sort.breakStep
      simp only [hx]
      rw [Nat.shiftLeft_eq, Nat.one_mul, ← hM, ho0, ho1]
    have a1 := and64 x.toNat (M - 1) lx (by omega)
    rw [ho0] at a1
    have m1 : IntKind.u64.wrap ((M : Int) - 1) = ((M - 1 : Nat) : Int) := by
      rw [show (M : Int) - 1 = ((M - 1 : Nat) : Int) by omega, wrapu64, Nat.mod_eq_of_lt (by omega)]
    have wo : IntKind.i64.wrap (o0 : Int) = (o0 : Int) := by rw [wrap64] <;> omega
    obtain ⟨p, hp⟩ : ∃ p, i0 + k = p := ⟨_, rfl⟩
    obtain ⟨q, hq⟩ : ∃ q, a + o1 = q := ⟨_, rfl⟩
    rw [hp, hq] at step
    rw [hp] at h9
    have iY : (p : Int) ≤ (i0 : Int) + 2 := by omega
    obtain ⟨μ0, hμ⟩ : ∃ μ0, ((i0 : Int) + 3 - (gt sl 9).num).toNat = μ0 := ⟨_, rfl⟩
    have hμ' : μ0 = 3 - k := by rw [← hμ, h9]; show ((i0 : Int) + 3 - (p : Int)).toNat = 3 - k; omega
    simp only [hμ]
    clear hμ
    unfold slices_breakPatternsOrdered_int.b0
    refine vc_cut (fun st => gt st.sl 0 = dataV d.size ∧ gt st.sl 1 = vi a ∧ gt st.sl 6 = vi len ∧ gt st.sl 7 = .ptr 1 1 0 0 ∧ gt st.sl 8 = vu M ∧ gt st.sl 9 = vi p ∧ st.hp = [rowsO dk, rndO r.toNat]) (by simp -dsimp [h0, h1, h6, h7, h8, h9, y1, y2, y3, y5, iY]) ?_
    clear h0 h1 h6 h7 h8 h9
    rintro ⟨sl, hp', bs⟩ ⟨h0, h1, h6, h7, h8, h9, rfl⟩
    refine vc_cut (fun st => gt st.sl 0 = dataV d.size ∧ gt st.sl 1 = vi a ∧ gt st.sl 6 = vi len ∧ gt st.sl 7 = .ptr 1 1 0 0 ∧ gt st.sl 8 = vu M ∧ gt st.sl 9 = vi p ∧ st.hp = [rowsO (Go.Sort.swp dk p q), rndO x.toNat]) (vc_block_of ?_) ?_
    · refine vc_cut (fun st => gt st.sl 0 = dataV d.size ∧ gt st.sl 1 = vi a ∧ gt st.sl 6 = vi len ∧ gt st.sl 7 = .ptr 1 1 0 0 ∧ gt st.sl 8 = vu M ∧ gt st.sl 9 = vi p ∧ gt st.sl 10 = vi o0 ∧ st.hp = [rowsO dk, rndO x.toNat]) ?_ ?_
      · simp -dsimp [↓callm_fn, h0, h1, h6, h7, h8, h9]
        refine DC.mono xs fun rr H ⟨hr, hH⟩ => ?_
        subst hr hH
        simp -dsimp [-BitVec.toNat_and, h0, h1, h6, h7, h8, h9, m1, a1, wo]
      clear h0 h1 h6 h7 h8 h9
      rintro ⟨sl, hp', bs⟩ ⟨h0, h1, h6, h7, h8, h9, h10, rfl⟩
      refine vc_cut (fun st => gt st.sl 0 = dataV d.size ∧ gt st.sl 1 = vi a ∧ gt st.sl 6 = vi len ∧ gt st.sl 7 = .ptr 1 1 0 0 ∧ gt st.sl 8 = vu M ∧ gt st.sl 9 = vi p ∧ gt st.sl 10 = vi o1 ∧ st.hp = [rowsO dk, rndO x.toNat]) ?_ ?_
      · by_cases hc : o0 ≥ len
        · rw [if_pos hc] at ho1
          have ic : (len : Int) ≤ o0 := by omega
          have ws : IntKind.i64.wrap ((o0 : Int) - len) = (o1 : Int) := by rw [wrap64] <;> omega
          simp -dsimp [h0, h1, h6, h7, h8, h9, h10, ic, ws]
        · rw [if_neg hc] at ho1
          have ic : ¬ (len : Int) ≤ o0 := by omega
          subst ho1
          simp -dsimp [h0, h1, h6, h7, h8, h9, h10, ic]
      clear h0 h1 h6 h7 h8 h9 h10
      rintro ⟨sl, hp', bs⟩ ⟨h0, h1, h6, h7, h8, h9, h10, rfl⟩
      have wq : IntKind.i64.wrap ((a : Int) + o1) = (q : Int) := by rw [wrap64] <;> omega
      have kp : p < dk.size := by omega
      have kq : q < dk.size := by omega
      have kp' : p < d.size := by omega
      have kq' : q < d.size := by omega
      have hsw := swp_rows dk kp kq
      by_cases hpq : p = q
      · subst hpq
        have hpp : Go.Sort.swp dk p p = dk := by
          apply Array.toList_inj.1
          simp [Go.Sort.swp, get_bang dk kp]
          have := @List.set_getElem_self _ dk.toList p (by simpa using kp)
          simpa using this
        have hsw' : ((dk.toList.map fun n => [V.a (.int .i64 n)]).set p [V.a (.int .i64 dk[p])]) = dk.toList.map fun n => [V.a (.int .i64 n)] := by
          rw [hpp] at hsw; rw [List.set_set] at hsw; exact hsw
        rw [hpp]
        simp -dsimp [h0, h1, h6, h7, h8, h9, h10, wq, kp', kq', zk, List.getElem_set, hsw']
      · simp -dsimp [h0, h1, h6, h7, h8, h9, h10, wq, kp', kq', zk, hpq, List.getElem_set, hsw]
    clear h0 h1 h6 h7 h8 h9
    rintro ⟨sl, hp', bs⟩ ⟨h0, h1, h6, h7, h8, h9, rfl⟩
    have wn : IntKind.i64.wrap ((p : Int) + 1) = (p : Int) + 1 := by rw [wrap64] <;> omega
    simp -dsimp [h0, h1, h6, h7, h8, h9, wn]
    refine ⟨⟨k + 1, by omega, by omega, ?_⟩, by omega⟩
    rw [step]
    exact ⟨rfl, rfl⟩
  · rintro e ⟨sl, hp, bs⟩ ⟨rfl, o, rfl⟩
    simp -dsimp [slices_breakPatternsOrdered_int.rs]
end Go.Abs.G


namespace Go.Abs.G
open Go.Proofs
attribute [local simp] I.vc sub merge place
set_option linter.unusedVariables false
set_option linter.unusedSimpArgs false

theorem swo_int : Go.Sort.SWO Go.Sort.ltInt where
  irrefl x := by simp [Go.Sort.ltInt]
  trans x y z h1 h2 := by simp [Go.Sort.ltInt] at *; omega
  ntrans x y z h1 h2 := by simp [Go.Sort.ltInt] at *; omega

/-- Within [a, b) sorted, the rest as it was. -/
def Srt (a b : Nat) (d d' : Array Int) : Prop := Go.Sort.PermIn a b d d' ∧ Go.Sort.SortedIn Go.Sort.ltInt a b d'

/-- The row comes first. -/
def At0 (H : Heap) (d : Array Int) : Prop := ∃ J, H = rowsO d :: J
theorem At0.mk (d : Array Int) (J : Heap) : At0 (rowsO d :: J) d := ⟨J, rfl⟩

abbrev pdqS (n a b l : Nat) (w p : Bool) (st : St) : Prop := gt st.sl 0 = dataV n ∧ gt st.sl 1 = vi a ∧ gt st.sl 2 = vi b ∧ gt st.sl 3 = vi l ∧ gt st.sl 8 = .bool w ∧ gt st.sl 9 = .bool p

def pdqI (n m a b : Nat) (d : Array Int) (st : St) : Prop := ∃ (a1 b1 l1 : Nat) (w p : Bool) (d1 : Array Int), a1 ≤ b1 ∧ b1 ≤ n ∧ b1 - a1 ≤ m ∧ d1.size = n ∧ l1 ≤ 64 ∧ pdqS n a1 b1 l1 w p st ∧ st.hp = [rowsO d1] ∧ Go.Sort.Below Go.Sort.ltInt a1 b1 d1 ∧ ∀ R, Go.Sort.PermIn a1 b1 d1 R → Go.Sort.SortedIn Go.Sort.ltInt a1 b1 R → Srt a b d R
theorem pdqI.mk {n m a b : Nat} {d : Array Int} {st : St} (a1 b1 l1 : Nat) (w p : Bool) (d1 : Array Int) (h1 : a1 ≤ b1) (h2 : b1 ≤ n) (h3 : b1 - a1 ≤ m) (h4 : d1.size = n) (h5 : l1 ≤ 64) (h6 : pdqS n a1 b1 l1 w p st) (h7 : st.hp = [rowsO d1])
    (h8 : Go.Sort.Below Go.Sort.ltInt a1 b1 d1) (h9 : ∀ R, Go.Sort.PermIn a1 b1 d1 R → Go.Sort.SortedIn Go.Sort.ltInt a1 b1 R → Srt a b d R) : pdqI n m a b d st := ⟨a1, b1, l1, w, p, d1, h1, h2, h3, h4, h5, h6, h7, h8, h9⟩

theorem hintN_inj (h : Go.Sort.Hint) : (hintN h = 2 ↔ h = .decreasing) ∧ (hintN h = 1 ↔ h = .increasing) := by cases h <;> simp [hintN]

set_option maxHeartbeats 2000000 in
theorem pdq_spec : ∀ (m : Nat) (d : Array Int) (a b limit : Nat), b - a ≤ m → a ≤ b → b ≤ d.size → d.size ≤ 1152921504606846976 → limit ≤ 64 → Go.Sort.Below Go.Sort.ltInt a b d →
    DC Tryz.prog slices_pdqsortOrdered_int.id [dataV d.size, vi a, vi b, vi limit] [rowsO d] (fun r H => ∃ d', At0 H d' ∧ Srt a b d d') := by
  intro m
  induction m using Nat.strongRecOn with
  | _ m IH =>
  intro d a b limit hm hab hb hs hlim hB
  refine DC.of slices_pdqsortOrdered_int.ok (by simp) ?_
  obtain ⟨n, hn⟩ : ∃ n, d.size = n := ⟨_, rfl⟩
  rw [hn] at hb hs ⊢
  unfold slices_pdqsortOrdered_int.ir
  refine vc_cut (fun s => gt s.sl 0 = dataV n ∧ gt s.sl 1 = vi a ∧ gt s.sl 2 = vi b ∧ gt s.sl 3 = vi limit ∧ gt s.sl 8 = .bool true ∧ s.hp = [rowsO d]) (by simp -dsimp) ?_
  rintro ⟨sl, hp, bs⟩ ⟨h0, h1, h2, h3, h8, rfl⟩
  refine vc_cut (fun s => pdqS n a b limit true true s ∧ s.hp = [rowsO d]) (by simp -dsimp [pdqS, h0, h1, h2, h3, h8]) ?_
  clear h0 h1 h2 h3 h8
  rintro ⟨sl, hp, bs⟩ ⟨h, rfl⟩
  simp -dsimp [↓loop_f]
  refine WI.mono (Q := fun e st => e = .ret ∧ ∃ d', At0 st.hp d' ∧ Srt a b d d') (WI.loop 1 (by simp)
    (pdqI n m a b d)
    (fun st => ((gt st.sl 2).num - (gt st.sl 1).num).toNat) ?_ ?_) ?_
  · exact .mk a b limit true true d hab hb hm hn hlim ⟨by simp [h.1], by simp [h.2.1], by simp [h.2.2.1], by simp [h.2.2.2.1], by simp [h.2.2.2.2.1], by simp [h.2.2.2.2.2]⟩ rfl hB fun R h1 h2 => ⟨h1, h2⟩
  · clear h hB hm hab hb hn hlim
    rintro ⟨sl, hp, bs⟩ ⟨a1, b1, l1, w, p, d1, hab, hb, hm, hn, hlim, ⟨h0, h1, h2, h3, h8, h9⟩, rfl, hB, hG⟩
    obtain ⟨len, hl⟩ : ∃ len, b1 - a1 = len := ⟨_, rfl⟩
    have w0 : IntKind.i64.wrap ((b1 : Int) - a1) = (len : Int) := by rw [wrap64] <;> omega
    obtain ⟨μ0, hμ⟩ : ∃ μ0, ((gt sl 2).num - (gt sl 1).num).toNat = μ0 := ⟨_, rfl⟩
    have hμ' : μ0 = len := by rw [← hμ, h1, h2]; show ((b1 : Int) - (a1 : Int)).toNat = len; omega
    simp only [hμ]
    clear hμ
    unfold slices_pdqsortOrdered_int.b0
    refine vc_block_of (vc_cut (fun st => pdqS n a1 b1 l1 w p st ∧ gt st.sl 10 = vi len ∧ st.hp = [rowsO d1]) (by simp -dsimp [pdqS, h0, h1, h2, h3, h8, h9, w0]) ?_)
    clear h0 h1 h2 h3 h8 h9
    rintro ⟨sl, hp, bs⟩ ⟨⟨h0, h1, h2, h3, h8, h9⟩, h10, rfl⟩
    by_cases h12 : len ≤ 12
    · have i12 : (len : Int) ≤ 12 := by omega
      have sp := insertion_spec d1 a1 b1 (by omega) (by omega) (by omega)
      have st1 := Go.Sort.insertionSort_holds (lt := Go.Sort.ltInt) swo_int d1 a1 b1 hab (by omega)
      rw [hn] at sp
      refine vc_cut (fun _ => False) ?_ (fun _ h => h.elim)
      simp -dsimp [↓callm_fn, h0, h1, h2, h3, h8, h9, h10, i12]
      refine DC.mono sp fun rr H hH => ?_
      subst hH
      simp -dsimp [h0, h1, h2, h3, h8, h9, h10]
      exact ⟨_, .mk _ _, hG _ st1.1 st1.2⟩
    have i12 : ¬ (len : Int) ≤ 12 := by omega
    refine vc_cut (fun st => pdqS n a1 b1 l1 w p st ∧ gt st.sl 10 = vi len ∧ st.hp = [rowsO d1]) (by simp -dsimp [pdqS, h0, h1, h2, h3, h8, h9, h10, i12]) ?_
    clear h0 h1 h2 h3 h8 h9 h10
    rintro ⟨sl, hp, bs⟩ ⟨⟨h0, h1, h2, h3, h8, h9⟩, h10, rfl⟩
    by_cases hl0 : l1 = 0
    · have i0 : (l1 : Int) = 0 := by omega
      have sp := heap_spec d1 a1 b1 (by omega) (by omega) (by omega)
      have st1 := Go.Sort.heapSort_holds (lt := Go.Sort.ltInt) swo_int d1 a1 b1 hab (by omega)
      rw [hn] at sp
      refine vc_cut (fun _ => False) ?_ (fun _ h => h.elim)
      simp -dsimp [↓callm_fn, h0, h1, h2, h3, h8, h9, h10, i0, hl0]
      refine DC.mono sp fun rr H hH => ?_
      subst hH
      simp -dsimp [h0, h1, h2, h3, h8, h9, h10]
      exact ⟨_, .mk _ _, hG _ st1.1 st1.2⟩
    have i0 : ¬ (l1 : Int) = 0 := by omega
    refine vc_cut (fun st => pdqS n a1 b1 l1 w p st ∧ gt st.sl 10 = vi len ∧ st.hp = [rowsO d1]) (by simp -dsimp [pdqS, h0, h1, h2, h3, h8, h9, h10, i0, hl0]) ?_
    clear h0 h1 h2 h3 h8 h9 h10
    rintro ⟨sl, hp, bs⟩ ⟨⟨h0, h1, h2, h3, h8, h9⟩, h10, rfl⟩
    -- breakPatterns
    refine vc_cut (fun st => ∃ (l2 : Nat) (d2 : Array Int), l2 ≤ 64 ∧ Go.Sort.PermIn a1 b1 d1 d2 ∧ pdqS n a1 b1 l2 w p st ∧ gt st.sl 10 = vi len ∧ At0 st.hp d2) ?_ ?_
    · cases w with
      | true =>
        simp -dsimp [h0, h1, h2, h3, h8, h9, h10, pdqS]
        exact ⟨l1, hlim, d1, Go.Sort.permIn_refl _ _ _, by omega, .mk _ _⟩
      | false =>
        have sp := break_spec d1 a1 b1 (by omega) (by omega) (by omega)
        rw [hn] at sp
        have wl : IntKind.i64.wrap ((l1 : Int) - 1) = ((l1 - 1 : Nat) : Int) := by rw [wrap64] <;> omega
        simp -dsimp [↓callm_fn, h0, h1, h2, h3, h8, h9, h10]
        refine DC.mono sp fun rr H ⟨J, hH⟩ => ?_
        subst hH
        simp -dsimp [h0, h1, h2, h3, h8, h9, h10, wl, pdqS]
        exact ⟨l1 - 1, by omega, _, Go.Sort.breakPatterns_holds _ _ _ hab (by omega), by omega, .mk _ _⟩
    clear h0 h1 h2 h3 h8 h9 h10
    rintro ⟨sl, hp, bs⟩ ⟨l2, d2, hl2, hp2, ⟨h0, h1, h2, h3, h8, h9⟩, h10, J, rfl⟩
    have z2 : d2.size = n := by rw [hp2.1, hn]
    have B2 := hB.perm (by omega) hp2
    -- choosePivot
    have cr := Go.Sort.choosePivot_holds Go.Sort.ltInt d2 a1 b1 (by omega)
    have cs := choosePivot_spec d2 a1 b1 (by omega) (by omega) (by omega)
    obtain ⟨c, hc⟩ : ∃ c, Go.Sort.choosePivot Go.Sort.ltInt d2 a1 b1 = c := ⟨_, rfl⟩
    rw [hc] at cr cs
    rw [z2] at cs
    obtain ⟨pv, hint⟩ := c
    refine vc_cut (fun st => pdqS n a1 b1 l2 w p st ∧ gt st.sl 10 = vi len ∧ gt st.sl 11 = vi pv ∧ gt st.sl 12 = vi (hintN hint) ∧ At0 st.hp d2) ?_ ?_
    · simp -dsimp [↓callm_fn, h0, h1, h2, h3, h8, h9, h10]
      refine DC.mono cs fun rr H ⟨hr, o, hH⟩ => ?_
      subst hr hH
      simp -dsimp [h0, h1, h2, h3, h8, h9, h10, pdqS]
      exact .mk _ _
    clear h0 h1 h2 h3 h8 h9 h10
    rintro ⟨sl, hp, bs⟩ ⟨⟨h0, h1, h2, h3, h8, h9⟩, h10, h11, h12', J1, rfl⟩
    simp only at cr
    -- reverse
    refine vc_cut (fun st => ∃ (d3 : Array Int) (pv' hint' : Nat), Go.Sort.PermIn a1 b1 d1 d3 ∧ a1 ≤ pv' ∧ pv' < b1 ∧ pdqS n a1 b1 l2 w p st ∧ gt st.sl 10 = vi len ∧ gt st.sl 11 = vi pv' ∧ gt st.sl 12 = vi hint' ∧ At0 st.hp d3) ?_ ?_
    · by_cases hd : hint = .decreasing
      · have i2 : hintN hint = 2 := by rw [hd]; rfl
        have sp := reverse_spec d2 a1 b1 (by omega) (by omega) (by omega)
        rw [z2] at sp
        have v1 : IntKind.i64.wrap ((b1 : Int) - 1) = (b1 : Int) - 1 := by rw [wrap64] <;> omega
        have v2 : IntKind.i64.wrap ((pv : Int) - a1) = (pv : Int) - a1 := by rw [wrap64] <;> omega
        have v3 : IntKind.i64.wrap ((b1 : Int) - 1 - ((pv : Int) - a1)) = (((b1 - 1) - (pv - a1) : Nat) : Int) := by rw [wrap64] <;> omega
        rw [i2] at h12'
        simp -dsimp [↓callm_fn, h0, h1, h2, h3, h8, h9, h10, h11, h12']
        refine DC.mono sp fun rr H hH => ?_
        subst hH
        obtain ⟨q, hq⟩ : ∃ q : Nat, (b1 - 1) - (pv - a1) = q := ⟨_, rfl⟩
        rw [hq] at v3
        simp -dsimp [h0, h1, h2, h3, h8, h9, h10, h11, v1, v2, v3, pdqS]
        exact ⟨_, Go.Sort.permIn_trans _ _ _ _ _ hp2 (Go.Sort.reverseRange_holds d2 a1 b1 hab (by omega)), q, by omega, by omega, by omega, ⟨1, rfl⟩, .mk _ _⟩
      · have i2 : ¬ hintN hint = 2 := fun h => hd ((hintN_inj hint).1.1 h)
        have hnn : ∃ k : Nat, hintN hint = k := by
          cases hint
          · exact ⟨0, rfl⟩
          · exact ⟨1, rfl⟩
          · exact ⟨2, rfl⟩
        obtain ⟨k, hk⟩ := hnn
        rw [hk] at h12' i2
        have i2 : ¬ (k : Int) = 2 := i2
        simp -dsimp [h0, h1, h2, h3, h8, h9, h10, h11, h12', i2, pdqS]
        exact ⟨d2, hp2, pv, by omega, by omega, by omega, ⟨k, by omega⟩, .mk _ _⟩
    clear h0 h1 h2 h3 h8 h9 h10 h11 h12' cs hc cr
    rintro ⟨sl, hp, bs⟩ ⟨d3, pv', hint', hp3, hpa, hpb, ⟨h0, h1, h2, h3, h8, h9⟩, h10, h11, h12', J3, rfl⟩
    have z3 : d3.size = n := by rw [hp3.1, hn]
    have B3 := hB.perm (by omega) hp3
    -- partialInsertionSort
    refine vc_cut (fun st => ∃ (d4 : Array Int), Go.Sort.PermIn a1 b1 d1 d4 ∧ pdqS n a1 b1 l2 w p st ∧ gt st.sl 10 = vi len ∧ gt st.sl 11 = vi pv' ∧ At0 st.hp d4) ?_ ?_
    · by_cases hc : (w = true ∧ p = true) ∧ hint' = 1
      · obtain ⟨⟨rfl, rfl⟩, rfl⟩ := hc
        have sp := pins_spec d3 a1 b1 (by omega) (by omega) (by omega)
        have st1 := Go.Sort.partialInsertionSort_holds (lt := Go.Sort.ltInt) swo_int d3 a1 b1 (by omega) (by omega) B3
        rw [z3] at sp
        simp -dsimp [↓callm_fn, h0, h1, h2, h3, h8, h9, h10, h11, h12']
        refine DC.mono sp fun rr H ⟨hr, hH⟩ => ?_
        subst hr hH
        obtain ⟨⟨d4, ok⟩, he⟩ : ∃ x, Go.Sort.partialInsertionSort Go.Sort.ltInt d3 a1 b1 = x := ⟨_, rfl⟩
        rw [he] at st1 ⊢
        cases ok with
        | true =>
          simp -dsimp [h0, h1, h2, h3, h8, h9, h10, h11]
          exact ⟨d4, .mk _ _, hG _ (Go.Sort.permIn_trans _ _ _ _ _ hp3 st1.1) (st1.2 rfl)⟩
        | false =>
          simp -dsimp [h0, h1, h2, h3, h8, h9, h10, h11, pdqS]
          exact ⟨d4, Go.Sort.permIn_trans _ _ _ _ _ hp3 st1.1, .mk _ _⟩
      · by_cases hw : w = true
        · subst hw
          by_cases hpp : p = true
          · subst hpp
            have i1 : ¬ (hint' : Int) = 1 := by have : ¬ hint' = 1 := fun h => hc ⟨⟨rfl, rfl⟩, h⟩; omega
            simp -dsimp [h0, h1, h2, h3, h8, h9, h10, h11, h12', i1, pdqS]
            exact ⟨d3, hp3, .mk _ _⟩
          · have hpp : p = false := by simpa using hpp
            subst hpp
            simp -dsimp [h0, h1, h2, h3, h8, h9, h10, h11, h12', pdqS]
            exact ⟨d3, hp3, .mk _ _⟩
        · have hw : w = false := by simpa using hw
          subst hw
          simp -dsimp [h0, h1, h2, h3, h8, h9, h10, h11, h12', pdqS]
          exact ⟨d3, hp3, .mk _ _⟩
    clear h0 h1 h2 h3 h8 h9 h10 h11 h12' hp3 z3 B3 J3 B2 hp2 z2 J1 J
    rintro ⟨sl, hp, bs⟩ ⟨d4, hp4, ⟨h0, h1, h2, h3, h8, h9⟩, h10, h11, J4, rfl⟩
    have z4 : d4.size = n := by rw [hp4.1, hn]
    have B4 := hB.perm (by omega) hp4
    have hG4 : ∀ R, Go.Sort.PermIn a1 b1 d4 R → Go.Sort.SortedIn Go.Sort.ltInt a1 b1 R → Srt a b d R := fun R h1 h2 => hG R (Go.Sort.permIn_trans _ _ _ _ _ hp4 h1) h2
    clear hG hB hp4 hn d1 d3 d2
    -- equal
    have kp : pv' < d4.size := by omega
    have kp' : pv' < n := by omega
    refine vc_cut (fun st => pdqS n a1 b1 l2 w p st ∧ gt st.sl 10 = vi len ∧ gt st.sl 11 = vi pv' ∧ st.hp = rowsO d4 :: J4) ?_ ?_
    · by_cases ha0 : 0 < a1
      · have i1 : (0 : Int) < a1 := by omega
        have v1 : IntKind.i64.wrap ((a1 : Int) - 1) = ((a1 - 1 : Nat) : Int) := by rw [wrap64] <;> omega
        have k1 : a1 - 1 < d4.size := by omega
        have k1' : a1 - 1 < n := by omega
        obtain ⟨e, he⟩ : ∃ e, a1 - 1 = e := ⟨_, rfl⟩
        rw [he] at v1 k1 k1'
        by_cases hlt : Go.Sort.ltInt d4[e] d4[pv'] = true
        · simp -dsimp [↓call_f, h0, h1, h2, h3, h8, h9, h10, h11, i1, ha0, v1, k1', kp', z4]
          refine (less_spec d4[e] d4[pv']).use ?_
          simp -dsimp [hlt, h0, h1, h2, h3, h8, h9, h10, h11, pdqS]
        · have hlt : Go.Sort.ltInt d4[e] d4[pv'] = false := by simpa using hlt
          have sp := partEq_spec d4 a1 b1 pv' hpa hpb (by omega) (by omega) (by omega)
          obtain ⟨⟨mid, d5⟩, hx⟩ : ∃ x, Go.Sort.partitionEqual Go.Sort.ltInt d4 a1 b1 pv' = x := ⟨_, rfl⟩
          have rq := Go.Sort.round_eq swo_int (Go.Sort.partitionEqual_holds Go.Sort.ltInt) ha0 hpa hpb (by omega) B4 (by rw [he, get_bang d4 k1, get_bang d4 kp]; exact hlt) hx
          rw [hx, z4] at sp
          simp -dsimp [↓call_f, h0, h1, h2, h3, h8, h9, h10, h11, i1, ha0, v1, k1', kp', z4]
          refine (less_spec d4[e] d4[pv']).use ?_
          simp -dsimp [↓callm_fn, hlt, h0, h1, h2, h3, h8, h9, h10, h11]
          refine DC.mono sp fun rr H ⟨hr, hH⟩ => ?_
          subst hr hH
          simp -dsimp [h0, h1, h2, h3, h8, h9, h10, h11]
          obtain ⟨r1, r2, r3, r4, r5⟩ := rq
          exact ⟨.mk mid b1 l2 w p d5 (by omega) (by omega) (by omega) (by omega) hl2 ⟨by simp, by simp, by simp, by simp, by simp, by simp⟩ (by simp) r4 fun R h1 h2 => hG4 R (r5 R h1 h2).1 (r5 R h1 h2).2, by omega⟩
      · have i1 : ¬ (0 : Int) < a1 := by omega
        simp -dsimp [h0, h1, h2, h3, h8, h9, h10, h11, i1, ha0, pdqS]
    clear h0 h1 h2 h3 h8 h9 h10 h11
    rintro ⟨sl, hp, bs⟩ ⟨⟨h0, h1, h2, h3, h8, h9⟩, h10, h11, rfl⟩
    -- partition
    have sp := partition_spec d4 a1 b1 pv' hpa hpb (by omega) (by omega) (by omega)
    obtain ⟨⟨mid, al, d5⟩, hx⟩ : ∃ x, Go.Sort.partition Go.Sort.ltInt d4 a1 b1 pv' = x := ⟨_, rfl⟩
    obtain ⟨r1, r2, r3, r4, r5, r6, r7⟩ := Go.Sort.round_part swo_int (Go.Sort.partition_holds Go.Sort.ltInt) hpa hpb (by omega) B4 hx
    rw [hx, z4] at sp
    have z5 : d5.size = n := by omega
    refine vc_cut (fun st => gt st.sl 0 = dataV n ∧ gt st.sl 1 = vi a1 ∧ gt st.sl 2 = vi b1 ∧ gt st.sl 3 = vi l2 ∧ gt st.sl 10 = vi len ∧ gt st.sl 14 = vi mid ∧ gt st.sl 15 = .bool al ∧ At0 st.hp d5) ?_ ?_
    · simp -dsimp [↓callm_fn, h0, h1, h2, h3, h8, h9, h10, h11]
      refine DC.mono sp fun rr H ⟨hr, hH⟩ => ?_
      subst hr hH
      simp -dsimp [h0, h1, h2, h3, h8, h9, h10, h11]
      exact .mk _ _
    clear h0 h1 h2 h3 h8 h9 h10 h11
    rintro ⟨sl, hp, bs⟩ ⟨h0, h1, h2, h3, h10, h14, h15, J5, rfl⟩
    refine vc_cut (fun st => gt st.sl 0 = dataV n ∧ gt st.sl 1 = vi a1 ∧ gt st.sl 2 = vi b1 ∧ gt st.sl 3 = vi l2 ∧ gt st.sl 9 = .bool al ∧ gt st.sl 10 = vi len ∧ gt st.sl 14 = vi mid ∧ st.hp = rowsO d5 :: J5) (by simp -dsimp [h0, h1, h2, h3, h10, h14, h15]) ?_
    clear h0 h1 h2 h3 h10 h14 h15
    rintro ⟨sl, hp, bs⟩ ⟨h0, h1, h2, h3, h9, h10, h14, rfl⟩
    obtain ⟨L, hL⟩ : ∃ L, mid - a1 = L := ⟨_, rfl⟩
    obtain ⟨Rr, hRr⟩ : ∃ L, b1 - mid = L := ⟨_, rfl⟩
    have u1 : IntKind.i64.wrap ((mid : Int) - a1) = (L : Int) := by rw [wrap64] <;> omega
    have u2 : IntKind.i64.wrap ((b1 : Int) - mid) = (Rr : Int) := by rw [wrap64] <;> omega
    refine vc_cut (fun st => gt st.sl 0 = dataV n ∧ gt st.sl 1 = vi a1 ∧ gt st.sl 2 = vi b1 ∧ gt st.sl 3 = vi l2 ∧ gt st.sl 9 = .bool al ∧ gt st.sl 10 = vi len ∧ gt st.sl 14 = vi mid ∧ gt st.sl 16 = vi L ∧ gt st.sl 17 = vi Rr ∧ st.hp = rowsO d5 :: J5) (by simp -dsimp [h0, h1, h2, h3, h9, h10, h14, u1, u2]) ?_
    clear h0 h1 h2 h3 h9 h10 h14
    rintro ⟨sl, hp, bs⟩ ⟨h0, h1, h2, h3, h9, h10, h14, h16, h17, rfl⟩
    have u3 : IntKind.i64.wrap ((len : Int) / 8) = ((len / 8 : Nat) : Int) := by rw [wrap64] <;> omega
    obtain ⟨e8, he8⟩ : ∃ e8, len / 8 = e8 := ⟨_, rfl⟩
    rw [he8] at u3
    refine vc_cut (fun st => gt st.sl 0 = dataV n ∧ gt st.sl 1 = vi a1 ∧ gt st.sl 2 = vi b1 ∧ gt st.sl 3 = vi l2 ∧ gt st.sl 9 = .bool al ∧ gt st.sl 14 = vi mid ∧ gt st.sl 16 = vi L ∧ gt st.sl 17 = vi Rr ∧ gt st.sl 18 = vi e8 ∧ st.hp = rowsO d5 :: J5) (by simp -dsimp [h0, h1, h2, h3, h9, h10, h14, h16, h17, u3]) ?_
    clear h0 h1 h2 h3 h9 h10 h14 h16 h17
    rintro ⟨sl, hp, bs⟩ ⟨h0, h1, h2, h3, h9, h14, h16, h17, h18, rfl⟩
    have v4 : IntKind.i64.wrap ((mid : Int) + 1) = ((mid + 1 : Nat) : Int) := by rw [wrap64] <;> omega
    have v4' : IntKind.i64.wrap ((mid : Int) + 1) = (mid : Int) + 1 := by rw [wrap64] <;> omega
    by_cases hLR : L < Rr
    · have iLR : (L : Int) < Rr := by omega
      have ih := IH (mid - a1) (by omega) d5 a1 mid l2 (Nat.le_refl _) r1 (by omega) (by omega) hl2 r4
      rw [z5] at ih
      simp -dsimp [↓callm_fn, h0, h1, h2, h3, h9, h14, h16, h17, h18, iLR]
      refine DC.mono ih fun rr H ⟨dL, ⟨K, hH⟩, hS⟩ => ?_
      subst hH
      obtain ⟨q1, q2⟩ := r6 dL hS.1 hS.2
      have zL : dL.size = n := by rw [hS.1.1, z5]
      simp -dsimp [h0, h1, h2, h3, h9, h14, h16, h17, h18, v4']
      exact ⟨.mk (mid + 1) b1 l2 (decide (e8 ≤ L)) al dL (by omega) (by omega) (by omega) zL hl2 ⟨by simp, by simp, by simp, by simp, by simp, by simp⟩ (by simp) q1 fun R h1 h2 => hG4 R (q2 R h1 h2).1 (q2 R h1 h2).2, by omega⟩
    · have iLR : ¬ (L : Int) < Rr := by omega
      have ih := IH (b1 - (mid + 1)) (by omega) d5 (mid + 1) b1 l2 (Nat.le_refl _) (by omega) (by omega) (by omega) hl2 r5
      rw [z5] at ih
      simp -dsimp [↓callm_fn, h0, h1, h2, h3, h9, h14, h16, h17, h18, iLR, v4']
      refine DC.mono ih fun rr H ⟨dL, ⟨K, hH⟩, hS⟩ => ?_
      subst hH
      obtain ⟨q1, q2⟩ := r7 dL hS.1 hS.2
      have zL : dL.size = n := by rw [hS.1.1, z5]
      simp -dsimp [h0, h1, h2, h3, h9, h14, h16, h17, h18, v4']
      exact ⟨.mk a1 mid l2 (decide (e8 ≤ Rr)) al dL (by omega) (by omega) (by omega) zL hl2 ⟨by simp, by simp, by simp, by simp, by simp, by simp⟩ (by simp) q1 fun R h1 h2 => hG4 R (q2 R h1 h2).1 (q2 R h1 h2).2, by omega⟩
  · rintro e ⟨sl, hp, bs⟩ ⟨rfl, d', h, hS⟩
    simp -dsimp [slices_pdqsortOrdered_int.rs]
    exact ⟨d', h, hS⟩

theorem sort_spec (d : Array Int) (hs : d.size ≤ 1152921504606846976) :
    DC Tryz.prog slices_Sort_Lint_int.id [dataV d.size] [rowsO d] (fun r H => r.ids = [] ∧ At0 H (d.toList.mergeSort (fun x y => decide (x ≤ y))).toArray) := by
  refine DC.of slices_Sort_Lint_int.ok (by simp) ?_
  have lb := bitsLen_le64 d.size (by omega)
  have wl : IntKind.u64.wrap (d.size : Int) = d.size := by rw [wrapu64, Nat.mod_eq_of_lt (by omega)]
  simp -dsimp [↓call_f, slices_Sort_Lint_int.ir, wl]
  refine (len_spec d.size (by omega)).use ?_
  simp -dsimp [↓callm_fn]
  refine DC.mono (pdq_spec d.size d 0 d.size (Go.Sort.bitsLen d.size) (by omega) (by omega) (by omega) hs lb (Or.inl rfl)) fun rr H ⟨d', ⟨J, hH⟩, hS⟩ => ?_
  subst hH
  have e := Go.Sort.sorted_unique_holds (lt := Go.Sort.ltInt) swo_int (fun x y h1 h2 => by simp [Go.Sort.ltInt] at *; omega) d d' hS.1 (by rw [← hS.1.1] at *; exact hS.2)
  have e2 : (fun x y : Int => !Go.Sort.ltInt y x) = fun x y => decide (x ≤ y) := by
    funext x y
    simp only [Go.Sort.ltInt]
    by_cases h : x ≤ y
    · have : ¬ y < x := by omega
      simp [h, this]
    · have : y < x := by omega
      simp [h, this]
  rw [e2] at e
  simp -dsimp [slices_Sort_Lint_int.rs]
  rw [← e]
  exact .mk _ _
end Go.Abs.G


namespace Go.Abs.G
open Go.Proofs
attribute [local simp] I.vc sub merge place
set_option linter.unusedVariables false

abbrev cnt (left : Int) : O := .mem false [] [[.int .i64 left]]
/-- What may be left. -/
def okLeft (left : Int) : Prop := -9223372036854775808 < left ∧ left ≤ 20000
def addL (left n : Int) : Int := if 0 ≤ left then left - n else left

theorem addL_ok {left n : Int} (h : okLeft left) (h0 : 0 ≤ n) (h1 : n ≤ 9223372036854775807) : okLeft (addL left n) := by
  unfold okLeft addL at *
  split <;> omega

theorem add_spec (left n : Int) (h : okLeft left) (h0 : 0 ≤ n) (h1 : n ≤ 9223372036854775807) :
    DC Tryz.prog hallmarkroom_Count_Add.id [.ptr 0 1 0 0, V.i n] [cnt left] (fun r H => r = .bool (decide (0 ≤ addL left n)) ∧ H = [cnt (addL left n)]) := by
  refine DC.of hallmarkroom_Count_Add.ok (by simp) ?_
  unfold okLeft at h
  have hw : 0 ≤ left → IntKind.i64.wrap (left - n) = left - n := fun _ => wrap64 (by omega) (by omega)
  simp [hallmarkroom_Count_Add.ir, hallmarkroom_Count_Add.rs]
  unfold addL
  split <;> simp_all <;> omega

theorem ok_spec (left : Int) : DC Tryz.prog hallmarkroom_Count_Ok.id [.ptr 0 1 0 0] [cnt left] (fun r H => r = .bool (decide (0 ≤ left)) ∧ H = [cnt left]) := by
  refine DC.of hallmarkroom_Count_Ok.ok (by simp) ?_
  simp [hallmarkroom_Count_Ok.ir, hallmarkroom_Count_Ok.rs]

theorem many_spec (n : Int) : DC Tryz.prog hallmarkroom_Many.id [V.i n] [] (fun r H => r = .ptr 0 1 0 0 ∧ H = [cnt n]) := by
  refine DC.of hallmarkroom_Many.ok (by simp) ?_
  simp [hallmarkroom_Many.ir, hallmarkroom_Many.rs]

theorem text_spec (left : Int) (s : ByteArray) (h : okLeft left) (hs : s.size ≤ maxLen) :
    DC Tryz.prog hallmarkroom_Count_Text.id [.ptr 0 1 0 0, .str s] [cnt left] (fun r H => H = [cnt (addL (addL left 1) s.size)]) := by
  have hm : (maxLen : Int) ≤ 9223372036854775807 := by decide
  refine DC.of hallmarkroom_Count_Text.ok (by simp) ?_
  simp [hallmarkroom_Count_Text.ir, hallmarkroom_Count_Text.rs]
  refine DC.mono (add_spec left 1 h (by decide) (by decide)) fun r H' ⟨_, hH⟩ => ?_
  subst hH
  simp
  refine DC.mono (add_spec _ s.size (addL_ok h (by decide) (by decide)) (by omega) (by omega)) fun r H' ⟨_, hH⟩ => ?_
  subst hH
  simp

end Go.Abs.G


/- few, and what it says of sizes. -/
namespace Go.Abs.G
open Go.Proofs
attribute [local simp] I.vc sub merge place
set_option linter.unusedVariables false

structure FewCon (c : Con) : Prop where
  terms : c.terms.length ≤ 20000
  xs : c.xs.length ≤ 20000
  table : c.table.length ≤ 20000
  rows : c.rows.length ≤ 20000
  row : ∀ r ∈ c.rows, r.length ≤ 20000
structure FewM (m : Model) : Prop where
  vars : m.vars.length ≤ 20000
  cons : m.cons.length ≤ 20000
  con : ∀ c ∈ m.cons, FewCon c
  goal : m.goal.length ≤ 20000

/-- What is left behind so many more. -/
def Cnt (a b n : Int) : Prop := 0 ≤ b → 0 ≤ a ∧ b + n ≤ a
theorem Cnt.refl (a : Int) : Cnt a a 0 := fun h => ⟨h, by omega⟩
theorem Cnt.trans {a b c n k : Int} (h : Cnt a b n) (h' : Cnt b c k) : Cnt a c (n + k) := fun hc => by
  have h1 := h' hc
  have h2 := h h1.1
  omega
theorem Cnt.add {a b n k : Int} (h : Cnt a b n) (hk : 0 ≤ k) : Cnt a (addL b k) (n + k) := by
  unfold Cnt addL at *
  split <;> omega

theorem lists2_spec (left : Int) (l : List (List Int)) (h : okLeft left) (hl : l.length ≤ maxLen) (hr : ∀ r ∈ l, r.length ≤ maxLen) :
    DC Tryz.prog hallmarkroom_Count_Lists.id [.ptr 0 1 0 0, vIntss l] [cnt left] (fun r H => ∃ left', okLeft left' ∧ Cnt left left' l.length ∧ (0 ≤ left' → ∀ r ∈ l, r.length ≤ 20000) ∧ H = [cnt left']) := by
  have hm : (maxLen : Int) ≤ 9223372036854775807 := by decide
  refine DC.of hallmarkroom_Count_Lists.ok (by simp) ?_
  simp [hallmarkroom_Count_Lists.ir, hallmarkroom_Count_Lists.rs, vIntss]
  refine WI.loop 1 (by simp) (fun s => ∃ i left', i ≤ l.length ∧ okLeft left' ∧ Cnt left left' i ∧ (0 ≤ left' → ∀ r ∈ l.take i, r.length ≤ 20000) ∧ gt s.sl 0 = .ptr 0 1 0 0 ∧ gt s.sl 1 = vIntss l ∧ gt s.sl 4 = V.i i ∧ s.hp = [cnt left']) (fun s => (l.length - (gt s.sl 4).num).toNat) ?_ ?_
  · exact ⟨0, left, by simp [vIntss, h]; exact Cnt.refl _⟩
  · rintro ⟨sl, hp, bs⟩ ⟨i, left', hi, h', hct, hall, g0, g1, g4, rfl⟩
    by_cases hil : i < l.length
    · simp [hallmarkroom_Count_Lists.b0, g0, g1, g4, vIntss, hil]
      refine DC.mono (ok_spec left') fun r H' ⟨hr', hH⟩ => ?_
      subst hr' hH
      by_cases h0 : 0 ≤ left'
      · simp [h0]
        refine DC.mono (add_spec left' 1 h' (by decide) (by decide)) fun r H' ⟨_, hH⟩ => ?_
        subst hH
        have hr2 := hr _ (List.getElem_mem hil)
        simp [vInts]
        refine DC.mono (add_spec _ (l[i].length) (addL_ok h' (by decide) (by decide)) (by omega) (by omega)) fun r H' ⟨_, hH⟩ => ?_
        subst hH
        have hw : IntKind.i64.wrap ((i : Int) + 1) = ((i + 1 : Nat) : Int) := by rw [wrap64] <;> omega
        simp [hw]
        have hc2 := (hct.add (k := 1) (by omega)).add (k := l[i].length) (by omega)
        refine ⟨⟨i + 1, by omega, _, addL_ok (addL_ok h' (by decide) (by decide)) (by omega) (by omega), fun hb => ?_, fun hb r hr' => ?_, by omega, rfl⟩, by omega⟩
        · have := hc2 hb
          omega
        · have hx := hc2 hb
          unfold okLeft at h
          rw [List.take_succ_eq_append_getElem hil] at hr'
          rcases List.mem_append.1 hr' with hr' | hr'
          · exact hall h0 r hr'
          · have : r = l[i] := by simpa using hr'
            subst this
            omega
      · simp [h0]
        exact ⟨_, h', fun hb => absurd hb h0, fun hb => absurd hb h0, rfl⟩
    · obtain rfl : i = l.length := by omega
      simp [hallmarkroom_Count_Lists.b0, g0, g1, g4, vIntss]
      exact ⟨_, h', hct, by simpa using hall, rfl⟩

theorem cntCon2_spec (left : Int) (c : Con) (h : okLeft left) (hc : okCon c) :
    DC Tryz.prog hallmarkroom_Count_Con.id [.ptr 0 1 0 0, .agg c.cells] [cnt left] (fun r H => ∃ left' o, okLeft left' ∧ Cnt left left' 1 ∧ (0 ≤ left' → FewCon c) ∧ H = [cnt left', o]) := by
  have hm : (maxLen : Int) ≤ 9223372036854775807 := by decide
  obtain ⟨_, _, ⟨h3, _⟩, _, _, _, _, ⟨h8, _⟩, ⟨h9, _⟩, h10, h11⟩ := hc
  refine DC.of hallmarkroom_Count_Con.ok (by simp) ?_
  simp [hallmarkroom_Count_Con.ir, hallmarkroom_Count_Con.rs, Con.cells, vTerms, vInts, vIntss]
  refine DC.mono (add_spec left 1 h (by decide) (by decide)) fun r H' ⟨_, hH⟩ => ?_
  subst hH
  have k1 := addL_ok h (n := 1) (by decide) (by decide)
  simp
  refine DC.mono (add_spec _ c.terms.length k1 (by omega) (by omega)) fun r H' ⟨_, hH⟩ => ?_
  subst hH
  have k2 := addL_ok k1 (n := c.terms.length) (by omega) (by omega)
  simp
  refine DC.mono (add_spec _ c.xs.length k2 (by omega) (by omega)) fun r H' ⟨_, hH⟩ => ?_
  subst hH
  have k3 := addL_ok k2 (n := c.xs.length) (by omega) (by omega)
  simp
  refine DC.mono (add_spec _ c.table.length k3 (by omega) (by omega)) fun r H' ⟨_, hH⟩ => ?_
  subst hH
  have k4 := addL_ok k3 (n := c.table.length) (by omega) (by omega)
  simp
  refine DC.mono (lists2_spec _ c.rows k4 h10 fun r hr => (h11 r hr).1) fun r H' ⟨left', ho, hct, hall, hH⟩ => ?_
  subst hH
  simp
  have hc1 := (((((Cnt.refl left).add (k := 1) (by omega)).add (k := c.terms.length) (by omega)).add (k := c.xs.length) (by omega)).add (k := c.table.length) (by omega)).trans hct
  unfold okLeft at h
  refine ⟨_, ho, fun hb => ?_, fun hb => ?_, rfl⟩
  · have := hc1 hb
    omega
  · have hx := hc1 hb
    exact ⟨by omega, by omega, by omega, by omega, hall hb⟩

theorem cntModel2_spec (left : Int) (m : Model) (h : okLeft left) (hm' : okModel m) :
    DC Tryz.prog hallmarkroom_Count_Model.id [.ptr 0 1 0 0, .agg m.cells] [cnt left] (fun r H => ∃ left' o, okLeft left' ∧ (0 ≤ left' → FewM m) ∧ H = [cnt left', o]) := by
  have hm : (maxLen : Int) ≤ 9223372036854775807 := by decide
  obtain ⟨⟨hv, hv'⟩, ⟨hc, hc'⟩, hg, _⟩ := hm'
  refine DC.of hallmarkroom_Count_Model.ok (by simp) ?_
  simp [hallmarkroom_Count_Model.ir, hallmarkroom_Count_Model.rs, Model.cells, vVars, vCons, vTerms]
  refine WI.mono (Q := fun e s => e = .exit 0 ∧ ∃ left', okLeft left' ∧ Cnt left left' 0 ∧ (0 ≤ left' → m.vars.length ≤ 20000) ∧ gt s.sl 0 = .ptr 0 1 0 0 ∧ gt s.sl 3 = .ptr 1 1 0 0 ∧ s.hp = [cnt left', .mem false [] [m.cells]]) (WI.loop 2 (by simp) (fun s => ∃ i left', i ≤ m.vars.length ∧ okLeft left' ∧ Cnt left left' i ∧ gt s.sl 0 = .ptr 0 1 0 0 ∧ gt s.sl 3 = .ptr 1 1 0 0 ∧ gt s.sl 4 = V.i i ∧ s.hp = [cnt left', .mem false [] [m.cells]]) (fun s => (m.vars.length - (gt s.sl 4).num).toNat) ?_ ?_) ?_
  · exact ⟨0, left, by simp [Model.cells, vVars, vCons, vTerms, h]; exact Cnt.refl _⟩
  · rintro ⟨sl, hp, bs⟩ ⟨i, left', hi, h', hct, g0, g3, g4, rfl⟩
    by_cases hil : i < m.vars.length
    · simp [hallmarkroom_Count_Model.b0, g0, g3, g4, Model.cells, vVars, vCons, vTerms, hil]
      refine DC.mono (ok_spec left') fun r H' ⟨hr', hH⟩ => ?_
      subst hr' hH
      by_cases h0 : 0 ≤ left'
      · have hr2 := (hv' _ (List.getElem_mem hil)).1
        simp [h0, hil, Var.cells]
        refine DC.mono (text_spec left' _ h' hr2) fun r H' hH => ?_
        subst hH
        have hw : IntKind.i64.wrap ((i : Int) + 1) = ((i + 1 : Nat) : Int) := by rw [wrap64] <;> omega
        simp [hw]
        have hc2 := (hct.add (k := 1) (by omega)).add (k := m.vars[i].name.size) (by omega)
        refine ⟨⟨i + 1, by omega, _, addL_ok (addL_ok h' (by decide) (by decide)) (by omega) (by omega), fun hb => ?_, by omega, rfl⟩, by omega⟩
        have := hc2 hb
        omega
      · simp [h0]
        exact ⟨_, h', fun hb => absurd hb h0, fun hb => absurd hb h0, rfl⟩
    · obtain rfl : i = m.vars.length := by omega
      simp [hallmarkroom_Count_Model.b0, g0, g3, g4, Model.cells, vVars, vCons, vTerms]
      unfold okLeft at h
      refine ⟨_, h', fun hb => ?_, fun hb => ?_, rfl⟩
      · have := hct hb; omega
      · have := hct hb; omega
  · rintro e ⟨sl, hp, bs⟩ ⟨rfl, left', h', hc0, hv0, g0, g3, rfl⟩
    simp [g0, g3]
    refine WI.mono (Q := fun e s => e = .exit 2 ∧ ∃ left', okLeft left' ∧ (0 ≤ left' → m.vars.length ≤ 20000 ∧ m.cons.length ≤ 20000 ∧ ∀ c ∈ m.cons, FewCon c) ∧ gt s.sl 0 = .ptr 0 1 0 0 ∧ gt s.sl 3 = .ptr 1 1 0 0 ∧ s.hp = [cnt left', .mem false [] [m.cells]]) (WI.loop 2 (by simp) (fun s => ∃ i left2, i ≤ m.cons.length ∧ okLeft left2 ∧ Cnt left' left2 i ∧ (0 ≤ left2 → ∀ c ∈ m.cons.take i, FewCon c) ∧ gt s.sl 0 = .ptr 0 1 0 0 ∧ gt s.sl 3 = .ptr 1 1 0 0 ∧ gt s.sl 5 = V.i i ∧ s.hp = [cnt left2, .mem false [] [m.cells]]) (fun s => (m.cons.length - (gt s.sl 5).num).toNat) ?_ ?_) ?_
    · exact ⟨0, left', by simp [g0, g3, h']; exact Cnt.refl _⟩
    · clear g0 g3
      rintro ⟨sl, hp, bs⟩ ⟨i, left2, hi, h2, hct, hall, g0, g3, g4, rfl⟩
      by_cases hil : i < m.cons.length
      · simp [hallmarkroom_Count_Model.b1, g0, g3, g4, Model.cells, vVars, vCons, vTerms, hil]
        refine DC.mono (ok_spec left2) fun r H' ⟨hr', hH⟩ => ?_
        subst hr' hH
        by_cases h0 : 0 ≤ left2
        · simp [h0, hil, Con.cells, vTerms, vInts, vIntss]
          refine DC.mono (cntCon2_spec left2 _ h2 (hc' _ (List.getElem_mem hil))) fun r H' ⟨left3, o, h3, hct3, hf3, hH⟩ => ?_
          subst hH
          have hw : IntKind.i64.wrap ((i : Int) + 1) = ((i + 1 : Nat) : Int) := by rw [wrap64] <;> omega
          simp [hw]
          refine ⟨⟨i + 1, by omega, _, h3, fun hb => ?_, fun hb c hcc => ?_, by omega, rfl⟩, by omega⟩
          · have := (hct.trans hct3) hb
            omega
          · rw [List.take_succ_eq_append_getElem hil] at hcc
            rcases List.mem_append.1 hcc with hcc | hcc
            · exact hall h0 c hcc
            · have : c = m.cons[i] := by simpa using hcc
              subst this
              exact hf3 hb
        · simp [h0]
          exact h2
      · obtain rfl : i = m.cons.length := by omega
        simp [hallmarkroom_Count_Model.b1, g0, g3, g4, Model.cells, vVars, vCons, vTerms]
        have hl2 := h'
        unfold okLeft at hl2
        refine ⟨h2, fun hb => ?_⟩
        have hx := hct hb
        exact ⟨hv0 hx.1, by omega, by simpa using hall hb⟩
    · clear g0 g3 h' hc0 hv0 left'
      rintro e ⟨sl, hp, bs⟩ ⟨rfl, left', h', hF, g0, g3, rfl⟩
      simp [g0, g3, Model.cells, vVars, vCons, vTerms]
      refine DC.mono (add_spec _ m.goal.length h' (by omega) (by omega)) fun r H' ⟨_, hH⟩ => ?_
      subst hH
      simp
      refine ⟨addL_ok h' (by omega) (by omega), fun hb => ?_⟩
      have hx := ((Cnt.refl left').add (k := m.goal.length) (by omega)) hb
      obtain ⟨f1, f2, f3⟩ := hF hx.1
      unfold okLeft at h'
      exact ⟨f1, f2, f3, by omega⟩

end Go.Abs.G


namespace Go.Abs.G
open Go.Proofs
attribute [local simp] I.vc sub merge place
set_option linter.unusedVariables false
set_option linter.unusedSimpArgs false
theorem few13_spec (m : Model) (rows : List (List V)) (xs : List Int) (hm' : okModel m) (hl : rows.length ≤ maxLen) :
    DP Tryz.prog hallmarklaw13_few.id [.agg m.cells, V.view 3 rows, vInts xs] (fun r => ∃ b, r = .bool b ∧ (b = true → xs.length ≤ 70)) := by
  have hm : (maxLen : Int) ≤ 9223372036854775807 := by decide
  refine DC.of hallmarklaw13_few.ok (by simp) ?_
  simp [hallmarklaw13_few.ir, hallmarklaw13_few.rs, Model.cells, vVars, vCons, vTerms, vInts]
  refine DC.mono (many_spec 20000) fun r H' ⟨hr', hH⟩ => ?_
  subst hr' hH
  simp
  refine DC.mono (cntModel2_spec 20000 m (by constructor <;> decide) hm') fun r H' ⟨left', o, h', hF, hH⟩ => ?_
  subst hH
  simp
  refine DC.mono (add_spec left' rows.length h' (by omega) (by omega)) fun r H' ⟨_, hH⟩ => ?_
  subst hH
  simp
  refine DC.mono (ok_spec _) fun r H' ⟨hr', hH⟩ => ?_
  subst hr' hH
  simp
  intro _
  omega
end Go.Abs.G


/- A state in short; loops that count. -/
namespace Go.Abs
set_option linter.unusedVariables false

/-- What slots hold. -/
def Sls : List (Nat × V) → St → Prop
  | [], _ => True
  | [p], s => gt s.sl p.1 = p.2
  | p :: q :: l, s => gt s.sl p.1 = p.2 ∧ Sls (q :: l) s
/-- A state: its heap, and what slots hold. -/
def At (l : List (Nat × V)) (H : Heap) (s : St) : Prop := s.hp = H ∧ Sls l s

@[simp] theorem sls_nil (s : St) : Sls [] s = True := rfl
@[simp] theorem sls_one (p : Nat × V) (s : St) : Sls [p] s = (gt s.sl p.1 = p.2) := rfl
@[simp] theorem sls_cons (p q : Nat × V) (l : List (Nat × V)) (s : St) : Sls (p :: q :: l) s = (gt s.sl p.1 = p.2 ∧ Sls (q :: l) s) := rfl

theorem least {p : Nat → Prop} (h : ∃ n, p n) : ∃ n, p n ∧ ∀ k, p k → n ≤ k := by
  obtain ⟨n, hn⟩ := h
  induction n using Nat.strongRecOn with
  | ind n ih =>
    by_cases h : ∃ k, k < n ∧ p k
    · obtain ⟨k, hk, hp⟩ := h; exact ih k hk hp
    · exact ⟨n, hn, fun k hk => by
        by_cases hkn : n ≤ k
        · exact hkn
        · exact (h ⟨k, by omega, hk⟩).elim⟩

/-- A loop that counts to n, by what holds behind i rounds. -/
theorem WI.upto {P : Program} {c : C} {Q : Ex → St → Prop} {st : St} (m : Nat) (hm : st.hp.length ≤ m) (n : Nat) (I : Nat → St → Prop) (h0 : I 0 st)
    (hr : ∀ i s, i ≤ n → I i s → vc P c (fun e s' => match e with | .norm => i < n ∧ I (i + 1) (s'.trim m) | .exit k => Q (.exit k) s' | .ret => Q .ret s') s) : WI P (.loop c) Q st := by
  classical
  let μ : St → Nat := fun s => if h : ∃ k, k ≤ n ∧ I (n - k) s then Classical.choose (least h) else 0
  refine WI.loop m hm (fun s => ∃ i, i ≤ n ∧ I i s) μ ⟨0, Nat.zero_le _, h0⟩ ?_
  rintro s ⟨i, hi, hI⟩
  have hx : ∃ k, k ≤ n ∧ I (n - k) s := ⟨n - i, by omega, by rw [show n - (n - i) = i from by omega]; exact hI⟩
  obtain ⟨⟨k1, k2⟩, k3⟩ := Classical.choose_spec (least hx)
  have hμ : μ s = Classical.choose (least hx) := dif_pos hx
  rw [hμ]
  generalize Classical.choose (least hx) = k at *
  refine vc_mono (fun e s' he => ?_) (hr (n - k) s (by omega) k2)
  cases e with
  | norm =>
    obtain ⟨e1, e2⟩ := he
    refine ⟨⟨_, by omega, e2⟩, ?_⟩
    have hy : ∃ q, q ≤ n ∧ I (n - q) (s'.trim m) := ⟨k - 1, by omega, by rw [show n - (k - 1) = n - k + 1 from by omega]; exact e2⟩
    have hμ' : μ (s'.trim m) = Classical.choose (least hy) := dif_pos hy
    rw [hμ']
    have := (Classical.choose_spec (least hy)).2 (k - 1) ⟨by omega, by rw [show n - (k - 1) = n - k + 1 from by omega]; exact e2⟩
    omega
  | exit j => exact he
  | ret => exact he

/-- The same, of what comes behind. -/
theorem vc_upto {P : Program} {c : C} {Q : Ex → St → Prop} {st : St} (m : Nat) (hm : st.hp.length ≤ m) (n : Nat) (I : Nat → St → Prop) (h0 : I 0 st)
    (hr : ∀ i s, i ≤ n → I i s → vc P c (fun e s' => match e with | .norm => i < n ∧ I (i + 1) (s'.trim m) | .exit k => Q (.exit k) s' | .ret => Q .ret s') s) : vc P (.loop c) Q st := WI.upto m hm n I h0 hr

/-- A contract that gives just this, over just this. -/
theorem DC.to {P : Program} {f : FuncId} {xs : List V} {H : Heap} {r : V} {H' : Heap} {Q : V → Heap → Prop} (h : DC P f xs H fun x K => x = r ∧ K = H') (hq : Q r H') : DC P f xs H Q :=
  DC.mono h fun x K ⟨a, b⟩ => by rw [a, b]; exact hq

/-! What each operation asks, but for calls. -/
section
variable {P : Program} {k : St → Prop} {st : St} {d : Option Nat} {x y v n m key : Operand} {l : L} {t es r len bytes : Nat} {ts ap : List Nat} {zero : List V} {parts : List (Nat × Operand)} {kd : IntKind}
@[simp] theorem vc_lt : I.vc P (.lt d l) k st = (l.pre st ∧ k (st.put d (l.val st))) := rfl
@[simp] theorem vc_frz : I.vc P (.frz t) k st = (if (gt st.sl t).ids = [] then k st else (gt st.sl t).fzP st.hp ∧ k { st with sl := up st.sl t ((gt st.sl t).fz st.hp), hp := st.hp.fz (gt st.sl t).ids }) := rfl
@[simp] theorem vc_nilv : I.vc P (.nilv t es) k st = k { st with sl := up st.sl t (if (gt st.sl t).nilSl then .view es [] else gt st.sl t) } := rfl
@[simp] theorem vc_keep : I.vc P (.keep ts) k st = k { st with sl := keepS st.sl ts } := rfl
@[simp] theorem vc_wk : I.vc P .wk k st = (∃ st', Weak st st' ∧ k st') := rfl
@[simp] theorem vc_alloc : I.vc P (.alloc d r len zero) k st = (st.hp[st.bs + r]? = some .res ∧ zero.length = len ∧ k ({ st with hp := st.hp.set (st.bs + r) (.mem false [] [zero]) }.put d (.ptr (st.bs + r) 1 0 0))) := rfl
@[simp] theorem vc_box : I.vc P (.box d r len x) k st = (st.hp[st.bs + r]? = some .res ∧ (st.ev x).sized st.hp len ∧
      k ({ st with hp := st.hp.set (st.bs + r) (.mem false (V.idsL (st.ev x).cells) [(st.ev x).cells]) }.put d (.ptr (st.bs + r) 1 0 0))) := rfl
@[simp] theorem vc_bsl : I.vc P (.bsl d r es len zero parts) k st = (st.hp[st.bs + r]? = some .res ∧ zero.length = es ∧ (∀ p ∈ parts, (st.ev p.2).sized st.hp es ∧ p.1 < len) ∧
      k ({ st with hp := st.hp.set (st.bs + r) (.mem false (V.idsL (fillV (List.flatten (List.replicate len zero)) (parts.map fun (p : Nat × Operand) => (p.1 * es, es, st.ev p.2)))) (chunk es len (fillV (List.flatten (List.replicate len zero)) (parts.map fun (p : Nat × Operand) => (p.1 * es, es, st.ev p.2))))) }.put d (.own (st.bs + r) es 0 len len))) := rfl
@[simp] theorem vc_bsv : I.vc P (.bsv d es len zero parts) k st = (zero.length = es ∧ (∀ p ∈ parts, V.idsL (st.ev p.2).cells = [] ∧ (st.ev p.2).sized st.hp es ∧ p.1 < len) ∧
      k (st.put d (I.bsvV es len zero (parts.map fun (p : Nat × Operand) => (p.1 * es, es, st.ev p.2))))) := rfl
@[simp] theorem vc_mkm : I.vc P (.mkm d r) k st = (st.hp[st.bs + r]? = some .res ∧ k ({ st with hp := st.hp.set (st.bs + r) (.map false [] []) }.put d (.mp (st.bs + r)))) := rfl
@[simp] theorem vc_mks : I.vc P (.mks d r es bytes zero n) k st = (st.hp[st.bs + r]? = some .res ∧ zero.length = es ∧ (∃ m, st.ev n = .a (.int .i64 m)) ∧ 0 ≤ (st.ev n).num ∧ (st.ev n).num * bytes ≤ 140737488355328 ∧
      k ({ st with hp := st.hp.set (st.bs + r) (.mem false [] (List.replicate (st.ev n).num.toNat zero)) }.put d (.own (st.bs + r) es 0 (st.ev n).num.toNat (st.ev n).num.toNat))) := rfl
@[simp] theorem vc_pan : I.vc P .pan k st = False := rfl
@[simp] theorem vc_store : I.vc P (.store ap len x v) k st = (match st.ev x with
    | .ptr id tot i j => match st.hp.getD id .dead with
      | .mem false refs rows => (∀ t ∈ ap, (gt st.sl t).oid ≠ some id) ∧ rows.length = tot ∧ i < tot ∧ j + len ≤ (rows.getD i []).length ∧ (st.ev v).sized st.hp len ∧
          k { st with hp := st.hp.set id (.mem false (addRefs refs (V.idsL (st.ev v).cells)) (rows.set i (rowSet (rows.getD i []) j (st.ev v).cells))) }
      | _ => False
    | _ => False) := rfl
@[simp] theorem vc_app : I.vc P (.app ap d r es bytes x y) k st = (match st.ev x with
    | .own id es' off len tot => match st.hp.getD id .dead with
      | .mem false refs rows => (∀ t ∈ ap, (gt st.sl t).oid ≠ some id) ∧ es' = es ∧ rows.length = tot ∧ off + len = tot ∧ okSl st.hp (st.ev y) ∧ (st.ev y).slEs es ∧ ((len : Int) + (st.ev y).slLen) * bytes ≤ 140737488355328 ∧
          k ({ st with hp := st.hp.set id (.mem false (addRefs refs ((st.ev y).rowIds st.hp)) (rows ++ (st.ev y).rowsOf st.hp)) }.put d (.own id es off (len + ((st.ev y).rowsOf st.hp).length) (tot + ((st.ev y).rowsOf st.hp).length)))
      | _ => False
    | .a (.slice none 0 0) => st.hp[st.bs + r]? = some .res ∧ okSl st.hp (st.ev y) ∧ (st.ev y).slEs es ∧ (st.ev y).slLen * bytes ≤ 140737488355328 ∧
          k ({ st with hp := st.hp.set (st.bs + r) (.mem false ((st.ev y).rowIds st.hp) ((st.ev y).rowsOf st.hp)) }.put d (.own (st.bs + r) es 0 ((st.ev y).rowsOf st.hp).length ((st.ev y).rowsOf st.hp).length))
    | .nul es' => es' = es ∧ st.hp[st.bs + r]? = some .res ∧ okSl st.hp (st.ev y) ∧ (st.ev y).slEs es ∧ (st.ev y).slLen * bytes ≤ 140737488355328 ∧
          (if ((st.ev y).rowsOf st.hp).isEmpty = true then k (st.put d (.nul es)) else
            k ({ st with hp := st.hp.set (st.bs + r) (.mem false ((st.ev y).rowIds st.hp) ((st.ev y).rowsOf st.hp)) }.put d (.own (st.bs + r) es 0 ((st.ev y).rowsOf st.hp).length ((st.ev y).rowsOf st.hp).length)))
    | _ => False) := rfl
@[simp] theorem vc_cpy : I.vc P (.cpy d es x y) k st = (match st.ev x with
    | .own id es' off len tot => match st.hp.getD id .dead with
      | .mem false refs rows => es' = es ∧ rows.length = tot ∧ off + len ≤ tot ∧ okSl st.hp (st.ev y) ∧ (st.ev y).slEs es ∧ (st.ev y).slLen ≤ len ∧
          k ({ st with hp := st.hp.set id (.mem false (addRefs refs ((st.ev y).rowIds st.hp)) (rows.take off ++ (st.ev y).rowsOf st.hp ++ rows.drop (off + ((st.ev y).rowsOf st.hp).length))) }.put d (.a (.int .i64 (st.ev y).slLen)))
      | _ => False
    | _ => False) := rfl
@[simp] theorem vc_mup : I.vc P (.mup ap kd m key v) k st = (match st.ev m with
    | .mp id => match st.hp.getD id .dead with
      | .map false refs es => (∀ t ∈ ap, (gt st.sl t).oid ≠ some id) ∧ (∀ e ∈ es, e.1.isKey kd = true) ∧ (st.ev key).isKey kd = true ∧
          k { st with hp := st.hp.set id (.map false (addRefs refs (V.idsL [st.ev v])) (putE es (st.ev key) (st.ev v))) }
      | _ => False
    | _ => False) := rfl

/-! Calls. -/
variable {f : FuncId} {xs : List Operand}
theorem call_go {r0 : V} {zs : List V} (hc : Pf P f zs r0) (ha : xs.map st.ev = zs) (hi : V.idsL zs = []) (hk : k (st.put d r0)) : I.vc P (.call d f xs) k st := by
  subst ha; exact ⟨hi, hc.use hk⟩
theorem callb_go {r0 : V} {zs : List V} (hc : Pf P f zs r0) (ha : V.fzL st.hp (xs.map st.ev) = zs) (hp : V.fzPL st.hp (xs.map st.ev)) (hf : okFunc P f = true) (hr : r0.flat = true) (hk : k (st.put d r0)) : I.vc P (.callb d (.func f) xs) k st := by
  rw [callb_fn]; subst ha; exact ⟨hf, hp, hc.use ⟨hr, hk⟩⟩
theorem callo_gen {zs : List V} {Q : V → Heap → Prop} (hc : DC P f zs [] Q) (ha : xs.map st.ev = zs) (hi : V.idsL zs = []) (hf : okFunc P f = true)
    (hk : ∀ r H', Q r H' → k ({ st with hp := st.hp ++ H'.map (O.ren (st.hp.length + ·)) }.put d (r.ren (st.hp.length + ·)))) : I.vc P (.callo d (.func f) xs) k st := by
  rw [callo_fn]; subst ha; exact ⟨hf, hi, hc.mono hk⟩
theorem callo_go {zs : List V} {r0 : V} {H0 : Heap} (hc : DC P f zs [] fun r H => r = r0 ∧ H = H0) (ha : xs.map st.ev = zs) (hi : V.idsL zs = []) (hf : okFunc P f = true)
    (hk : k ({ st with hp := st.hp ++ H0.map (O.ren (st.hp.length + ·)) }.put d (r0.ren (st.hp.length + ·)))) : I.vc P (.callo d (.func f) xs) k st :=
  callo_gen hc ha hi hf fun r H ⟨a, b⟩ => by subst a b; exact hk
theorem callm_gen {zs : List V} {H0 : Heap} {Q : V → Heap → Prop} (hc : DC P f zs H0 Q) (sel : List Nat) (hs : clos st.hp 8 (addAll [] (V.idsL (xs.map st.ev))) = sel) (hok : OkSel st.hp sel) (ha : V.renL (idx sel) (xs.map st.ev) = zs) (hH : sub st.hp sel = H0)
    (hf : okFunc P f = true) (hk : ∀ r H', Q r H' → k ({ st with hp := merge st.hp sel H' }.put d (r.ren (back sel st.hp.length)))) : I.vc P (.callm d (.func f) xs) k st := by
  rw [callm_fn]; subst hs ha hH; exact ⟨hf, hok, hc.mono hk⟩
theorem callm_go {zs : List V} {H0 : Heap} {r0 : V} {H1 : Heap} (hc : DC P f zs H0 fun r H => r = r0 ∧ H = H1) (sel : List Nat) (hs : clos st.hp 8 (addAll [] (V.idsL (xs.map st.ev))) = sel) (hok : OkSel st.hp sel) (ha : V.renL (idx sel) (xs.map st.ev) = zs) (hH : sub st.hp sel = H0)
    (hf : okFunc P f = true) (hk : k ({ st with hp := merge st.hp sel H1 }.put d (r0.ren (back sel st.hp.length)))) : I.vc P (.callm d (.func f) xs) k st :=
  callm_gen hc sel hs hok ha hH hf fun r H ⟨a, b⟩ => by subst a b; exact hk
theorem calla_gen {zs : List V} {H0 : Heap} {Q : V → Heap → Prop} (hc : DC P f zs H0 Q) (sel : List Nat) (hs : clos st.hp 8 (addAll [] (V.idsL (xs.map st.ev))) = sel) (hok : OkSel st.hp sel) (hap : ∀ t ∈ ap, ∀ k, (gt st.sl t).oid = some k → k ∉ sel)
    (ha : V.renL (idx sel) (xs.map st.ev) = zs) (hH : sub st.hp sel = H0) (hf : okFunc P f = true) (hk : ∀ r H', Q r H' → k ({ st with hp := merge st.hp sel H' }.put d (r.ren (back sel st.hp.length)))) : I.vc P (.calla ap d (.func f) xs) k st := by
  rw [calla_fn]; subst hs ha hH; exact ⟨hf, hok, hap, hc.mono hk⟩
theorem calla_go {zs : List V} {H0 : Heap} {r0 : V} {H1 : Heap} (hc : DC P f zs H0 fun r H => r = r0 ∧ H = H1) (sel : List Nat) (hs : clos st.hp 8 (addAll [] (V.idsL (xs.map st.ev))) = sel) (hok : OkSel st.hp sel) (hap : ∀ t ∈ ap, ∀ k, (gt st.sl t).oid = some k → k ∉ sel)
    (ha : V.renL (idx sel) (xs.map st.ev) = zs) (hH : sub st.hp sel = H0) (hf : okFunc P f = true) (hk : k ({ st with hp := merge st.hp sel H1 }.put d (r0.ren (back sel st.hp.length)))) : I.vc P (.calla ap d (.func f) xs) k st :=
  calla_gen hc sel hs hok hap ha hH hf fun r H ⟨a, b⟩ => by subst a b; exact hk
end

/-- An object that names no other. -/
structure O.clo (o : O) : Prop where
  refs : o.refs = []
  ren : ∀ f, o.ren f = o
  nres : o ≠ .res
theorem clos_one {H : Heap} {k : Nat} {o : O} (h : H[k]? = some o) (c : o.clo) : clos H 8 [k] = [k] :=
  clos_stop H 8 [k] fun i hi q hq => by
    simp only [List.mem_singleton] at hi; subst hi
    rw [getD_some h, c.refs] at hq; cases hq
theorem okSel_one {H : Heap} {k : Nat} {o : O} (h : H[k]? = some o) (c : o.clo) : OkSel H [k] := by
  refine ⟨by simp, fun i hi => ?_, fun i hi => ?_, fun i hi q hq => ?_⟩ <;> (simp only [List.mem_singleton] at hi; subst hi)
  · exact lt_of_get h
  · rw [getD_some h]; exact c.nres
  · rw [getD_some h, c.refs] at hq; cases hq
theorem sub_one {H : Heap} {k : Nat} {o : O} (h : H[k]? = some o) (c : o.clo) : sub H [k] = [o] := by
  simp only [sub, List.map_cons, List.map_nil, getD_some h, c.ren]
theorem merge_one {H H1 : Heap} {k : Nat} {o o' : O} (h : H[k]? = some o) (c : o'.clo) (h1 : ∀ p ∈ H1, p.clo) : merge H [k] (o' :: H1) = H.set k o' ++ H1 := by
  have : H1.map (O.ren (back [k] H.length)) = H1 := (List.map_congr_left fun p hp => (h1 p hp).ren _).trans (List.map_id _)
  simp only [merge, place, List.length_cons, List.length_nil, Nat.zero_add, List.take_succ_cons, List.take_zero, List.map_cons, List.map_nil, c.ren, List.drop_succ_cons, List.drop_zero, this]
theorem set_same {H : Heap} {k : Nat} {o : O} (h : H[k]? = some o) : H.set k o = H := by
  obtain ⟨hl, he⟩ := List.getElem?_eq_some_iff.1 h
  rw [← he]; exact List.set_getElem_self hl
section
variable {P : Program} {k : St → Prop} {st : St} {d : Option Nat} {ap : List Nat} {f : FuncId} {xs : List Operand}
/-- A call that is handed one object by itself. -/
theorem callm_one {zs : List V} {r0 : V} {o o' : O} {H1 : Heap} (hc : DC P f zs [o] fun r H => r = r0 ∧ H = o' :: H1) (p : Nat) (hi : addAll [] (V.idsL (xs.map st.ev)) = [p]) (hp : st.hp[p]? = some o) (c : o.clo) (c' : o'.clo) (c1 : ∀ q ∈ H1, q.clo)
    (ha : V.renL (idx [p]) (xs.map st.ev) = zs) (hf : okFunc P f = true) (hk : k ({ st with hp := st.hp.set p o' ++ H1 }.put d (r0.ren (back [p] st.hp.length)))) : I.vc P (.callm d (.func f) xs) k st :=
  callm_go hc [p] (by rw [hi, clos_one hp c]) (okSel_one hp c) ha (sub_one hp c) hf (by rw [merge_one hp c' c1]; exact hk)
theorem calla_one {zs : List V} {r0 : V} {o o' : O} {H1 : Heap} (hc : DC P f zs [o] fun r H => r = r0 ∧ H = o' :: H1) (p : Nat) (hi : addAll [] (V.idsL (xs.map st.ev)) = [p]) (hp : st.hp[p]? = some o) (c : o.clo) (c' : o'.clo) (c1 : ∀ q ∈ H1, q.clo)
    (hap : ∀ t ∈ ap, (gt st.sl t).oid ≠ some p) (ha : V.renL (idx [p]) (xs.map st.ev) = zs) (hf : okFunc P f = true) (hk : k ({ st with hp := st.hp.set p o' ++ H1 }.put d (r0.ren (back [p] st.hp.length)))) : I.vc P (.calla ap d (.func f) xs) k st :=
  calla_go hc [p] (by rw [hi, clos_one hp c]) (okSel_one hp c) (fun t ht q hq => by simp only [List.mem_singleton]; rintro rfl; exact hap t ht hq) ha (sub_one hp c) hf (by rw [merge_one hp c' c1]; exact hk)
end
end Go.Abs

/- Contracts: of what a call leaves, the objects that its caller wants, numbered anew. -/
namespace Go.Abs
set_option linter.unusedVariables false

theorem HOK.less {hp : Array Obj} {H : Heap} {β : Nat → Hd} {F F' : Nat → Prop} (hk : HOK hp H β F) (h : ∀ b, F' b → F b) : HOK hp H β F' ∧ (cx hp H β F).le (cx hp H β F') := by
  have hle : (cx hp H β F).le (cx hp H β F') := ⟨Nat.le_refl _, fun b hb hn => ⟨rfl, fun e => hn (e.imp id (h b))⟩, fun _ h => h, fun _ _ _ e => .inl e⟩
  exact ⟨⟨fun i o ho => (hk.ro i o ho).mono hle rfl (fun hn e => hn (e.imp (fun x => x) (h _))) fun _ _ _ _ _ _ => rfl, hk.one, fun b hb => hk.far b (h b hb)⟩, hle⟩

theorem DC.pick {P : Program} {f : FuncId} {xs : List V} {H : Heap} {Q Q' : V → Heap → Prop} (h : DC P f xs H Q)
    (hq : ∀ x H', Q x H' → ∃ sel, OkSel H' sel ∧ (∀ i, i < H.length → sel[i]? = some i) ∧ (∀ i ∈ x.ids, i ∈ sel) ∧ Q' (x.ren (idx sel)) (Abs.sub H' sel)) : DC P f xs H Q' := fun w β F vs hk hr =>
  (h w β F vs hk hr).mono fun e w' ⟨r, x, H', β2, h1, h2, h3, h4⟩ => by
    obtain ⟨sel, ok, hn, hx, hQ⟩ := hq x H' h4
    obtain ⟨k1, k2⟩ := (sub_ok h2.hok ok).less (F' := F) fun b hb => .inl hb
    have hsub : ∀ id, id < H.length → (Abs.sub H' sel)[id]? = (H'[id]?).map (O.ren (idx sel)) ∧ βsub β2 sel id = β2 id := fun id hid => by
      obtain ⟨h5, h6⟩ := List.getElem?_eq_some_iff.1 (hn id hid)
      have h7 : sel.getD id 0 = id := by simp [List.getD, hn id hid]
      exact ⟨by rw [sub_get ok h5, h7], by unfold βsub; rw [h7]⟩
    refine ⟨r, _, _, βsub β2 sel, h1, ⟨k1, ⟨h2.le.size, fun b hb hno => ⟨(h2.le.same b hb hno).1, fun e => (h2.le.same b hb hno).2 ?_⟩, fun id hl => ?_, fun id g' hl e => ?_⟩, h2.ext⟩, ?_, hQ⟩
    · rcases e with ⟨j, e⟩ | e
      · exact .inl ⟨_, (owns_sub ok e).2⟩
      · exact .inr e
    · have hlt : id < H.length := by obtain ⟨o, e, _⟩ := hl; exact lt_of_get e
      exact (liveIn_ren (hsub id hlt).1).2 (h2.le.live id hl)
    · have hlt : id < H.length := by obtain ⟨o, e, _⟩ := hl; exact lt_of_get e
      refine h2.le.hd id g' hl ?_
      have e' : hdOf (Abs.sub H' sel) (βsub β2 sel) id = some g' := e
      rw [hdOf_ren (hsub id hlt).1 (hsub id hlt).2] at e'
      exact e'
    · have h5 := (h3.onlyOf x.ids fun i hi => hi).ren (ren_sub (w := w') (F := F) ok hx)
      exact h5.up.mono k2

/-- The same, for results that are just this, over just this. -/
theorem DC.picks {P : Program} {f : FuncId} {xs : List V} {H : Heap} {Q : V → Heap → Prop} {r : V} {K : Heap} (h : DC P f xs H Q)
    (hq : ∀ x H', Q x H' → ∃ sel, OkSel H' sel ∧ (∀ i, i < H.length → sel[i]? = some i) ∧ (∀ i ∈ x.ids, i ∈ sel) ∧ x.ren (idx sel) = r ∧ Abs.sub H' sel = K) : DC P f xs H fun x H' => x = r ∧ H' = K :=
  h.pick fun x H' hQ => by obtain ⟨sel, a, b, c, d, e⟩ := hq x H' hQ; exact ⟨sel, a, b, c, d, e⟩

/-- A slice without elements, as one of its own. -/
theorem DC.ownnil {P : Program} {f : FuncId} {xs : List V} {H : Heap} {Q Q' : V → Heap → Prop} (h : DC P f xs H Q)
    (hq : ∀ x H', Q x H' → Q' x H' ∨ ∃ es, (x = .a (.slice none 0 0) ∨ ∃ es', x = .nul es') ∧ Q' (.own H'.length es 0 0 0) (H' ++ [.mem false [] []])) : DC P f xs H Q' := fun w β F vs hk hr =>
  (h w β F vs hk hr).mono fun e w' ⟨r, x, H', β2, h1, h2, h3, h4⟩ => by
    rcases hq x H' h4 with hQ | ⟨es, hx, hQ⟩
    · exact ⟨r, x, H', β2, h1, h2, h3, hQ⟩
    · obtain ⟨ad, rfl⟩ : ∃ ad, r = .slice ad 0 0 := by
        rcases hx with rfl | ⟨es', rfl⟩
        · exact ⟨none, h3.of_a⟩
        · cases h3 with
          | nul => exact ⟨_, rfl⟩
      have a1 := adv_res (F := F) h2.hok 1
      have hg : (H' ++ List.replicate 1 O.res)[H'.length]? = some O.res := by simp
      have a2 := new_nil (es := es) (refs := []) (F := F) a1.hok hg
      have e : (H' ++ List.replicate 1 O.res).set H'.length (.mem false [] []) = H' ++ [.mem false [] []] := by
        rw [List.set_append, if_neg (by omega), Nat.sub_self]; rfl
      have a3 := nil_own (es := es) (refs := []) (ad := ad) (hp := w'.heap) (F := F) (β := β2) hg
      rw [e] at a2 a3
      exact ⟨_, _, _, _, h1, h2.trans (a1.trans a2), a3, hQ⟩

/-- An argument that is a slice of one's own without elements, by what it may be. -/
theorem DC.own0 {P : Program} {f : FuncId} {es : Nat} {ys : List V} {H : Heap} {Q : V → Heap → Prop} {id : Nat} {refs : List Nat} (hid : H[id]? = some (.mem false refs []))
    (h : ∀ ad c, (ad = none → c = 0) → DC P f (.a (.slice ad 0 c) :: ys) H Q) : DC P f (.own id es 0 0 0 :: ys) H Q := by
  intro w β F vs hk hr
  have hlt : 0 < vs.size := by have := hr.1; simp at this; omega
  have hv := hr.2 0 vs[0] (.own id es 0 0 0) (by simp [hlt]) rfl
  have hd : hdOf H β id = some ((β id).wt 0) := by unfold hdOf; rw [hid]; rfl
  have key : ∃ ad c, (ad = none → c = 0) ∧ vs[0] = .slice ad 0 c := by
    generalize vs[0] = v at hv
    cases hv with
    | own hl hh =>
      obtain ⟨_, g⟩ := hh _ hd
      obtain ⟨_, _, g⟩ := g rfl
      rcases g with ⟨_, ⟨ad, rfl⟩, _⟩ | ⟨_, ad, rfl, _⟩
      · exact ⟨ad, 0, fun _ => rfl, rfl⟩
      · exact ⟨some ad, _, (fun e => by cases e), rfl⟩
  obtain ⟨ad, c, h1, h2⟩ := key
  refine h ad c h1 w β F vs hk ⟨by simpa using hr.1, fun i v x hv' hx => ?_⟩
  cases i with
  | zero =>
    rw [Array.getElem?_eq_getElem hlt] at hv'
    injection hv' with hv'
    injection hx with hx
    subst hx
    rw [← hv', h2]; exact .a
  | succ i => exact hr.2 (i + 1) v x hv' (by simpa using hx)
end Go.Abs

/- Many objects at once. -/
namespace Go.Abs
set_option linter.unusedVariables false
section
variable {w : World} {β : Nat → Hd} {F : Nat → Prop} {H : Heap}
theorem adv_toTreeE {id : Nat} {refs : List Nat} {rows : List (List V)} (hk : HOK w.heap H β F) (hid : H[id]? = some (.mem false refs rows)) (hlo : (β id).lo = 0) : Adv F w H β w (H.set id (.tree refs (flatC rows))) (upd β id ((β id).ws noSub)) := by
  refine turn_at (S := noSub) hk hid (by simp) (fun b hb => ?_) (fun g' hg => ?_) fun hle => ?_
  · unfold ownsB at hb ⊢
    rw [get_set hid, upd_same] at hb
    rw [hid]
    obtain ⟨h1, h2 | h2⟩ := hb
    · exact ⟨h1, h2⟩
    · exact h2.elim
  · unfold hdOf at hg ⊢
    rw [get_set hid, upd_same] at hg
    rw [hid]
    simp only [flatC_length] at hg ⊢
    exact hg
  · rcases hk.ro id _ hid with hr | ⟨q1, q2, q3, q4, q5, cs, E, fr, q6, q7, q8, q9⟩
    · exact .inl ⟨hr.1, by rw [hr.2.1]; rfl, hr.2.2⟩
    · obtain rfl := q7 rfl
      refine .inr ⟨q1, hlo, fun h => h, ?_, fun cs' E' fr' e => ?_⟩
      rotate_left
      · have e2 : w.heap[(β id).b]? = some (.cells cs' E' fr') := e
        have q6' : w.heap[(β id).b]? = some (.cells cs E (0, 0)) := q6
        rw [q6'] at e2
        cases e2
        exact q8
      have key : ∀ (i : Nat) (row : List Ce), (flatC rows)[i]? = some row → ∀ (j : Nat) (x : Ce), row[j]? = some x → ∃ y v, x = .v y ∧ cs[(β id).o + i * (β id).es + j]? = some v ∧ v.oneCell' = true ∧ RV ((cx w.heap H β F).only refs) v y := by
        intro i row hi j x hj
        obtain ⟨r, hr, rfl⟩ := flatC_get hi
        rw [List.getElem?_map, Option.map_eq_some_iff] at hj
        obtain ⟨y, hj, rfl⟩ := hj
        obtain ⟨v, e1, e2, e3⟩ := q9 i r hr (by omega) j y hj
        rw [hlo, Nat.sub_zero] at e1
        exact ⟨y, v, rfl, e1, e2, e3⟩
      have := TR.n (c := cx w.heap (H.set id (.tree refs (flatC rows))) (upd β id ((β id).ws noSub)) F) (refs := refs) (S := fun b => (β id).b = b ∨ noSub b) (ad := ⟨(β id).b, (β id).o, none⟩) (b := (β id).b) (o := (β id).o) (cap := (β id).cap) (es := (β id).es) (rows := flatC rows)
        (fun _ => rfl) cs E (fun i j => (cs[(β id).o + i * (β id).es + j]?).getD undef) (fun _ _ => noSub) q6 (by rw [flatC_length]; omega) q8 (fun i row hi => by
          obtain ⟨r, hr, rfl⟩ := flatC_get hi
          rw [List.length_map]; exact q4 i r hr) (fun i row hi j x hj => by
          obtain ⟨y, v, _, e1, _⟩ := key i row hi j x hj
          rw [e1]; rfl) (fun i row hi j x hj => by
          obtain ⟨y, v, rfl, e1, e2, e3⟩ := key i row hi j x hj
          rw [e1]; exact .v e2 (e3.mono (hle.only _))) (fun i j k h => h.elim) (fun k => ⟨fun h => h.elim (fun e => .inl e.symm) fun e => e.elim, fun h => h.elim (fun e => .inl e.symm) fun ⟨_, _, e⟩ => e.elim⟩) (fun i j h => h) fun i j i' j' k h => h.elim
      exact this

end
theorem upd_ne' {β : Nat → Hd} {i j : Nat} {h : Hd} (hne : j ≠ i) : upd β i h j = β j := by unfold upd; rw [if_neg hne]

/-- Rows of slices that own nothing further, each told as an object of trees. -/
theorem adv_treeAll {w : World} {F : Nat → Prop} : ∀ (todo : List (Nat × List (List V))) (H : Heap) (β : Nat → Hd), HOK w.heap H β F → (∀ c ∈ todo, H[c.1]? = some (.mem false [] c.2) ∧ (β c.1).lo = 0) → (todo.map (·.1)).Nodup →
    ∃ β' H', Adv F w H β w H' β' ∧ (∀ c ∈ todo, H'[c.1]? = some (.tree [] (flatC c.2))) ∧ H'.length = H.length ∧ ∀ j, j ∉ todo.map (·.1) → H'[j]? = H[j]?
  | [], H, β, hk, _, _ => ⟨β, H, ⟨hk, .refl _, .refl _ _⟩, by simp, rfl, fun _ _ => rfl⟩
  | c :: l, H, β, hk, hc, hnd => by
    obtain ⟨h1, h2⟩ := hc c (by simp)
    have a1 := adv_toTreeE hk h1 h2
    obtain ⟨n1, n2⟩ : c.1 ∉ l.map (·.1) ∧ (l.map (·.1)).Nodup := by simpa using List.nodup_cons.1 hnd
    obtain ⟨β', H', a2, k1, k2, k3⟩ := adv_treeAll l _ _ a1.hok (fun d hd => by
      have hne : d.1 ≠ c.1 := fun e => n1 (e ▸ List.mem_map_of_mem hd)
      obtain ⟨g1, g2⟩ := hc d (by simp [hd])
      exact ⟨by rw [getElem?_set_ne' hne]; exact g1, by rw [upd_ne' hne]; exact g2⟩) n2
    refine ⟨β', H', a1.trans a2, fun d hd => ?_, by rw [k2, List.length_set], fun j hj => ?_⟩
    · rcases List.mem_cons.1 hd with rfl | hd
      · rw [k3 _ n1]; exact get_set h1
      · exact k1 d hd
    · rw [List.map_cons, List.mem_cons, not_or] at hj
      rw [k3 j hj.2, getElem?_set_ne' hj.1]
end Go.Abs

/- A struct whose second cell is a nil slice, as one that owns a slice there. -/
namespace Go.Abs
set_option linter.unusedVariables false

section
variable {w : World} {β : Nat → Hd} {F : Nat → Prop} {H : Heap}
end

end Go.Abs

namespace Go.Abs.G
open Go.Proofs
set_option linter.unusedVariables false
set_option linter.unusedSimpArgs false
attribute [local simp] I.vc

/-- A copy of a slice of domains. -/
theorem cloneD_spec (L : List Dom) (hl : L.length ≤ 64) : DC Tryz.prog slices_Clone_Ldom_domain_dom_domain.id [.own 0 4 0 L.length L.length] [.mem false [] (L.map Dom.row)]
    (fun r H => r = .own 1 4 0 L.length L.length ∧ H = [.mem false [] (L.map Dom.row), .mem false [] (L.map Dom.row)]) := by
  by_cases hL : L = []
  · subst hL
    refine DC.own0 (refs := []) rfl fun ad c hc => ?_
    refine DC.ownnil (Q := fun r H => (r = .a (.slice none 0 0) ∨ r = .nul 4) ∧ H = [.mem false [] []]) ?_ ?_
    · refine DC.pick (Q := fun r H => (r = .a (.slice none 0 0) ∨ r = .nul 4) ∧ ∃ E, H = .mem false [] [] :: E) ?_ ?_
      · refine DC.of slices_Clone_Ldom_domain_dom_domain.ok (by simp) ?_
        cases ad with
        | none =>
          obtain rfl := hc rfl
          simp [slices_Clone_Ldom_domain_dom_domain.ir, slices_Clone_Ldom_domain_dom_domain.rs]
        | some ad => simp [slices_Clone_Ldom_domain_dom_domain.ir, slices_Clone_Ldom_domain_dom_domain.rs]
      · rintro r H ⟨hr, E, rfl⟩
        refine ⟨[0], by simp [O.refs], by simp, by rcases hr with rfl | rfl <;> simp, by rcases hr with rfl | rfl <;> simp, by simp [sub]⟩
    · rintro r H ⟨hr, rfl⟩
      refine .inr ⟨4, hr.imp id fun h => ⟨4, h⟩, rfl, rfl⟩
  · have hp : 0 < L.length := List.length_pos_iff.2 hL
    refine DC.picks (Q := fun r H => r = .own 2 4 0 L.length L.length ∧ ∃ B E, H = .mem false [] (L.map Dom.row) :: B :: .mem false [] (L.map Dom.row) :: E) ?_ ?_
    · refine DC.of slices_Clone_Ldom_domain_dom_domain.ok (by simp) ?_
      simp [slices_Clone_Ldom_domain_dom_domain.ir, slices_Clone_Ldom_domain_dom_domain.rs, hL]
      exact ⟨by omega, List.take_of_length_le (by simp)⟩
    · rintro r H ⟨rfl, B, E, rfl⟩
      exact ⟨[0, 2], by simp [O.refs], by simp, by simp, rfl, by simp [sub]⟩

theorem lo_own {w : World} {β : Nat → Hd} {F : Nat → Prop} {H : Heap} {vs : Array Value} {xs : List V} {i id n es : Nat} (hr : RVs (cx w.heap H β F) vs xs) (hi : xs[i]? = some (.own id es 0 n n)) (hd : hdOf H β id = some ((β id).wt n)) : (β id).lo = 0 := by
  have hlt := lt_of_get hi
  obtain ⟨v, hv⟩ : ∃ v, vs[i]? = some v := ⟨vs[i]'(by rw [hr.1]; exact hlt), Array.getElem?_eq_getElem _⟩
  have h := hr.2 i v _ hv hi
  cases h with
  | own hl hh => exact Nat.le_zero.1 ((hh _ hd).2 rfl).1

/-- The same, of a slice that lies within another. -/
theorem cloneT_spec (L : List Dom) (hl : L.length ≤ 64) : DC Tryz.prog slices_Clone_Ldom_domain_dom_domain.id [.own 0 4 0 L.length L.length] [.tree [] (L.map domCe)]
    (fun r H => r = .own 1 4 0 L.length L.length ∧ H = [.tree [] (L.map domCe), .mem false [] (L.map Dom.row)]) := by
  refine DC.pre (H1 := [.mem false [] (L.map Dom.row)]) (fun w β F vs hk hr => ?_) (DC.post' (cloneD_spec L hl) ?_)
  · exact adv_toMem (id := 0) (refs := []) (rows := L.map Dom.row) hk (by rw [← domCe_flat]; rfl)
  · rintro x H1 ⟨rfl, rfl⟩ w β F vs hk hr
    have l0 := lo_own (i := 1) hr rfl (by simp [hdOf])
    obtain ⟨β1, a1⟩ := adv_toTree (id := 0) hk rfl l0
    refine ⟨β1, _, a1, rfl, ?_⟩
    rw [domCe_flat]; rfl
end Go.Abs.G


namespace Go.Abs.G
open Go.Proofs
set_option linter.unusedVariables false
set_option linter.unusedSimpArgs false

section
variable {s : List Dom} {rf : List Nat} {R : List (List V)} {Es L : Heap} {n c : Nat}
theorem Zn (h : n = 3 + Es.length) (L : Heap) (c : Nat) : (Z s rf R ++ (Es ++ L))[n + c]? = L[c]? := by
  subst h
  rw [List.getElem?_append_right (by simp [Z]; omega), List.getElem?_append_right (by simp [Z]; omega)]
  congr 1; simp [Z]; omega
theorem Zn0 (h : n = 3 + Es.length) (L : Heap) : (Z s rf R ++ (Es ++ L))[n]? = L[0]? := Zn h L 0
theorem Zs (h : n = 3 + Es.length) (L : Heap) (c : Nat) (o : O) : (Z s rf R ++ (Es ++ L)).set (n + c) o = Z s rf R ++ (Es ++ L.set c o) := by
  subst h
  rw [List.set_append, if_neg (by simp [Z]; omega), List.set_append, if_neg (by simp [Z]; omega)]
  have : 3 + Es.length + c - (Z s rf R).length - Es.length = c := by simp [Z]; omega
  rw [this]
theorem Zs0 (h : n = 3 + Es.length) (L : Heap) (o : O) : (Z s rf R ++ (Es ++ L)).set n o = Z s rf R ++ (Es ++ L.set 0 o) := Zs h L 0 o
theorem Zg (h : n = 3 + Es.length) (L : Heap) (c : Nat) (h2) : (Z s rf R ++ (Es ++ L))[n + c]'h2 = L[c]'(by subst h; simp [Z] at h2; omega) := by
  have e := Zn (s := s) (rf := rf) (R := R) h L c
  rw [List.getElem?_eq_getElem h2] at e
  exact (Option.some.inj (e.trans (List.getElem?_eq_getElem _)))
theorem Zg0 (h : n = 3 + Es.length) (L : Heap) (h2) : (Z s rf R ++ (Es ++ L))[n]'h2 = L[0]'(by subst h; simp [Z] at h2; omega) := Zg h L 0 h2
theorem Zl (h : n = 3 + Es.length) (L : Heap) : (Z s rf R ++ (Es ++ L)).length = n + L.length := by subst h; simp [Z]; omega
end

theorem Z_sub1 {s : List Dom} {rf : List Nat} {R : List (List V)} {X : Heap} : sub (Z s rf R ++ X) [1] = [.mem false [] (s.map Dom.row)] := by
  simp [sub, Z, O.ren, Function.comp_def]
theorem Z_merge1 {s : List Dom} {rf : List Nat} {R : List (List V)} {X : Heap} : merge (Z s rf R ++ X) [1] [.mem false [] (s.map Dom.row), .mem false [] (s.map Dom.row)] = Z s rf R ++ (X ++ [.mem false [] (s.map Dom.row)]) := by
  simp [merge, place, Z, O.ren, Function.comp_def]
/-- A copy's slice of marks: where each lies. -/
def cR (b : Nat) (ms : List (List Dom)) (i : Nat) : List (List V) := ((ms.take i).zipIdx).map fun p => [.own (b + 3 * p.2) 4 0 p.1.length p.1.length]
/-- What stands behind i marks copied, behind the original. -/
inductive CI (s : List Dom) (ms : List (List Dom)) (n : Nat) : Nat → Heap → Prop where
  | zero {i : Nat} (hi : i = 0) : CI s ms n i [.mem false [n + 1] [[.own (n + 1) 4 0 s.length s.length, nilS]], .mem false [] (s.map Dom.row)]
  | some {i : Nat} {rf rf' : List Nat} {G : O} {T : Heap} (hi : 0 < i) (hl : T.length = 3 * i - 2) (hk : ∀ j L, j < i → ms[j]? = some L → T[3 * j]? = some (.mem false [] (L.map Dom.row)))
      (hr : ∀ r ∈ rf, r < n + 4 + 3 * i) (hr' : ∀ r ∈ rf', r < n + 4 + 3 * i) : CI s ms n i (.mem false rf [[.own (n + 1) 4 0 s.length s.length, .own (n + 3) 1 0 i i]] :: .mem false [] (s.map Dom.row) :: G :: .mem false rf' (cR (n + 4) ms i) :: T)

theorem CI.len {s : List Dom} {ms : List (List Dom)} {n i : Nat} {E : Heap} (h : CI s ms n i E) : E.length = 2 + 3 * i := by
  cases h with
  | zero hi => simp [hi]
  | some hi hl hk hr hr' => simp [hl]; omega
theorem limO_of {m : Nat} {o : O} (h : ∀ r ∈ o.refs, r < m) : limO m o = o := by
  unfold limO; rw [if_pos (List.all_eq_true.2 fun r hr => by simpa using h r hr)]
theorem CI.trim {s : List Dom} {ms : List (List Dom)} {n i m : Nat} {E : Heap} (h : CI s ms n i E) (hm : n + 4 + 3 * i ≤ m) : CI s ms n i (E.map (limO m)) := by
  cases h with
  | zero hi =>
    rw [List.map_cons, List.map_cons, List.map_nil, limO_of (by simp [O.refs]; omega), limO_of (by simp [O.refs])]
    exact .zero hi
  | some hi hl hk hr hr' =>
    rw [List.map_cons, List.map_cons, List.map_cons, List.map_cons, limO_of (fun r h => by have := hr r h; omega), limO_of (by simp [O.refs]), limO_of (o := .mem false _ (cR (n + 4) ms i)) (fun r h => by have := hr' r h; omega)]
    refine .some hi (by simpa using hl) (fun j L hj hL => ?_) hr hr'
    rw [List.getElem?_map, hk j L hj hL, Option.map_some, limO_of (by simp [O.refs])]
theorem rowsOf_get {ms : List (List Dom)} {i : Nat} {L : List Dom} (h : ms[i]? = some L) : (rowsOf' ms)[i]? = some [.own (3 + i) 4 0 L.length L.length] := by
  have := kids_get 4 3 (ms.map fun L => L.map domCe) i (L.map domCe) (by simp [h])
  simp [rowsOf', kidsOf, this]
theorem objsOf_get {ms : List (List Dom)} {i : Nat} {L : List Dom} (h : ms[i]? = some L) : (objsOf ms)[i]? = some (.tree [] (L.map domCe)) := by simp [objsOf, h]
theorem cR_succ (b : Nat) {ms : List (List Dom)} {i : Nat} {L : List Dom} (h : ms[i]? = some L) : cR b ms (i + 1) = cR b ms i ++ [[.own (b + 3 * i) 4 0 L.length L.length]] := by
  have hi := lt_of_get h
  have hL : ms[i] = L := by rw [List.getElem?_eq_getElem hi] at h; exact Option.some.inj h
  unfold cR
  rw [List.take_succ_eq_append_getElem hi, List.zipIdx_append, List.map_append, hL]
  have : (ms.take i).length = i := by rw [List.length_take]; omega
  simp [this]
theorem cR_len (b : Nat) {ms : List (List Dom)} {i : Nat} (h : i ≤ ms.length) : (cR b ms i).length = i := by
  simp [cR]; omega
theorem treeD_ren (L : List Dom) (f : Nat → Nat) : O.ren f (.tree [] (L.map domCe)) = .tree [] (L.map domCe) := by simp [O.ren, domCe_ren]
theorem treeD_clo (L : List Dom) : (O.tree [] (L.map domCe)).clo := ⟨rfl, treeD_ren L, fun e => by cases e⟩
theorem memD_clo (L : List Dom) : (O.mem false [] (L.map Dom.row)).clo := ⟨rfl, fun f => by simp [O.ren, Function.comp_def], fun e => by cases e⟩
set_option maxHeartbeats 2000000 in
theorem copy_open {s : List Dom} {ms : List (List Dom)} (hs : s.length ≤ 64) (hm : ms.length ≤ 1000000) (hL : ∀ L ∈ ms, L.length ≤ 64) :
    DC Tryz.prog dom_Store_Copy.id [.ptr 0 1 0 0] (Z s (List.range' 3 ms.length) (rowsOf' ms) ++ objsOf ms) (fun r H => r = .ptr (3 + ms.length) 1 0 0 ∧ ∃ E, CI s ms (3 + ms.length) ms.length E ∧ H = Z s (List.range' 3 ms.length) (rowsOf' ms) ++ (objsOf ms ++ E)) := by
  refine DC.of dom_Store_Copy.ok (by simp) ?_
  have hol : (objsOf ms).length = ms.length := by simp [objsOf]
  have hrl := rowsOf_len ms
  obtain ⟨n, hn⟩ : ∃ n, n = 3 + (objsOf ms).length := ⟨_, rfl⟩
  have hn' : 3 + ms.length = n := by omega
  rw [hn']
  obtain ⟨R, hR⟩ : ∃ R, R = rowsOf' ms := ⟨_, rfl⟩
  obtain ⟨rf, hrf⟩ : ∃ rf, rf = List.range' 3 ms.length := ⟨_, rfl⟩
  rw [← hR, ← hrf]
  rw [← hR] at hrl
  have z0 := fun L => Zn0 (s := s) (rf := rf) (R := R) hn L
  have z1 := fun L c => Zn (s := s) (rf := rf) (R := R) hn L c
  have z2 := fun L o => Zs0 (s := s) (rf := rf) (R := R) hn L o
  have z3 := fun L c o => Zs (s := s) (rf := rf) (R := R) hn L c o
  have z5 := fun L c h2 => Zg (s := s) (rf := rf) (R := R) hn L c h2
  have z6 := fun L h2 => Zg0 (s := s) (rf := rf) (R := R) hn L h2
  have z4 := fun L => Zl (s := s) (rf := rf) (R := R) hn L
  generalize hEs : objsOf ms = Es at *
  unfold dom_Store_Copy.ir
  refine vc_cut (At [(0, .ptr 0 1 0 0)] (Z s rf R ++ Es)) (by simp [At]) ?_
  rintro ⟨sl, hp, bs⟩ ⟨rfl, h⟩
  simp only [sls_cons, sls_one] at h
  have z40 : (Z s rf R ++ Es).length = n := by simpa using z4 []
  refine vc_cut (At [(0, .ptr 0 1 0 0), (3, .ptr n 1 0 0)] (Z s rf R ++ (Es ++ [.mem false [n + 1] [[.own (n + 1) 4 0 s.length s.length, nilS]], .mem false [] (s.map Dom.row)]))) ?_ ?_
  · simp [h, z40, V.idsL, V.ids, z0, z1, z2, z3, z4, z5, z6]
    refine callm_go (cloneD_spec s hs) [1] ?_ ?_ ?_ ?_ (by simp) ?_
    · simp [h, V.idsL, V.ids, UE1_clos]
    · simp [h, V.idsL, V.ids, UE1_clos, O.refs]
      omega
    · simp [h, V.idsL, V.ids, UE1_clos]
    · exact Z_sub1
    · rw [Z_merge1]
      simp [z40, z0, z1, z2, z3, z4, z5, z6, h, At]
  clear h
  rintro ⟨sl, hp, bs⟩ ⟨rfl, h⟩
  simp only [sls_cons, sls_one] at h
  obtain ⟨k, hk⟩ : ∃ k, k = ms.length := ⟨_, rfl⟩
  refine vc_cut (fun st => ∃ E, CI s ms n k E ∧ At [(3, .ptr n 1 0 0)] (Z s rf R ++ (Es ++ E)) st) ?_ ?_
  · refine vc_cut (At [(3, .ptr n 1 0 0), (16, .own 2 1 0 k k), (17, V.i k), (18, V.i 0)] (Z s rf R ++ (Es ++ [.mem false [n + 1] [[.own (n + 1) 4 0 s.length s.length, nilS]], .mem false [] (s.map Dom.row)]))) (by simp [h, At, hrl, hk]) ?_
    clear h
    rintro ⟨sl, hp, bs⟩ ⟨rfl, h⟩
    simp only [sls_cons, sls_one] at h
    refine vc_block_of (vc_upto (n + 3 * k + 10) (by simp [z4]; omega) k (fun i st => ∃ E, CI s ms n i E ∧ At [(3, .ptr n 1 0 0), (16, .own 2 1 0 k k), (17, V.i k), (18, V.i i)] (Z s rf R ++ (Es ++ E)) st) ⟨_, .zero rfl, rfl, by simpa using h⟩ ?_)
    clear h
    rintro i ⟨sl, hp, bs⟩ hi ⟨E, hE, rfl, h⟩
    simp only [sls_cons, sls_one] at h
    unfold dom_Store_Copy.b0
    by_cases hil : i < k
    · obtain ⟨L, hLi⟩ : ∃ L, ms[i]? = some L := ⟨_, List.getElem?_eq_getElem (by omega)⟩
      have hLl := hL L (List.mem_of_getElem? hLi)
      have hRi : R[i]? = some [.own (3 + i) 4 0 L.length L.length] := by rw [hR]; exact rowsOf_get hLi
      have hsrc : ∀ X : Heap, (Z s rf R ++ (Es ++ X))[3 + i]? = some (.tree [] (L.map domCe)) := by
        intro X
        have := objsOf_get hLi
        rw [hEs] at this
        rw [List.getElem?_append_right (by simp [Z]), List.getElem?_append_left (by simp [Z]; omega)]
        simpa [Z] using this
      have hsrc' : ∀ (X : Heap) (h2), (Z s rf R ++ (Es ++ X))[3 + i]'h2 = .tree [] (L.map domCe) := by
        intro X h2
        have := hsrc X
        rw [List.getElem?_eq_getElem h2] at this
        exact Option.some.inj this
      have hw : IntKind.i64.wrap ((i : Int) + 1) = ((i + 1 : Nat) : Int) := by rw [wrap64] <;> omega
      refine vc_cut (At [(3, .ptr n 1 0 0), (16, .own 2 1 0 k k), (17, V.i k), (18, V.i i), (19, .bool true)] (Z s rf R ++ (Es ++ E))) (by simp [h, At, hil]) ?_
      clear h
      rintro ⟨sl, hp, bs⟩ ⟨rfl, h⟩
      simp only [sls_cons, sls_one] at h
      refine vc_cut (At [(3, .ptr n 1 0 0), (16, .own 2 1 0 k k), (17, V.i k), (18, V.i i)] (Z s rf R ++ (Es ++ E))) (by simp [h, At]) ?_
      clear h
      rintro ⟨sl, hp, bs⟩ ⟨rfl, h⟩
      simp only [sls_cons, sls_one] at h
      refine vc_cut (fun st => ∃ E, CI s ms n (i + 1) E ∧ At [(3, .ptr n 1 0 0), (16, .own 2 1 0 k k), (17, V.i k), (18, V.i i)] (Z s rf R ++ (Es ++ E)) st) (vc_block_of ?_) ?_
      · refine vc_cut (At [(3, .ptr n 1 0 0), (5, .own (3 + i) 4 0 L.length L.length), (16, .own 2 1 0 k k), (17, V.i k), (18, V.i i)] (Z s rf R ++ (Es ++ E))) ?_ ?_
        · have hlt : i < R.length := by omega
          have hRi' : R[i] = [.own (3 + i) 4 0 L.length L.length] := by rw [List.getElem?_eq_getElem hlt] at hRi; exact Option.some.inj hRi
          simp [h, At, hil, hRi', hlt]
          omega
        clear h
        rintro ⟨sl, hp, bs⟩ ⟨rfl, h⟩
        simp only [sls_cons, sls_one] at h
        have hoid : (3 + i) < n := by omega
        cases hE with
        | zero hi0 =>
          simp [h, z0, z1, z2, z3, z4, z5, z6]
          refine calla_one (cloneT_spec L hLl) (3 + i) ?_ (hsrc _) (treeD_clo L) (treeD_clo L) (by simp [memD_clo]) ?_ ?_ (by simp) ?_
          · simp [h, V.idsL, V.ids, addAll]
          · simp [h, V.oid]
            omega
          · simp [h, V.idsL, V.ids]
          · rw [set_same (hsrc _)]
            simp [h, z0, z1, z2, z3, z4, z5, z6, Nat.add_assoc]
            subst hi0
            refine ⟨_, .some (T := [.mem false [] (L.map Dom.row)]) (by omega) rfl (fun j M hj hM => ?_) (G := .mem false [n + 4] [[.own (n + 4) 4 0 L.length L.length]]) (rf := [n + 1, n + 3]) (rf' := [n + 4]) (by simp) (by simp), ?_, ?_⟩
            · obtain rfl : j = 0 := by omega
              rw [hLi] at hM
              cases hM
              rfl
            · rw [cR_succ _ hLi]
              rfl
            · simp
        | some hi hl hk hr hr' =>
          rename_i rf1 rf2 G T
          simp [h, z0, z1, z2, z3, z4, z5, z6]
          refine calla_one (cloneT_spec L hLl) (3 + i) ?_ (hsrc _) (treeD_clo L) (treeD_clo L) (by simp [memD_clo]) ?_ ?_ (by simp) ?_
          · simp [h, V.idsL, V.ids, addAll]
          · simp [h, V.oid]
            omega
          · simp [h, V.idsL, V.ids]
          · rw [set_same (hsrc _)]
            have hcl : (cR (n + 4) ms i).length = i := cR_len _ (by omega)
            simp [h, z0, z1, z2, z3, z4, z5, z6, Nat.add_assoc, hcl]
            have hTl : n + (T.length + 6) = n + 4 + 3 * i := by omega
            rw [hTl]
            refine ⟨by omega, _, .some (G := G) (rf := if n + 3 ∈ rf1 then rf1 else rf1 ++ [n + 3]) (rf' := if n + 4 + 3 * i ∈ rf2 then rf2 else rf2 ++ [n + 4 + 3 * i])
              (T := T ++ [.mem false [n + 4 + 3 * i] [[.own (n + 4 + 3 * i) 4 0 L.length L.length]], .res, .mem false [] (L.map Dom.row)]) (by omega) (by simp; omega) (fun j M hj hM => ?_) (fun r hr0 => ?_) (fun r hr0 => ?_), ?_, ?_⟩
            · by_cases hji : j = i
              · subst hji
                rw [hLi] at hM
                cases hM
                rw [List.getElem?_append_right (by omega)]
                have : 3 * j - T.length = 2 := by omega
                rw [this]; rfl
              · have := hk j M (by omega) hM
                rw [List.getElem?_append_left (lt_of_get this)]
                exact this
            · split at hr0
              · have := hr r hr0; omega
              · rw [List.mem_append] at hr0
                rcases hr0 with hr0 | hr0
                · have := hr r hr0; omega
                · simp at hr0; omega
            · split at hr0
              · have := hr' r hr0; omega
              · rw [List.mem_append] at hr0
                rcases hr0 with hr0 | hr0
                · have := hr' r hr0; omega
                · simp at hr0; omega
            · rw [cR_succ _ hLi]
            · simp
      · clear h
        rintro ⟨sl, hp, bs⟩ ⟨E, hE, rfl, h⟩
        simp only [sls_cons, sls_one] at h
        have hl2 := hE.len
        have hZt : (Z s rf R).map (limO (n + 3 * k + 10)) = Z s rf R := by
          simp only [Z, List.map_cons, List.map_nil]
          rw [limO_of (by simp [O.refs] <;> omega), limO_of (by simp [O.refs]), limO_of fun r hr => by
            have hr : r ∈ rf := hr
            rw [hrf, List.mem_range'_1] at hr; omega]
        have hEt : Es.map (limO (n + 3 * k + 10)) = Es := by
          rw [← hEs]
          simp [objsOf, Function.comp_def, limO_of, O.refs]
        have hall : List.take (n + 3 * k + 10) (Z s rf R ++ (Es ++ E.map (limO (n + 3 * k + 10)))) = Z s rf R ++ (Es ++ E.map (limO (n + 3 * k + 10))) := List.take_of_length_le (by rw [z4]; simp; omega)
        simp [h, hw, hil, hZt, hEt, hall]
        refine ⟨_, hE.trim (by omega), rfl, ?_⟩
        simp
        omega
    · have hik : i = k := by omega
      subst hik
      refine vc_cut (At [(3, .ptr n 1 0 0), (19, .bool false)] (Z s rf R ++ (Es ++ E))) (by simp [h, At]) ?_
      clear h
      rintro ⟨sl, hp, bs⟩ ⟨rfl, h⟩
      simp only [sls_cons, sls_one] at h
      simp [h, At]
      exact hE
  · clear h
    rintro ⟨sl, hp, bs⟩ ⟨E, hE, rfl, h⟩
    simp only [sls_cons, sls_one] at h
    simp [h, dom_Store_Copy.rs]
    rw [← hk]
    exact hE
end Go.Abs.G


namespace Go.Abs.G
open Go.Proofs
set_option linter.unusedVariables false
set_option linter.unusedSimpArgs false

theorem close_storeO {w : World} {β : Nat → Hd} {F : Nat → Prop} {H : Heap} {s : List Dom} {T : List (List Ce)} {rf rb : List Nat} {p a b : Nat} (hk : HOK w.heap H β F)
    (h0 : H[p]? = some (.mem false rf [[.own a 4 0 s.length s.length, .own b 1 0 T.length T.length]])) (ha : H[a]? = some (.mem false [] (s.map Dom.row))) (hb : H[b]? = some (.tree rb T)) (hT : Ce.idsR T = [])
    (na : a ≠ p) (nb : b ≠ p) (nab : a ≠ b) (hlo : (β p).lo = 0) : ∃ β' H2, Adv F w H β w H2 β' ∧ H2[p]? = some (St1 s T) ∧ H2.length = H.length ∧ ∀ j, j ≠ p → j ≠ a → j ≠ b → H2[j]? = H[j]? := by
  obtain ⟨β1, a1⟩ := adv_toTree hk h0 hlo
  generalize hP : O.tree rf (flatC [[.own a 4 0 s.length s.length, .own b 1 0 T.length T.length]]) = P at a1
  have p1 : (H.set p P)[p]? = some (.tree rf [[.v (.own a 4 0 s.length s.length), .v (.own b 1 0 T.length T.length)]]) := by rw [get_set h0, ← hP]; rfl
  have q1 : (H.set p P)[a]? = some (.mem false [] (s.map Dom.row)) := by rw [getElem?_set_ne' na]; exact ha
  have r1 : (H.set p P)[b]? = some (.tree rb T) := by rw [getElem?_set_ne' nb]; exact hb
  have la : (β1 a).lo = 0 := lo_of_tree (i := 0) (j := 0) a1.hok p1 rfl rfl (by unfold hdOf; rw [q1]; simp)
  have hl1 : (H.set p P).length = H.length := List.length_set
  have o1 : ∀ j, j ≠ p → j ≠ a → j ≠ b → (H.set p P)[j]? = H[j]? := fun j h1 h2 h3 => getElem?_set_ne' h1
  generalize H.set p P = H1 at a1 p1 q1 r1 hl1 o1
  obtain ⟨β2, a2⟩ := adv_toTree a1.hok q1 la
  rw [← domCe_flat] at a2
  have p2 : (H1.set a (.tree [] (s.map domCe)))[p]? = some (.tree rf [[.v (.own a 4 0 s.length s.length), .v (.own b 1 0 T.length T.length)]]) := by rw [getElem?_set_ne' (Ne.symm na)]; exact p1
  have q2 : (H1.set a (.tree [] (s.map domCe)))[a]? = some (.tree [] (s.map domCe)) := get_set q1
  have r2 : (H1.set a (.tree [] (s.map domCe)))[b]? = some (.tree rb T) := by rw [getElem?_set_ne' (Ne.symm nab)]; exact r1
  have hl2 : (H1.set a (.tree [] (s.map domCe))).length = H.length := by rw [List.length_set]; exact hl1
  have o2 : ∀ j, j ≠ p → j ≠ a → j ≠ b → (H1.set a (.tree [] (s.map domCe)))[j]? = H[j]? := fun j h1 h2 h3 => (getElem?_set_ne' h2).trans (o1 j h1 h2 h3)
  generalize H1.set a (.tree [] (s.map domCe)) = H2 at a2 p2 q2 r2 hl2 o2
  obtain ⟨β3, a3⟩ := adv_pack (i := 0) (j := 0) a2.hok p2 q2 (Ne.symm na) rfl rfl (by simp)
  generalize hP3 : O.tree (rf ++ []) _ = P3 at a3
  have p3 : ((H2.set a O.dead).set p P3)[p]? = some (.tree (rf ++ []) [[.n 4 (s.map domCe), .v (.own b 1 0 T.length T.length)]]) := by rw [get_set (x := _) (by rw [getElem?_set_ne' (Ne.symm na)]; exact p2), ← hP3]; rfl
  have r3 : ((H2.set a O.dead).set p P3)[b]? = some (.tree rb T) := by rw [getElem?_set_ne' nb, getElem?_set_ne' (Ne.symm nab)]; exact r2
  have hl3 : ((H2.set a O.dead).set p P3).length = H.length := by rw [List.length_set, List.length_set]; exact hl2
  have o3 : ∀ j, j ≠ p → j ≠ a → j ≠ b → ((H2.set a O.dead).set p P3)[j]? = H[j]? := fun j h1 h2 h3 => (getElem?_set_ne' h1).trans ((getElem?_set_ne' h2).trans (o2 j h1 h2 h3))
  generalize (H2.set a O.dead).set p P3 = H3 at a3 p3 r3 hl3 o3
  obtain ⟨β4, a4⟩ := adv_pack (i := 0) (j := 1) a3.hok p3 r3 (Ne.symm nb) rfl rfl rfl
  generalize hP4 : O.tree (rf ++ [] ++ rb) _ = P4 at a4
  have p4 : ((H3.set b O.dead).set p P4)[p]? = some (.tree (rf ++ [] ++ rb) [[.n 4 (s.map domCe), .n 1 T]]) := by rw [get_set (x := _) (by rw [getElem?_set_ne' (Ne.symm nb)]; exact p3), ← hP4]; rfl
  have hl4 : ((H3.set b O.dead).set p P4).length = H.length := by rw [List.length_set, List.length_set]; exact hl3
  have o4 : ∀ j, j ≠ p → j ≠ a → j ≠ b → ((H3.set b O.dead).set p P4)[j]? = H[j]? := fun j h1 h2 h3 => (getElem?_set_ne' h1).trans ((getElem?_set_ne' h3).trans (o3 j h1 h2 h3))
  generalize (H3.set b O.dead).set p P4 = H4 at a4 p4 hl4 o4
  obtain ⟨β5, a5⟩ := adv_refsT (refs' := []) a4.hok p4 (by simp [Ce.idsR, Ce.idsL, Ce.ids, domCe_ids, hT])
  exact ⟨β5, _, a1.trans (a2.trans (a3.trans (a4.trans a5))), get_set p4, by rw [List.length_set]; exact hl4, fun j h1 h2 h3 => (getElem?_set_ne' h1).trans (o4 j h1 h2 h3)⟩

/-- A store that lies open, its marks too, as one object. -/
theorem close_gen {w : World} {β : Nat → Hd} {F : Nat → Prop} {H : Heap} {vs : Array Value} {xs : List V} {q : Nat} {s : List Dom} {ms : List (List Dom)} {rf rb : List Nat} {p a b : Nat} {K : List Kid} (hk : HOK w.heap H β F)
    (hr : RVs (cx w.heap H β F) vs xs) (hq : xs[q]? = some (.ptr p 1 0 0))
    (h0 : H[p]? = some (.mem false rf [[.own a 4 0 s.length s.length, .own b 1 0 ms.length ms.length]])) (ha : H[a]? = some (.mem false [] (s.map Dom.row)))
    (hb : H[b]? = some (.mem false rb (K.map fun c => [.own c.id c.es 0 c.L.length c.L.length]))) (hK : K.map Kid.L = ms.map fun L => L.map domCe) (hes : ∀ c ∈ K, c.es = 4) (hc : ∀ c ∈ K, H[c.id]? = some (.tree c.refs c.L))
    (hnd : (K.map Kid.id).Nodup) (kp : p ∉ K.map Kid.id) (ka : a ∉ K.map Kid.id) (kb : b ∉ K.map Kid.id)
    (na : a ≠ p) (nb : b ≠ p) (nab : a ≠ b) : ∃ β' H2, Adv F w H β w H2 β' ∧ H2[p]? = some (St1 s (mT ms)) ∧ H2.length = H.length ∧ ∀ j, j ≠ p → j ≠ a → j ≠ b → j ∉ K.map Kid.id → H2[j]? = H[j]? := by
  have hKl : K.length = ms.length := by have := congrArg List.length hK; simpa using this
  have lp := lo_arg hr hq (by unfold hdOf; rw [h0]; rfl)
  have lb : (β b).lo = 0 := lo_of_cell (p := p) (c := b) (i := 0) (j := 1) hk h0 lp rfl rfl (by unfold hdOf; rw [hb]; simp [hKl])
  obtain ⟨β1, a1⟩ := adv_toTree hk hb lb
  have hfl : flatC (K.map fun c => [.own c.id c.es 0 c.L.length c.L.length]) = K.map Kid.own := by simp [flatC, Kid.own, Function.comp_def]
  rw [hfl] at a1
  obtain ⟨β2, H2, rf2, a2, b1, b2, b3⟩ := adv_packAll (id := b) K [] _ β1 rb a1.hok (get_set hb) (fun c hcm => by
    have hne : c.id ≠ b := fun e => kb (e ▸ List.mem_map_of_mem hcm)
    exact ⟨by rw [getElem?_set_ne' hne]; exact hc c hcm, hne⟩) hnd
  have hT : ([] ++ K).map Kid.nest = mT ms := by
    have h1 : K.map Kid.nest = (K.map Kid.L).map fun L => [Ce.n 4 L] := by
      rw [List.map_map]
      exact List.map_congr_left fun c hcm => by simp [Kid.nest, hes c hcm]
    rw [List.nil_append, h1, hK]; simp [mT, Function.comp_def]
  rw [hT] at b1
  have hTl : (mT ms).length = ms.length := by simp [mT]
  obtain ⟨β3, H3, a3, c1, c2, c3⟩ := close_storeO (p := p) (a := a) (b := b) (s := s) (T := mT ms) (rf := rf) a2.hok (by rw [b3 p (Ne.symm nb) kp, getElem?_set_ne' (Ne.symm nb), hTl]; exact h0) (by rw [b3 a nab ka, getElem?_set_ne' nab]; exact ha) b1 (mT_ids ms) na nb nab
    (lo_arg (hr.mono (a1.trans a2).le) hq (by unfold hdOf; rw [b3 p (Ne.symm nb) kp, getElem?_set_ne' (Ne.symm nb), h0]; rfl))
  refine ⟨β3, H3, a1.trans (a2.trans a3), c1, by rw [c2, b2, List.length_set], fun j h1 h2 h3 h4 => ?_⟩
  rw [c3 j h1 h2 h3, b3 j h3 h4, getElem?_set_ne' h3]
end Go.Abs.G


namespace Go.Abs.G
open Go.Proofs
set_option linter.unusedVariables false
set_option linter.unusedSimpArgs false

theorem cR_kids (b : Nat) (ms : List (List Dom)) : cR b ms ms.length = ((ms.zipIdx.map fun p => (⟨b + 3 * p.2, 4, [], p.1.map domCe⟩ : Kid)).map fun c => [V.own c.id c.es 0 c.L.length c.L.length]) := by
  simp [cR, Function.comp_def]

theorem zipIdx_ids (b : Nat) : ∀ (ms : List (List Dom)) (k : Nat), ((ms.zipIdx k).map fun p => b + 3 * p.2).Nodup
  | [], k => by simp
  | L :: ms, k => by
    rw [List.zipIdx_cons, List.map_cons, List.nodup_cons]
    refine ⟨fun h => ?_, zipIdx_ids b ms (k + 1)⟩
    obtain ⟨p, hp, he⟩ := List.mem_map.1 h
    have := List.le_snd_of_mem_zipIdx hp
    simp only at he
    omega

theorem kids_mapL (es : Nat) : ∀ (l : List (List (List Ce))) (n : Nat), (kids es n l).map Kid.L = l
  | [], n => rfl
  | L :: l, n => by simp [kids, kids_mapL es l (n + 1)]
theorem kidsOf_L (ms : List (List Dom)) : (kidsOf ms).map Kid.L = ms.map fun L => L.map domCe := kids_mapL 4 _ 3
theorem zipIdx_fst {α β : Type} (f : α → β) : ∀ (l : List α) (k : Nat), (l.zipIdx k).map (fun p => f p.1) = l.map f
  | [], k => rfl
  | a :: l, k => by simp [List.zipIdx_cons, zipIdx_fst f l (k + 1)]

theorem copy_packed {s : List Dom} {ms : List (List Dom)} (hs : s.length ≤ 64) (hm : ms.length ≤ 1000000) (hL : ∀ L ∈ ms, L.length ≤ 64) :
    DC Tryz.prog dom_Store_Copy.id [.ptr 0 1 0 0] [St1 s (mT ms)] (fun r H => r = .ptr 1 1 0 0 ∧ H = [St1 s (mT ms), St1 s (mT ms)]) := by
  have hcl : ∀ f, O.ren f (St1 s (mT ms)) = St1 s (mT ms) := fun f => by
    simp [St1, O.ren, Ce.renR, Ce.renL, Ce.ren, domCe_ren, mT_ren]
  refine DC.picks (Q := fun r H => r = .ptr (3 + ms.length) 1 0 0 ∧ H[0]? = some (St1 s (mT ms)) ∧ H[3 + ms.length]? = some (St1 s (mT ms))) ?_ ?_
  rotate_left
  · rintro r H ⟨rfl, h0, h1⟩
    refine ⟨[0, 3 + ms.length], ⟨by simp; omega, fun i hi => ?_, fun i hi => ?_, fun i hi k hk => ?_⟩, by simp, by simp, ?_, ?_⟩
    · simp only [List.mem_cons, List.not_mem_nil, or_false] at hi
      rcases hi with rfl | rfl
      · exact lt_of_get h0
      · exact lt_of_get h1
    · simp only [List.mem_cons, List.not_mem_nil, or_false] at hi
      rcases hi with rfl | rfl
      · rw [getD_some h0]; simp [St1]
      · rw [getD_some h1]; simp [St1]
    · simp only [List.mem_cons, List.not_mem_nil, or_false] at hi
      rcases hi with rfl | rfl
      · rw [getD_some h0] at hk; simp [St1, O.refs] at hk
      · rw [getD_some h1] at hk; simp [St1, O.refs] at hk
    · simp only [V.ren, idx, List.idxOf_cons]
      have : (0 == 3 + ms.length) = false := by simp; omega
      simp [this]
    · simp only [sub, List.map_cons, List.map_nil, getD_some h0, getD_some h1, hcl]
  refine DC.pre ((open_store (mT_ids ms)).trans step_open) (DC.post' (copy_open hs hm hL) ?_)
  rintro x H1 ⟨rfl, E, hE, rfl⟩ w β F vs hk hr
  have hol : (objsOf ms).length = ms.length := by simp [objsOf]
  obtain ⟨n, hn⟩ : ∃ n, n = 3 + (objsOf ms).length := ⟨_, rfl⟩
  have hn' : 3 + ms.length = n := by omega
  rw [hn'] at hE hr ⊢
  have z1 := fun L c => Zn (s := s) (rf := List.range' 3 ms.length) (R := rowsOf' ms) hn L c
  have z0 := fun L => Zn0 (s := s) (rf := List.range' 3 ms.length) (R := rowsOf' ms) hn L
  generalize hH : Z s (List.range' 3 ms.length) (rowsOf' ms) ++ (objsOf ms ++ E) = H at hk hr ⊢
  have g0 : H[0]? = some (.mem false [1, 2] [[.own 1 4 0 s.length s.length, .own 2 1 0 ms.length ms.length]]) := by rw [← hH, Z_0, rowsOf_len]
  have g1 : H[1]? = some (.mem false [] (s.map Dom.row)) := by rw [← hH, Z_1]
  have g2 : H[2]? = some (.mem false (List.range' 3 ms.length) (rowsOf' ms)) := by rw [← hH, Z_2]
  have gk : ∀ i L, ms[i]? = some L → H[3 + i]? = some (.tree [] (L.map domCe)) := fun i L h => by
    have hi := lt_of_get h
    rw [← hH, List.getElem?_append_right (by simp), List.getElem?_append_left (by simp; omega)]
    have : 3 + i - (Z s (List.range' 3 ms.length) (rowsOf' ms)).length = i := by simp
    rw [this]; exact objsOf_get h
  have ge : ∀ c, H[n + c]? = E[c]? := fun c => by rw [← hH]; exact z1 E c
  -- the original, when the copy is told
  have orig : ∀ {β : Nat → Hd} {H2 : Heap}, HOK w.heap H2 β F → RVs (cx w.heap H2 β F) vs [.ptr n 1 0 0, .ptr 0 1 0 0] → (∀ j, j < n → H2[j]? = H[j]?) →
      ∃ β' H3, Adv F w H2 β w H3 β' ∧ H3[0]? = some (St1 s (mT ms)) ∧ ∀ j, n ≤ j → H3[j]? = H2[j]? := fun {β H2} hk hr hj => by
    have hids : (kidsOf ms).map Kid.id = List.range' 3 ms.length := by unfold kidsOf; rw [kids_ids, List.length_map]
    obtain ⟨β', H3, a, b1, b2, b3⟩ := close_gen (q := 1) (p := 0) (a := 1) (b := 2) (s := s) (ms := ms) (K := kidsOf ms) hk hr rfl ((hj 0 (by omega)).trans g0) ((hj 1 (by omega)).trans g1) ((hj 2 (by omega)).trans g2)
      (kidsOf_L ms) (fun c hc => (kids_mem 4 3 _ c hc).choose_spec.2.2.2) (fun c hc => by
        obtain ⟨i, h1, h2, h3, h4⟩ := kids_mem 4 3 _ c hc
        rw [List.getElem?_map, Option.map_eq_some_iff] at h1
        obtain ⟨L, h1, h5⟩ := h1
        have := lt_of_get h1
        rw [h2, h3, ← h5, hj _ (by omega)]
        exact gk i L h1) (by rw [hids]; exact List.nodup_range') (by rw [hids, List.mem_range'_1]; omega) (by rw [hids, List.mem_range'_1]; omega) (by rw [hids, List.mem_range'_1]; omega) (by simp) (by simp) (by simp)
    exact ⟨β', H3, a, b1, fun j h => b3 j (by omega) (by omega) (by omega) (by rw [hids, List.mem_range'_1]; omega)⟩
  have hx : (Z s (List.range' 3 ms.length) (rowsOf' ms)).length = 3 := rfl
  -- the copy
  have copy : ∃ β' H2, Adv F w H β w H2 β' ∧ H2[n]? = some (St1 s (mT ms)) ∧ ∀ j, j < n → H2[j]? = H[j]? := by
    cases hE with
    | zero hi =>
      obtain rfl : ms = [] := List.length_eq_zero_iff.1 hi
      have e0 : H[n]? = some (.mem false [n + 1] [[.own (n + 1) 4 0 s.length s.length, nilS]]) := ge 0
      have e1 : H[n + 1]? = some (.mem false [] (s.map Dom.row)) := ge 1
      have lp := lo_arg (i := 0) hr rfl (by unfold hdOf; rw [e0]; rfl)
      obtain ⟨β1, a1⟩ := adv_toTree hk e0 lp
      have f0 : (H.set n (.tree [n + 1] (flatC [[.own (n + 1) 4 0 s.length s.length, nilS]])))[n]? = some (.tree [n + 1] [[.v (.own (n + 1) 4 0 s.length s.length), .v nilS]]) := by rw [get_set e0]; rfl
      have f1 : (H.set n (.tree [n + 1] (flatC [[.own (n + 1) 4 0 s.length s.length, nilS]])))[n + 1]? = some (.mem false [] (s.map Dom.row)) := by rw [getElem?_set_ne' (by omega)]; exact e1
      have fo : ∀ j, j < n → (H.set n (.tree [n + 1] (flatC [[.own (n + 1) 4 0 s.length s.length, nilS]])))[j]? = H[j]? := fun j h => getElem?_set_ne' (by omega)
      generalize H.set n (.tree [n + 1] (flatC [[.own (n + 1) 4 0 s.length s.length, nilS]])) = H1 at a1 f0 f1 fo
      have la : (β1 (n + 1)).lo = 0 := lo_of_tree (i := 0) (j := 0) a1.hok f0 rfl rfl (by unfold hdOf; rw [f1]; simp)
      obtain ⟨β2, a2⟩ := adv_toTree a1.hok f1 la
      rw [← domCe_flat] at a2
      have g0 : (H1.set (n + 1) (.tree [] (s.map domCe)))[n]? = some (.tree [n + 1] [[.v (.own (n + 1) 4 0 s.length s.length), .v nilS]]) := by rw [getElem?_set_ne' (by omega)]; exact f0
      have g1 : (H1.set (n + 1) (.tree [] (s.map domCe)))[n + 1]? = some (.tree [] (s.map domCe)) := get_set f1
      have go : ∀ j, j < n → (H1.set (n + 1) (.tree [] (s.map domCe)))[j]? = H[j]? := fun j h => (getElem?_set_ne' (by omega)).trans (fo j h)
      generalize H1.set (n + 1) (.tree [] (s.map domCe)) = H2 at a2 g0 g1 go
      obtain ⟨β3, a3⟩ := adv_pack (i := 0) (j := 0) a2.hok g0 g1 (by omega) rfl rfl (by simp)
      generalize hP : O.tree ([n + 1] ++ []) _ = P at a3
      have k0 : ((H2.set (n + 1) .dead).set n P)[n]? = some (.tree [n + 1] [[.n 4 (s.map domCe), .v nilS]]) := by rw [get_set (x := _) (by rw [getElem?_set_ne' (by omega)]; exact g0), ← hP]; rfl
      have ko : ∀ j, j < n → ((H2.set (n + 1) .dead).set n P)[j]? = H[j]? := fun j h => (getElem?_set_ne' (by omega)).trans ((getElem?_set_ne' (by omega)).trans (go j h))
      generalize (H2.set (n + 1) .dead).set n P = H3 at a3 k0 ko
      obtain ⟨β4, a4⟩ := adv_nilcell (i := 0) (j := 1) (es := 1) a3.hok k0 rfl rfl
      have l0 := get_set (y := O.tree [n + 1] ([[.n 4 (s.map domCe), .v nilS]].set 0 ([.n 4 (s.map domCe), .v nilS].set 1 (.n 1 [])))) k0
      obtain ⟨β5, a5⟩ := adv_refsT (refs' := []) a4.hok l0 (by simp [Ce.idsR, Ce.idsL, Ce.ids, domCe_ids])
      refine ⟨β5, _, a1.trans (a2.trans (a3.trans (a4.trans a5))), get_set l0, fun j h => ?_⟩
      rw [getElem?_set_ne' (by omega), getElem?_set_ne' (by omega)]
      exact ko j h
    | some hi hl hkk hr1 hr2 =>
      rename_i rf1 rf2 G T
      have e0 : H[n]? = some (.mem false rf1 [[.own (n + 1) 4 0 s.length s.length, .own (n + 3) 1 0 ms.length ms.length]]) := ge 0
      have e1 : H[n + 1]? = some (.mem false [] (s.map Dom.row)) := ge 1
      have e3 : H[n + 3]? = some (.mem false rf2 (cR (n + 4) ms ms.length)) := ge 3
      have e4 : ∀ j L, ms[j]? = some L → H[n + 4 + 3 * j]? = some (.mem false [] (L.map Dom.row)) := fun j L h => by
        have h1 : n + 4 + 3 * j = n + (3 * j + 4) := by omega
        rw [h1, ge]
        exact hkk j L (lt_of_get h) h
      have lp := lo_arg (i := 0) hr rfl (by unfold hdOf; rw [e0]; rfl)
      have lb : (β (n + 3)).lo = 0 := lo_of_cell (p := n) (c := n + 3) (i := 0) (j := 1) hk e0 lp rfl rfl (by unfold hdOf; rw [e3]; simp [cR_len])
      obtain ⟨K, hK⟩ : ∃ K : List Kid, K = ms.zipIdx.map fun p => (⟨n + 4 + 3 * p.2, 4, [], p.1.map domCe⟩ : Kid) := ⟨_, rfl⟩
      have hcK := cR_kids (n + 4) ms
      rw [← hK] at hcK
      obtain ⟨β1, H1, a1, k1, k2, k3⟩ := adv_treeAll (ms.zipIdx.map fun p => (n + 4 + 3 * p.2, p.1.map Dom.row)) H β hk (fun c hc => by
        obtain ⟨p, hp, rfl⟩ := List.mem_map.1 hc
        have hp' := List.mem_zipIdx_iff_getElem?.1 hp
        refine ⟨e4 _ _ hp', ?_⟩
        refine lo_of_cell (p := n + 3) (i := p.2) (j := 0) (k := p.1.length) (es := 4) (row := [.own (n + 4 + 3 * p.2) 4 0 p.1.length p.1.length]) hk e3 lb ?_ rfl (by unfold hdOf; rw [e4 _ _ hp']; simp)
        simp [cR, hp']) (by
          rw [List.map_map]; exact zipIdx_ids (n + 4) ms 0)
      have hid2 : (ms.zipIdx.map fun p => (n + 4 + 3 * p.2, p.1.map Dom.row)).map (·.1) = K.map Kid.id := by rw [hK]; simp [Function.comp_def]
      rw [hid2] at k3
      have kin : ∀ j, j < n + 4 → j ∉ K.map Kid.id := fun j hj h => by
        rw [hK, List.map_map] at h
        obtain ⟨p, hp, rfl⟩ := List.mem_map.1 h
        simp at hj
        omega
      obtain ⟨β2, H2, a2, c1, c2, c3⟩ := close_gen (q := 0) (p := n) (a := n + 1) (b := n + 3) (s := s) (ms := ms) (K := K) a1.hok (hr.mono a1.le) rfl ((k3 _ (kin _ (by omega))).trans e0) ((k3 _ (kin _ (by omega))).trans e1) ((k3 _ (kin _ (by omega))).trans (hcK ▸ e3))
        (by rw [hK, List.map_map]; exact zipIdx_fst (fun L => L.map domCe) ms 0) (fun c hc => by rw [hK] at hc; obtain ⟨p, _, rfl⟩ := List.mem_map.1 hc; rfl) (fun c hc => by
          rw [hK] at hc
          obtain ⟨p, hp, rfl⟩ := List.mem_map.1 hc
          have := k1 (n + 4 + 3 * p.2, p.1.map Dom.row) (List.mem_map_of_mem (f := fun p => (n + 4 + 3 * p.2, p.1.map Dom.row)) hp)
          rw [← domCe_flat] at this
          exact this) (by rw [← hid2, List.map_map]; exact zipIdx_ids (n + 4) ms 0) (kin _ (by omega)) (kin _ (by omega)) (kin _ (by omega)) (by omega) (by omega) (by omega)
      exact ⟨β2, H2, a1.trans a2, c1, fun j hj => (c3 j (by omega) (by omega) (by omega) (kin _ (by omega))).trans (k3 j (kin _ (by omega)))⟩
  obtain ⟨β1, H1, a1, b1, b2⟩ := copy
  obtain ⟨β2, H2, a2, d1, d2⟩ := orig a1.hok (hr.mono a1.le) b2
  exact ⟨β2, H2, a1.trans a2, rfl, d1, by rw [d2 n (Nat.le_refl _)]; exact b1⟩
end Go.Abs.G


namespace Go.Abs.G
open Go.Proofs
set_option linter.unusedVariables false
set_option linter.unusedSimpArgs false

/-- A store that lies open somewhere. -/
structure Uat (H : Heap) (s : List Dom) (T : List (List Ce)) (p a b : Nat) : Prop where
  h0 : H[p]? = some (.mem false [a, b] [[.own a 4 0 s.length s.length, .own b 1 0 T.length T.length]])
  h1 : H[a]? = some (.mem false [] (s.map Dom.row))
  h2 : H[b]? = some (.tree [] T)
  na : p ≠ a
  nb : p ≠ b
  nab : a ≠ b

section
variable {H : Heap} {s : List Dom} {T : List (List Ce)} {p a b : Nat}
theorem Uat.sub (h : Uat H s T p a b) (hT : ∀ f, Ce.renR f T = T) : Abs.sub H [p, a, b] = U s T := by
  have i1 : idx [p, a, b] a = 1 := by simp [idx, List.idxOf_cons, beq_false_of_ne h.na]
  have i2 : idx [p, a, b] b = 2 := by simp [idx, List.idxOf_cons, beq_false_of_ne h.nb, beq_false_of_ne h.nab]
  simp [-idx, Abs.sub, getD_some h.h0, getD_some h.h1, getD_some h.h2, h.h0, h.h1, h.h2, O.ren, V.renL, V.ren, i1, i2, hT, U, Function.comp_def]
theorem Uat.ok (h : Uat H s T p a b) : OkSel H [p, a, b] := by
  refine ⟨by simp [h.na, h.nb, h.nab], fun i hi => ?_, fun i hi => ?_, fun i hi k hk => ?_⟩ <;> (simp only [List.mem_cons, List.not_mem_nil, or_false] at hi)
  · rcases hi with rfl | rfl | rfl
    · exact lt_of_get h.h0
    · exact lt_of_get h.h1
    · exact lt_of_get h.h2
  · rcases hi with rfl | rfl | rfl
    · rw [getD_some h.h0]; simp
    · rw [getD_some h.h1]; simp
    · rw [getD_some h.h2]; simp
  · rcases hi with rfl | rfl | rfl
    · rw [getD_some h.h0] at hk; simp [O.refs] at hk ⊢; exact .inr hk
    · rw [getD_some h.h1] at hk; simp [O.refs] at hk
    · rw [getD_some h.h2] at hk; simp [O.refs] at hk
theorem Uat.clos (h : Uat H s T p a b) : clos H 8 [p] = [p, a, b] := by
  have h3 : ∀ n, Abs.clos H n [p, a, b] = [p, a, b] := fun n => clos_stop H n _ h.ok.cl
  have cs : ∀ n l, Abs.clos H (n + 1) l = Abs.clos H n (addAll l (l.flatMap fun i => (H.getD i .dead).refs)) := fun _ _ => rfl
  rw [cs 7]
  simp only [List.flatMap_cons, List.flatMap_nil, getD_some h.h0, O.refs, List.append_nil]
  have : addAll [p] [a, b] = [p, a, b] := by simp [addAll, Ne.symm h.na, Ne.symm h.nb, Ne.symm h.nab]
  rw [this]; exact h3 7
theorem Uat.merge (h : Uat H s T p a b) (hT : ∀ f, Ce.renR f T = T) : merge H [p, a, b] (U s T) = H := by
  have i1 : back [p, a, b] H.length 1 = a := rfl
  have i2 : back [p, a, b] H.length 2 = b := rfl
  have e0 : O.ren (back [p, a, b] H.length) (.mem false [1, 2] [[.own 1 4 0 s.length s.length, .own 2 1 0 T.length T.length]]) = .mem false [a, b] [[.own a 4 0 s.length s.length, .own b 1 0 T.length T.length]] := by simp [O.ren, V.renL, V.ren, i1, i2]
  have e1 : O.ren (back [p, a, b] H.length) (.mem false [] (s.map Dom.row)) = .mem false [] (s.map Dom.row) := by simp [O.ren, Function.comp_def]
  have e2 : O.ren (back [p, a, b] H.length) (.tree [] T) = .tree [] T := by simp [O.ren, hT]
  simp only [Abs.merge, U, List.length_cons, List.length_nil, Nat.zero_add, Nat.reduceAdd, List.take_succ_cons, List.take_zero, List.map_cons, List.map_nil, List.drop_succ_cons, List.drop_zero, List.append_nil, e0, e1, e2, place]
  rw [set_same h.h0, set_same h.h1, set_same h.h2]
end

end Go.Abs.G


namespace Go.Abs.G
open Go.Proofs
set_option linter.unusedVariables false
set_option linter.unusedSimpArgs false

@[simp] theorem St1_lim (n : Nat) (s : List Dom) (T : List (List Ce)) : limO n (St1 s T) = St1 s T := by simp [St1, limO, O.refs]

/-- New's store alone. -/
theorem newP1 (m : Model) (hm : okModel m) : DC Tryz.prog dom_New.id [.agg m.cells] [] (fun r H => r = .ptr 0 1 0 0 ∧ H = [St1 (domsOf m) (mT [])]) := by
  refine DC.picks (newP m hm) ?_
  rintro r H ⟨rfl, B, rfl⟩
  exact ⟨[1], by simp [St1, O.refs], by simp, by simp [V.ids], rfl, by simp [sub, St1, O.ren, Ce.renR, Ce.renL, Ce.ren, domCe_ren, mT_ren]⟩
end Go.Abs.G


/- The objects that a struct's cells may name, told closer. -/
namespace Go.Abs
set_option linter.unusedVariables false
end Go.Abs

/- A slice of one's own of no elements, of memory that has some. -/
namespace Go.Abs
set_option linter.unusedVariables false
theorem DC.own0g {P : Program} {f : FuncId} {es off tot : Nat} {ys : List V} {H : Heap} {Q : V → Heap → Prop} {id : Nat} {refs : List Nat} {rows : List (List V)} (hid : H[id]? = some (.mem false refs rows)) (ht : rows.length = tot)
    (h : ∀ ad c, (ad = none → c = 0) → DC P f (.a (.slice ad 0 c) :: ys) H Q) : DC P f (.own id es off 0 tot :: ys) H Q := by
  intro w β F vs hk hr
  have hlt : 0 < vs.size := by have := hr.1; simp at this; omega
  have hv := hr.2 0 vs[0] (.own id es off 0 tot) (by simp [hlt]) rfl
  have hd : hdOf H β id = some ((β id).wt tot) := by unfold hdOf; rw [hid, ← ht]
  have key : ∃ ad c, (ad = none → c = 0) ∧ vs[0] = .slice ad 0 c := by
    generalize vs[0] = v at hv
    cases hv with
    | own hl hh =>
      obtain ⟨_, g⟩ := hh _ hd
      obtain ⟨_, _, g⟩ := g rfl
      rcases g with ⟨_, ⟨ad, rfl⟩, _⟩ | ⟨_, ad, rfl, _⟩
      · exact ⟨ad, 0, fun _ => rfl, rfl⟩
      · exact ⟨some ad, _, (fun e => by cases e), rfl⟩
  obtain ⟨ad, c, h1, h2⟩ := key
  refine h ad c h1 w β F vs hk ⟨by simpa using hr.1, fun i v x hv' hx => ?_⟩
  cases i with
  | zero =>
    rw [Array.getElem?_eq_getElem hlt] at hv'
    injection hv' with hv'
    injection hx with hx
    subst hx
    rw [← hv', h2]; exact .a
  | succ i => exact hr.2 (i + 1) v x hv' (by simpa using hx)
end Go.Abs

/- An argument nil, as a slice of one's own without elements. -/
namespace Go.Abs
set_option linter.unusedVariables false
theorem DC.argnil {P : Program} {f : FuncId} {es : Nat} {ys : List V} {H : Heap} {Q : V → Heap → Prop} (h : DC P f (.own H.length es 0 0 0 :: ys) (H ++ [.mem false [] []]) Q) : DC P f (.a (.slice none 0 0) :: ys) H Q := fun w β F vs hk hr => by
  have hlt : 0 < vs.size := by have := hr.1; simp at this; omega
  have hv := hr.2 0 vs[0] (.a (.slice none 0 0)) (by simp [hlt]) rfl
  have a1 := adv_res (F := F) hk 1
  have hg : (H ++ List.replicate 1 O.res)[H.length]? = some O.res := by simp
  have a2 := new_nil (es := es) (refs := []) (F := F) a1.hok hg
  have e : (H ++ List.replicate 1 O.res).set H.length (.mem false [] []) = H ++ [.mem false [] []] := by
    rw [List.set_append, if_neg (by omega), Nat.sub_self]; rfl
  have a3 := nil_own (es := es) (refs := []) (ad := none) (hp := w.heap) (F := F) (β := β) hg
  rw [e] at a2 a3
  have a := a1.trans a2
  refine (h w _ F vs a.hok ⟨by simpa using hr.1, fun i v x hv' hx => ?_⟩).mono fun e w' ⟨r, x, H', β2, h1, h2, h3, h4⟩ => ⟨r, x, H', β2, h1, a.trans h2, h3, h4⟩
  cases i with
  | zero =>
    rw [Array.getElem?_eq_getElem hlt] at hv'
    injection hv' with hv'
    injection hx with hx
    subst hx
    rw [← hv', hv.of_a]; exact a3
  | succ i => exact (hr.mono a.le).2 (i + 1) v x hv' (by simpa using hx)
end Go.Abs

/- Evaluation that leaves what comes behind alone. -/
namespace Go.Abs
set_option linter.unusedVariables false

def vcF (P : Program) (c : C) (Q : Ex → St → Prop) [Fix Q] (st : St) : Prop := vc P c Q st
def vcItsF (P : Program) (l : List It) (k : St → Prop) [Fix k] (st : St) : Prop := vcIts P l k st
def IvcF (P : Program) (i : I) (k : St → Prop) [Fix k] (st : St) : Prop := i.vc P k st

section
variable {P : Program} {Q : Ex → St → Prop} {st : St} {x : Operand} {a b c : C} {k : St → Prop} {l its : List It} {j t n id : Nat} {want : Bool} {d : Option Nat} {i : I}
@[simp ↓ high] theorem vcF_of : vc P c Q st = vcF P c Q st := propext Iff.rfl
@[simp ↓ high] theorem vcItsF_of : vcIts P l k st = vcItsF P l k st := propext Iff.rfl
@[simp ↓ high] theorem IvcF_of : I.vc P i k st = IvcF P i k st := propext Iff.rfl
@[simp] theorem vcF_skip : vcF P .skip Q st = Q .norm st := propext Iff.rfl
@[simp] theorem vcF_reg : vcF P (.reg n its) Q st = vcItsF P its (Q .norm) (st.res n) := propext Iff.rfl
@[simp] theorem vcF_seq : vcF P (.seq a b) Q st = vcF P a (fun e s => match e with | .norm => vcF P b Q s | .exit i => Q (.exit i) s | .ret => Q .ret s) st := propext Iff.rfl
@[simp] theorem vcF_block : vcF P (.block id c) Q st = vcF P c (fun e s => match e with | .norm => Q .norm s | .exit i => if i = id then Q .norm s else Q (.exit i) s | .ret => Q .ret s) st := propext Iff.rfl
@[simp] theorem vcF_exit : vcF P (.exit id) Q st = Q (.exit id) st := propext Iff.rfl
@[simp] theorem vcF_ret : vcF P .ret Q st = Q .ret st := propext Iff.rfl
@[simp] theorem vcF_cond_true (h : st.ev x = .a (.bool true)) : vcF P (.cond x a b) Q st = vcF P a Q st := by
  unfold vcF; simp only [vc, h]; exact propext ⟨fun q => q.1 trivial, fun q => ⟨fun _ => q, fun e => by cases e⟩⟩
@[simp] theorem vcF_cond_false (h : st.ev x = .a (.bool false)) : vcF P (.cond x a b) Q st = vcF P b Q st := by
  unfold vcF; simp only [vc, h]; exact propext ⟨fun q => q.2 trivial, fun q => ⟨(fun e => by cases e), fun _ => q⟩⟩
@[simp] theorem vcItsF_nil : vcItsF P [] k st = k st := propext Iff.rfl
@[simp] theorem vcItsF_g : vcItsF P (.g i :: l) k st = IvcF P i (vcItsF P l k) st := propext Iff.rfl
@[simp] theorem vcItsF_o : vcItsF P (.o j i :: l) k st = IvcF P i (vcItsF P l k) st := propext Iff.rfl
@[simp] theorem vcItsF_gd_pos (h : gt st.sl t = .a (.bool want)) : vcItsF P (.gd j t want d i :: l) k st = IvcF P i (vcItsF P l k) (st.put (some t) (.bool want)) := by
  unfold vcItsF IvcF; simp only [vcIts, h]; exact propext ⟨fun q => q.1 trivial, fun q => ⟨fun _ => q, fun e => by cases want <;> cases e⟩⟩
@[simp] theorem vcItsF_gd_neg (h : gt st.sl t = .a (.bool (!want))) : vcItsF P (.gd j t want d i :: l) k st = vcItsF P l k ((st.put (some t) (.bool !want)).put d (.a undef)) := by
  unfold vcItsF; simp only [vcIts, h]; exact propext ⟨fun q => q.2 trivial, fun q => ⟨(fun e => by cases want <;> cases e), fun _ => q⟩⟩
@[simp] theorem vcItsF_gd_un (h : gt st.sl t = .a (.tuple #[])) : vcItsF P (.gd j t want d i :: l) k st = vcItsF P l k (st.put d (.a undef)) := by unfold vcItsF; simp only [vcIts, h]
end
/-! What each operation asks, but for calls. -/
section
variable {P : Program} {k : St → Prop} {st : St} {d : Option Nat} {x y v n m key : Operand} {l : L} {t es r len bytes : Nat} {ts ap : List Nat} {zero : List V} {parts : List (Nat × Operand)} {kd : IntKind}
@[simp] theorem F_lt : IvcF P (.lt d l) k st = (l.pre st ∧ k (st.put d (l.val st))) := propext Iff.rfl
@[simp] theorem F_frz : IvcF P (.frz t) k st = (if (gt st.sl t).ids = [] then k st else (gt st.sl t).fzP st.hp ∧ k { st with sl := up st.sl t ((gt st.sl t).fz st.hp), hp := st.hp.fz (gt st.sl t).ids }) := propext Iff.rfl
@[simp] theorem F_nilv : IvcF P (.nilv t es) k st = k { st with sl := up st.sl t (if (gt st.sl t).nilSl then .view es [] else gt st.sl t) } := propext Iff.rfl
@[simp] theorem F_keep : IvcF P (.keep ts) k st = k { st with sl := keepS st.sl ts } := propext Iff.rfl
@[simp] theorem F_wk : IvcF P .wk k st = (∃ st', Weak st st' ∧ k st') := propext Iff.rfl
@[simp] theorem F_alloc : IvcF P (.alloc d r len zero) k st = (st.hp[st.bs + r]? = some .res ∧ zero.length = len ∧ k ({ st with hp := st.hp.set (st.bs + r) (.mem false [] [zero]) }.put d (.ptr (st.bs + r) 1 0 0))) := propext Iff.rfl
@[simp] theorem F_box : IvcF P (.box d r len x) k st = (st.hp[st.bs + r]? = some .res ∧ (st.ev x).sized st.hp len ∧
      k ({ st with hp := st.hp.set (st.bs + r) (.mem false (V.idsL (st.ev x).cells) [(st.ev x).cells]) }.put d (.ptr (st.bs + r) 1 0 0))) := propext Iff.rfl
@[simp] theorem F_bsl : IvcF P (.bsl d r es len zero parts) k st = (st.hp[st.bs + r]? = some .res ∧ zero.length = es ∧ (∀ p ∈ parts, (st.ev p.2).sized st.hp es ∧ p.1 < len) ∧
      k ({ st with hp := st.hp.set (st.bs + r) (.mem false (V.idsL (fillV (List.flatten (List.replicate len zero)) (parts.map fun (p : Nat × Operand) => (p.1 * es, es, st.ev p.2)))) (chunk es len (fillV (List.flatten (List.replicate len zero)) (parts.map fun (p : Nat × Operand) => (p.1 * es, es, st.ev p.2))))) }.put d (.own (st.bs + r) es 0 len len))) := propext Iff.rfl
@[simp] theorem F_bsv : IvcF P (.bsv d es len zero parts) k st = (zero.length = es ∧ (∀ p ∈ parts, V.idsL (st.ev p.2).cells = [] ∧ (st.ev p.2).sized st.hp es ∧ p.1 < len) ∧
      k (st.put d (I.bsvV es len zero (parts.map fun (p : Nat × Operand) => (p.1 * es, es, st.ev p.2))))) := propext Iff.rfl
@[simp] theorem F_mkm : IvcF P (.mkm d r) k st = (st.hp[st.bs + r]? = some .res ∧ k ({ st with hp := st.hp.set (st.bs + r) (.map false [] []) }.put d (.mp (st.bs + r)))) := propext Iff.rfl
@[simp] theorem F_mks : IvcF P (.mks d r es bytes zero n) k st = (st.hp[st.bs + r]? = some .res ∧ zero.length = es ∧ (∃ m, st.ev n = .a (.int .i64 m)) ∧ 0 ≤ (st.ev n).num ∧ (st.ev n).num * bytes ≤ 140737488355328 ∧
      k ({ st with hp := st.hp.set (st.bs + r) (.mem false [] (List.replicate (st.ev n).num.toNat zero)) }.put d (.own (st.bs + r) es 0 (st.ev n).num.toNat (st.ev n).num.toNat))) := propext Iff.rfl
@[simp] theorem F_pan : IvcF P .pan k st = False := propext Iff.rfl
@[simp] theorem F_store : IvcF P (.store ap len x v) k st = (match st.ev x with
    | .ptr id tot i j => match st.hp.getD id .dead with
      | .mem false refs rows => (∀ t ∈ ap, (gt st.sl t).oid ≠ some id) ∧ rows.length = tot ∧ i < tot ∧ j + len ≤ (rows.getD i []).length ∧ (st.ev v).sized st.hp len ∧
          k { st with hp := st.hp.set id (.mem false (addRefs refs (V.idsL (st.ev v).cells)) (rows.set i (rowSet (rows.getD i []) j (st.ev v).cells))) }
      | _ => False
    | _ => False) := propext Iff.rfl
@[simp] theorem F_app : IvcF P (.app ap d r es bytes x y) k st = (match st.ev x with
    | .own id es' off len tot => match st.hp.getD id .dead with
      | .mem false refs rows => (∀ t ∈ ap, (gt st.sl t).oid ≠ some id) ∧ es' = es ∧ rows.length = tot ∧ off + len = tot ∧ okSl st.hp (st.ev y) ∧ (st.ev y).slEs es ∧ ((len : Int) + (st.ev y).slLen) * bytes ≤ 140737488355328 ∧
          k ({ st with hp := st.hp.set id (.mem false (addRefs refs ((st.ev y).rowIds st.hp)) (rows ++ (st.ev y).rowsOf st.hp)) }.put d (.own id es off (len + ((st.ev y).rowsOf st.hp).length) (tot + ((st.ev y).rowsOf st.hp).length)))
      | _ => False
    | .a (.slice none 0 0) => st.hp[st.bs + r]? = some .res ∧ okSl st.hp (st.ev y) ∧ (st.ev y).slEs es ∧ (st.ev y).slLen * bytes ≤ 140737488355328 ∧
          k ({ st with hp := st.hp.set (st.bs + r) (.mem false ((st.ev y).rowIds st.hp) ((st.ev y).rowsOf st.hp)) }.put d (.own (st.bs + r) es 0 ((st.ev y).rowsOf st.hp).length ((st.ev y).rowsOf st.hp).length))
    | .nul es' => es' = es ∧ st.hp[st.bs + r]? = some .res ∧ okSl st.hp (st.ev y) ∧ (st.ev y).slEs es ∧ (st.ev y).slLen * bytes ≤ 140737488355328 ∧
          (if ((st.ev y).rowsOf st.hp).isEmpty = true then k (st.put d (.nul es)) else
            k ({ st with hp := st.hp.set (st.bs + r) (.mem false ((st.ev y).rowIds st.hp) ((st.ev y).rowsOf st.hp)) }.put d (.own (st.bs + r) es 0 ((st.ev y).rowsOf st.hp).length ((st.ev y).rowsOf st.hp).length)))
    | _ => False) := propext Iff.rfl
@[simp] theorem F_cpy : IvcF P (.cpy d es x y) k st = (match st.ev x with
    | .own id es' off len tot => match st.hp.getD id .dead with
      | .mem false refs rows => es' = es ∧ rows.length = tot ∧ off + len ≤ tot ∧ okSl st.hp (st.ev y) ∧ (st.ev y).slEs es ∧ (st.ev y).slLen ≤ len ∧
          k ({ st with hp := st.hp.set id (.mem false (addRefs refs ((st.ev y).rowIds st.hp)) (rows.take off ++ (st.ev y).rowsOf st.hp ++ rows.drop (off + ((st.ev y).rowsOf st.hp).length))) }.put d (.a (.int .i64 (st.ev y).slLen)))
      | _ => False
    | _ => False) := propext Iff.rfl
@[simp] theorem F_mup : IvcF P (.mup ap kd m key v) k st = (match st.ev m with
    | .mp id => match st.hp.getD id .dead with
      | .map false refs es => (∀ t ∈ ap, (gt st.sl t).oid ≠ some id) ∧ (∀ e ∈ es, e.1.isKey kd = true) ∧ (st.ev key).isKey kd = true ∧
          k { st with hp := st.hp.set id (.map false (addRefs refs (V.idsL [st.ev v])) (putE es (st.ev key) (st.ev v))) }
      | _ => False
    | _ => False) := propext Iff.rfl

end

/-! Calls, as steps. -/
section
variable {P : Program} {k : St → Prop} {st : St} {d : Option Nat} {ap : List Nat} {f : FuncId} {xs : List Operand}
theorem gcall {r0 : V} {zs : List V} (hc : Pf P f zs r0) (ha : xs.map st.ev = zs) (hi : V.idsL zs = []) (hk : k (st.put d r0)) : IvcF P (.call d f xs) k st := call_go hc ha hi hk
theorem gcall_gen {zs : List V} {Q : V → Prop} (hc : DP P f zs Q) (ha : xs.map st.ev = zs) (hi : V.idsL zs = []) (hk : ∀ r, Q r → k (st.put d r)) : IvcF P (.call d f xs) k st := by
  subst ha; exact ⟨hi, hc.mono hk⟩
theorem gcallb {r0 : V} {zs : List V} (hc : Pf P f zs r0) (ha : V.fzL st.hp (xs.map st.ev) = zs) (hp : V.fzPL st.hp (xs.map st.ev)) (hf : okFunc P f = true) (hr : r0.flat = true) (hk : k (st.put d r0)) : IvcF P (.callb d (.func f) xs) k st := callb_go hc ha hp hf hr hk
theorem gcallo {zs : List V} {r0 : V} {H0 : Heap} (hc : DC P f zs [] fun r H => r = r0 ∧ H = H0) (ha : xs.map st.ev = zs) (hi : V.idsL zs = []) (hf : okFunc P f = true)
    (hk : k ({ st with hp := st.hp ++ H0.map (O.ren (st.hp.length + ·)) }.put d (r0.ren (st.hp.length + ·)))) : IvcF P (.callo d (.func f) xs) k st := callo_go hc ha hi hf hk
theorem gcallm {zs : List V} {H0 : Heap} {r0 : V} {H1 : Heap} (hc : DC P f zs H0 fun r H => r = r0 ∧ H = H1) (sel : List Nat) (hs : clos st.hp 8 (addAll [] (V.idsL (xs.map st.ev))) = sel) (hok : OkSel st.hp sel) (ha : V.renL (idx sel) (xs.map st.ev) = zs) (hH : sub st.hp sel = H0)
    (hf : okFunc P f = true) (hk : k ({ st with hp := merge st.hp sel H1 }.put d (r0.ren (back sel st.hp.length)))) : IvcF P (.callm d (.func f) xs) k st := callm_go hc sel hs hok ha hH hf hk
theorem gcallm_gen {zs : List V} {H0 : Heap} {Q : V → Heap → Prop} (hc : DC P f zs H0 Q) (sel : List Nat) (hs : clos st.hp 8 (addAll [] (V.idsL (xs.map st.ev))) = sel) (hok : OkSel st.hp sel) (ha : V.renL (idx sel) (xs.map st.ev) = zs) (hH : sub st.hp sel = H0)
    (hf : okFunc P f = true) (hk : ∀ r H', Q r H' → k ({ st with hp := merge st.hp sel H' }.put d (r.ren (back sel st.hp.length)))) : IvcF P (.callm d (.func f) xs) k st := callm_gen hc sel hs hok ha hH hf hk
theorem gcallm1 {zs : List V} {r0 : V} {o o' : O} {H1 : Heap} (hc : DC P f zs [o] fun r H => r = r0 ∧ H = o' :: H1) (p : Nat) (hi : addAll [] (V.idsL (xs.map st.ev)) = [p]) (hp : st.hp[p]? = some o) (c : o.clo) (c' : o'.clo) (c1 : ∀ q ∈ H1, q.clo)
    (ha : V.renL (idx [p]) (xs.map st.ev) = zs) (hf : okFunc P f = true) (hk : k ({ st with hp := st.hp.set p o' ++ H1 }.put d (r0.ren (back [p] st.hp.length)))) : IvcF P (.callm d (.func f) xs) k st := callm_one hc p hi hp c c' c1 ha hf hk
theorem gcalla1 {zs : List V} {r0 : V} {o o' : O} {H1 : Heap} (hc : DC P f zs [o] fun r H => r = r0 ∧ H = o' :: H1) (p : Nat) (hi : addAll [] (V.idsL (xs.map st.ev)) = [p]) (hp : st.hp[p]? = some o) (c : o.clo) (c' : o'.clo) (c1 : ∀ q ∈ H1, q.clo)
    (hap : ∀ t ∈ ap, (gt st.sl t).oid ≠ some p) (ha : V.renL (idx [p]) (xs.map st.ev) = zs) (hf : okFunc P f = true) (hk : k ({ st with hp := st.hp.set p o' ++ H1 }.put d (r0.ren (back [p] st.hp.length)))) : IvcF P (.calla ap d (.func f) xs) k st := calla_one hc p hi hp c c' c1 hap ha hf hk
end
end Go.Abs

namespace Go.Abs.G
open Go.Proofs
set_option linter.unusedVariables false
set_option linter.unusedSimpArgs false

def isR (d : List (List Int)) (x : Int) : Bool := decide (0 ≤ x) && decide (x < d.length)
def rowR (d : List (List Int)) (x : Int) : List Int := if isR d x then (d[x.toNat]?).getD [] else []
structure DOk (d : List (List Int)) : Prop where
  n : d.length ≤ 64
  l : ∀ l ∈ d, 1 ≤ l.length ∧ l.length ≤ 64
structure ROk (d : List (List Int)) (ms : List (List (List Int))) : Prop where
  d : DOk d
  k : ms.length ≤ 1000000
  m : ∀ e ∈ ms, DOk e

section
variable {d : List (List Int)} {ms : List (List (List Int))} {M : List (List V)}

end
end Go.Abs.G



namespace Go.Abs.G
open Go.Proofs
set_option linter.unusedVariables false
set_option linter.unusedSimpArgs false

section
variable {d : List (List Int)} {D M : List (List V)}

end
end Go.Abs.G



namespace Go.Abs.G
open Go.Proofs
set_option linter.unusedVariables false
set_option linter.unusedSimpArgs false

def leftR (k v : Int) (l : List Int) : List Int := l.filter fun y => !goesB k v y
def cutR (d : List (List Int)) (k x v : Int) : List (List Int) × Bool × Bool :=
  if isR d x = false then (d, false, true)
  else if leftR k v (rowR d x) = [] then (d, false, false)
  else (d.set x.toNat (leftR k v (rowR d x)), decide ((leftR k v (rowR d x)).length < (rowR d x).length), true)

theorem leftR_len (k v : Int) (l : List Int) : (leftR k v l).length ≤ l.length := List.length_filter_le _ _
section
variable {d : List (List Int)} {M : List (List V)}

end
end Go.Abs.G



namespace Go.Abs.G
open Go.Proofs
set_option linter.unusedVariables false
set_option linter.unusedSimpArgs false

section
variable {d : List (List Int)} {M : List (List V)}

end
end Go.Abs.G


namespace Go.Abs.G
open Go.Proofs
set_option linter.unusedVariables false
set_option linter.unusedSimpArgs false

section
variable {d : List (List Int)} {M : List (List V)}

end
end Go.Abs.G


namespace Go.Abs.G
open Go.Proofs
set_option linter.unusedVariables false
set_option linter.unusedSimpArgs false
attribute [local simp] I.vc

end Go.Abs.G



namespace Go.Abs.G
open Go.Proofs
set_option linter.unusedVariables false
set_option linter.unusedSimpArgs false

section
variable {d : List (List Int)} {ms : List (List (List Int))}

end
end Go.Abs.G


namespace Go.Abs.G
open Go.Proofs
set_option linter.unusedVariables false
set_option linter.unusedSimpArgs false

section
variable {d : List (List Int)} {ms : List (List (List Int))}

end
end Go.Abs.G


namespace Go.Abs.G
open Go.Proofs
set_option linter.unusedVariables false
set_option linter.unusedSimpArgs false

def RR (d : List (List Int)) (ms : List (List (List Int))) : O := R1 (dR d) (mR ms)
theorem R1_ren {D M : List (List V)} (hD : flR D) (hM : flR M) (f : Nat → Nat) : O.ren f (R1 D M) = R1 D M := by
  have h : ∀ (D : List (List V)), (∀ f, D.map (V.renL f) = D) → Ce.renR f (flatC D) = flatC D := fun D hD => by
    have hL : ∀ r : List V, Ce.renL f (r.map Ce.v) = (V.renL f r).map Ce.v := fun r => by
      induction r with
      | nil => rfl
      | cons x r ih => simp [Ce.renL, Ce.ren, V.renL, ih]
    have hR : ∀ D : List (List V), Ce.renR f (flatC D) = flatC (D.map (V.renL f)) := fun D => by
      induction D with
      | nil => rfl
      | cons r D ih =>
        have ih' : Ce.renR f (D.map fun r => r.map Ce.v) = (D.map (V.renL f)).map fun r => r.map Ce.v := ih
        simp [flatC, Ce.renR, hL, ih']
    rw [hR, hD]
  simp [R1, O.ren, Ce.renR, Ce.renL, Ce.ren, h D hD.1, h M hM.1]
theorem RR_clo (d : List (List Int)) (ms : List (List (List Int))) : (RR d ms).clo := ⟨rfl, fun f => R1_ren (fl_dR d) (fl_mR ms) f, fun e => by cases e⟩
@[simp ↓ high] theorem RR_clo' (d : List (List Int)) (ms : List (List (List Int))) : (RR d ms).clo = True := eq_true (RR_clo d ms)
@[simp] theorem RR_lim (n : Nat) (d : List (List Int)) (ms : List (List (List Int))) : limO n (RR d ms) = RR d ms := by simp [RR, R1, limO, O.refs]
@[simp] theorem RR_refs (d : List (List Int)) (ms : List (List (List Int))) : (RR d ms).refs = [] := rfl
@[simp] theorem RR_ren (f : Nat → Nat) (d : List (List Int)) (ms : List (List (List Int))) : O.ren f (RR d ms) = RR d ms := R1_ren (fl_dR d) (fl_mR ms) f

section
variable {d : List (List Int)} {ms : List (List (List Int))} (hr : ROk d ms)
include hr
end
end Go.Abs.G



namespace Go.Abs.G
open Go.Proofs
set_option linter.unusedVariables false
set_option linter.unusedSimpArgs false

end Go.Abs.G


namespace Go.Abs.G
open Go.Proofs
set_option linter.unusedVariables false
set_option linter.unusedSimpArgs false

end Go.Abs.G



namespace Go.Abs.G
open Go.Proofs
set_option linter.unusedVariables false
set_option linter.unusedSimpArgs false

end Go.Abs.G


namespace Go.Abs.G
open Go.Proofs
set_option linter.unusedVariables false
set_option linter.unusedSimpArgs false

end Go.Abs.G


namespace Go.Abs.G
open Go.Proofs
set_option linter.unusedVariables false
set_option linter.unusedSimpArgs false

end Go.Abs.G


namespace Go.Abs.G
open Go.Proofs
set_option linter.unusedVariables false
set_option linter.unusedSimpArgs false

end Go.Abs.G


namespace Go.Abs.G
open Go.Proofs
set_option linter.unusedVariables false
set_option linter.unusedSimpArgs false

end Go.Abs.G


namespace Go.Abs.G
open Go.Proofs
set_option linter.unusedVariables false
set_option linter.unusedSimpArgs false

end Go.Abs.G


namespace Go.Abs.G
open Go.Proofs
set_option linter.unusedVariables false
set_option linter.unusedSimpArgs false

def runR (lo : Int) (n : Nat) : List Int := (List.range n).map fun (i : Nat) => lo + (i : Int)
@[simp] theorem runR_len (lo : Int) (n : Nat) : (runR lo n).length = n := by simp [runR]
end Go.Abs.G


namespace Go.Abs.G
open Go.Proofs
set_option linter.unusedVariables false
set_option linter.unusedSimpArgs false

@[simp ↓ high] theorem St1_tree (s : List Dom) (T : List (List Ce)) : (St1 s T).isTree = true := rfl
@[simp ↓ high] theorem St1_trows (s : List Dom) (T : List (List Ce)) : (St1 s T).trows = 1 := rfl
@[simp ↓ high] theorem St1_isMem (s : List Dom) (T : List (List Ce)) : (St1 s T).isMem = false := rfl
@[simp ↓ high] theorem St1_refs (s : List Dom) (T : List (List Ce)) : (St1 s T).refs = [] := rfl
@[simp ↓ high] theorem St1_lim' (n : Nat) (s : List Dom) (T : List (List Ce)) : limO n (St1 s T) = St1 s T := St1_lim n s T
@[simp ↓ high] theorem St1_ren (f : Nat → Nat) (s : List Dom) (ms : List (List Dom)) : O.ren f (St1 s (mT ms)) = St1 s (mT ms) := by
  simp [St1, O.ren, Ce.renR, Ce.renL, Ce.ren, domCe_ren, mT_ren]
@[simp] theorem St1_clo (s : List Dom) (ms : List (List Dom)) : (St1 s (mT ms)).clo := ⟨rfl, fun f => St1_ren f s ms, fun e => by cases e⟩

end Go.Abs.G


namespace Go.Abs.G
open Go.Proofs
set_option linter.unusedVariables false
set_option linter.unusedSimpArgs false

structure DOp where
  kind : Int
  ck : Int
  cx : Int
  cv : Int
  n : Int
structure DCut where
  k : Int
  x : Int
  v : Int
def DOp.cells (o : DOp) : List V := [V.i o.kind, V.i o.ck, V.i o.cx, V.i o.cv, V.i o.n]
def DCut.cells (c : DCut) : List V := [V.i c.k, V.i c.x, V.i c.v]
def vCuts (l : List DCut) : V := .view 3 (l.map DCut.cells)

structure SG (s : List Dom) (ms : List (List Dom)) : Prop extends SOk s ms where
  L : ∀ L ∈ ms, L.length ≤ 64 ∧ ∀ d ∈ L, d.ok

theorem cutS_cases (s : List Dom) (k x v : Int) : (cutS s k x v).1 = s ∨ ∃ d, s[x.toNat]? = some d ∧ (cutS s k x v).1 = s.set x.toNat (cutTo k v d d.width) := by
  unfold cutS
  split
  · split
    · next d e => split
                  · exact .inl rfl
                  · exact .inr ⟨d, e, rfl⟩
    · exact .inl rfl
  · exact .inl rfl
theorem cutS_len (s : List Dom) (k x v : Int) : (cutS s k x v).1.length = s.length := by
  rcases cutS_cases s k x v with e | ⟨d, _, e⟩ <;> rw [e]; simp
theorem cutS_ok {s : List Dom} (k x v : Int) (h : ∀ d ∈ s, d.ok) : ∀ d ∈ (cutS s k x v).1, d.ok := by
  rcases cutS_cases s k x v with e | ⟨d, hd, e⟩ <;> rw [e]
  · exact h
  · intro d' hd'
    rcases List.mem_or_eq_of_mem_set hd' with h' | rfl
    · exact h d' h'
    · exact cutTo_ok k v (h d (List.mem_of_getElem? hd)) _
theorem SG.cut {s : List Dom} {ms : List (List Dom)} (h : SG s ms) (k x v : Int) : SG (cutS s k x v).1 ms :=
  ⟨⟨by rw [cutS_len]; exact h.n, h.k, cutS_ok k x v h.d⟩, h.L⟩

def cutsB : List Dom → List DCut → List Dom × Bool
  | s, [] => (s, true)
  | s, c :: l => if (cutS s c.k c.x c.v).2.2 then cutsB (cutS s c.k c.x c.v).1 l else ((cutS s c.k c.x c.v).1, false)

end Go.Abs.G


namespace Go.Abs.G
open Go.Proofs
set_option linter.unusedVariables false
set_option linter.unusedSimpArgs false

theorem drop_has {d : Dom} (h : d.ok) {k i : Nat} (hk : k < 64) (hi : i < 64) : (d.drop k).has i = (d.has i && !decide (i = k)) := by
  unfold Dom.drop Dom.has
  by_cases h1 : k < 32
  · rw [if_pos h1]
    by_cases h2 : i < 32
    · simp only [h2, if_true]; exact clr_bit h.a h1 i
    · simp only [h2, if_false]
      have : i ≠ k := by omega
      simp [this]
  · rw [if_neg h1]
    by_cases h2 : i < 32
    · simp only [h2, if_true]
      have : i ≠ k := by omega
      simp [this]
    · simp only [h2, if_false]
      rw [clr_bit h.b (by omega)]
      have : (i - 32 = k - 32) ↔ i = k := by omega
      simp [this]

theorem cutTo_has (k v : Int) {d : Dom} (h : d.ok) : ∀ n, n ≤ 64 → ∀ i, i < 64 → (cutTo k v d n).has i = (d.has i && !(decide (i < n) && goesB k v (d.from' + i))) := by
  intro n
  induction n with
  | zero => intro _ i _; simp [cutTo]
  | succ n ih =>
    intro hn i hi
    have ih := ih (by omega) i hi
    unfold cutTo
    have hin : i < n + 1 ↔ (i < n ∨ i = n) := by omega
    split
    · next hg =>
      rw [drop_has (cutTo_ok k v h n) (by omega) hi, ih]
      by_cases hi2 : i = n
      · subst hi2; simp [hg]
      · have : decide (i < n + 1) = decide (i < n) := by simp; omega
        simp [hi2, this]
    · next hg =>
      rw [ih]
      by_cases hi2 : i = n
      · subst hi2
        have : goesB k v (d.from' + i) = false := by simpa using hg
        simp [this]
      · have : decide (i < n + 1) = decide (i < n) := by simp; omega
        rw [this]

def NE (s : List Dom) : Prop := ∀ d ∈ s, d.none = false
theorem NE.cut {s : List Dom} (h : NE s) (k x v : Int) : NE (cutS s k x v).1 := by
  unfold cutS
  split
  · split
    · next d e =>
      split
      · exact h
      · next hn =>
        intro d' hd'
        rcases List.mem_or_eq_of_mem_set hd' with h' | rfl
        · exact h d' h'
        · simpa using hn
    · exact h
  · exact h
theorem NE.cuts : ∀ (l : List DCut) {s : List Dom}, NE s → NE (cutsB s l).1
  | [], s, h => h
  | c :: l, s, h => by
    unfold cutsB
    split
    · exact NE.cuts l (h.cut _ _ _)
    · exact h.cut _ _ _

theorem add_has {d : Dom} (h : d.ok) {k i : Nat} (hk : k < 64) (hi : i < 64) : (d.add k).has i = (d.has i || decide (i = k)) := by
  unfold Dom.add Dom.has
  by_cases h1 : k < 32
  · rw [if_pos h1]
    by_cases h2 : i < 32
    · simp only [h2, if_true]; exact sett_bit h.a h1 i
    · simp only [h2, if_false]
      have : i ≠ k := by omega
      simp [this]
  · rw [if_neg h1]
    by_cases h2 : i < 32
    · simp only [h2, if_true]
      have : i ≠ k := by omega
      simp [this]
    · simp only [h2, if_false]
      rw [sett_bit h.b (by omega)]
      have : (i - 32 = k - 32) ↔ i = k := by omega
      simp [this]
theorem fillTo_has {d : Dom} (h : d.ok) : ∀ n, n ≤ 64 → ∀ i, i < 64 → (fillTo d n).has i = (d.has i || decide (i < n)) := by
  intro n
  induction n with
  | zero => intro _ i _; simp [fillTo]
  | succ n ih =>
    intro hn i hi
    have ih := ih (by omega) i hi
    unfold fillTo
    rw [add_has (fillTo_ok h n) (by omega) hi, ih]
    by_cases h1 : i = n
    · subst h1; simp
    · have : decide (i < n + 1) = decide (i < n) := by simp; omega
      simp [h1, this]
theorem domOf_width (v : Var) : (domOf v).width = (v.hi - v.lo + 1).toNat := fillTo_width _ _
theorem domOf_has {v : Var} (h : VarOk v) {i : Nat} (hi : i < (domOf v).width) : (domOf v).has i = true := by
  have hok := dom0_ok h
  have hw := hok.w
  rw [domOf_width] at hi
  have hi' : i < (dom0 v).width := hi
  unfold domOf
  rw [fillTo_has hok _ hw i (by omega)]
  simp [hi']
theorem none_of_has {d : Dom} {i : Nat} (h : d.has i = true) : d.none = false := by
  unfold Dom.none
  unfold Dom.has at h
  split at h
  · have : d.a ≠ 0 := fun e => by rw [e] at h; simp at h
    simp [this]
  · have : d.b ≠ 0 := fun e => by rw [e] at h; simp at h
    simp [this]

theorem vals_eq {d d' : Dom} (hf : d'.from' = d.from') (hw : d'.width = d.width) (hh : ∀ i, i < d.width → d'.has i = d.has i) : d'.vals d'.width = d.vals d.width := by
  unfold Dom.vals
  rw [hw, hf]
  congr 1
  refine List.filter_congr fun i hi => ?_
  exact hh i (List.mem_range.1 hi)

end Go.Abs.G


/- What the reference's store tells is what the store tells. -/
namespace Go.Abs.G
set_option linter.unusedVariables false
set_option linter.unusedSimpArgs false

structure DG (x : Dom) : Prop where
  ok : x.ok
  full : ∀ i, i < 64 → x.width ≤ i → x.has i = false
  ne : x.none = false
def refD (s : List Dom) : List (List Int) := s.map fun x => x.vals x.width

theorem refD_len (s : List Dom) : (refD s).length = s.length := by simp [refD]
theorem is_ref (s : List Dom) (x : Int) : isR (refD s) x = isB s x := by simp [isR, isB, refD_len]
theorem row_ref (s : List Dom) (x : Int) : rowR (refD s) x = valsB s x := by
  unfold rowR valsB
  rw [is_ref]
  by_cases h : isB s x = true
  · rw [if_pos h, if_pos h]; simp [refD, List.getElem?_map]
  · rw [if_neg h, if_neg h]
theorem mem_vals {x : Dom} {v : Int} : v ∈ x.vals x.width ↔ ∃ i : Nat, i < x.width ∧ x.has i = true ∧ v = x.from' + i := by
  simp only [Dom.vals, List.mem_map, List.mem_filter, List.mem_range]
  constructor
  · rintro ⟨i, ⟨a, b⟩, c⟩; exact ⟨i, a, b, c.symm⟩
  · rintro ⟨i, a, b, c⟩; exact ⟨i, ⟨a, b⟩, c.symm⟩
theorem has_ref (s : List Dom) (x v : Int) : hasB s x v = decide (v ∈ rowR (refD s) x) := by
  rw [row_ref]
  unfold hasB valsB isB
  cases hx : s[x.toNat]? with
  | none => simp
  | some d =>
    have hlt := lt_of_get hx
    by_cases h0 : 0 ≤ x
    · have hl : x < s.length := by omega
      rw [Bool.eq_iff_iff]
      simp only [h0, hl, decide_true, Bool.true_and, if_true, Option.map_some, Option.getD_some, decide_eq_true_eq, Bool.and_eq_true, mem_vals]
      constructor
      · rintro ⟨⟨a, b⟩, c⟩; exact ⟨(v - d.from').toNat, by omega, c, by omega⟩
      · rintro ⟨i, a, b, c⟩
        have : (v - d.from').toNat = i := by omega
        exact ⟨⟨by omega, by omega⟩, by rw [this]; exact b⟩
    · simp [h0]
end Go.Abs.G


namespace Go.Abs.G
set_option linter.unusedVariables false
set_option linter.unusedSimpArgs false

theorem none_has {d : Dom} (h : d.none = true) (i : Nat) : d.has i = false := by
  simp [Dom.none] at h
  unfold Dom.has
  rw [h.1, h.2]
  split <;> simp
theorem has_eq {d e : Dom} (hd : d.ok) (he : e.ok) (h : ∀ i, i < 64 → d.has i = e.has i) : d.a = e.a ∧ d.b = e.b := by
  constructor
  · refine Nat.eq_of_testBit_eq fun i => ?_
    by_cases hi : i < 32
    · have := h i (by omega); simpa [Dom.has, hi] using this
    · rw [Nat.testBit_lt_two_pow (Nat.lt_of_lt_of_le (show d.a < 2 ^ 32 from hd.a) (Nat.pow_le_pow_right (by omega) (by omega : 32 ≤ i))), Nat.testBit_lt_two_pow (Nat.lt_of_lt_of_le (show e.a < 2 ^ 32 from he.a) (Nat.pow_le_pow_right (by omega) (by omega : 32 ≤ i)))]
  · refine Nat.eq_of_testBit_eq fun i => ?_
    by_cases hi : i < 32
    · have := h (32 + i) (by omega); have h2 : ¬ 32 + i < 32 := by omega
      simpa [Dom.has, h2] using this
    · rw [Nat.testBit_lt_two_pow (Nat.lt_of_lt_of_le (show d.b < 2 ^ 32 from hd.b) (Nat.pow_le_pow_right (by omega) (by omega : 32 ≤ i))), Nat.testBit_lt_two_pow (Nat.lt_of_lt_of_le (show e.b < 2 ^ 32 from he.b) (Nat.pow_le_pow_right (by omega) (by omega : 32 ≤ i)))]

section
variable {d : Dom} (h : DG d) (k v : Int)
include h
theorem cut_has (i : Nat) (hi : i < 64) : (cutTo k v d d.width).has i = (d.has i && !(decide (i < d.width) && goesB k v (d.from' + i))) := cutTo_has k v h.ok d.width h.ok.w i hi
theorem cut_vals : (cutTo k v d d.width).vals (cutTo k v d d.width).width = leftR k v (d.vals d.width) := by
  have hw := h.ok.w
  rw [cutTo_width]
  unfold Dom.vals leftR
  rw [List.filter_map, List.filter_filter, cutTo_from]
  congr 1
  refine List.filter_congr fun i hi => ?_
  have hi : i < d.width := by simpa using hi
  rw [cut_has h k v i (by omega)]
  simp [hi, Function.comp, Bool.and_comm]
theorem cut_none : (cutTo k v d d.width).none = decide (leftR k v (d.vals d.width) = []) := by
  have hw := h.ok.w
  have hok := cutTo_ok k v h.ok d.width
  rw [← cut_vals h k v, Bool.eq_iff_iff, decide_eq_true_eq]
  constructor
  · intro hn
    refine List.eq_nil_iff_forall_not_mem.2 fun u hu => ?_
    obtain ⟨i, a, b, c⟩ := mem_vals.1 hu
    rw [none_has hn] at b; cases b
  · intro he
    have : (cutTo k v d d.width).a = 0 ∧ (cutTo k v d d.width).b = 0 := has_eq (e := ⟨d.from', d.width, 0, 0⟩) hok ⟨h.ok.f, h.ok.w, by simp, by simp⟩ fun i hi => by
      have hz : (⟨d.from', d.width, 0, 0⟩ : Dom).has i = false := none_has rfl i
      rw [hz]
      by_cases hiw : i < d.width
      · cases hb : (cutTo k v d d.width).has i
        · rfl
        · have := mem_vals.2 ⟨i, by rw [cutTo_width]; exact hiw, hb, rfl⟩
          rw [he] at this; cases this
      · rw [cut_has h k v i hi, h.full i hi (by omega)]; rfl
    simp [Dom.none, this]
theorem cut_same : (!(cutTo k v d d.width).same d) = decide ((leftR k v (d.vals d.width)).length < (d.vals d.width).length) := by
  have hw := h.ok.w
  have hok := cutTo_ok k v h.ok d.width
  cases hs : (cutTo k v d d.width).same d
  · symm
    simp only [Bool.not_false, decide_eq_true_eq]
    refine Nat.lt_of_le_of_ne (leftR_len k v _) fun e => ?_
    have hall : leftR k v (d.vals d.width) = d.vals d.width := List.filter_sublist.eq_of_length e
    have := has_eq hok h.ok fun i hi => by
      by_cases hiw : i < d.width
      · rw [cut_has h k v i hi]
        cases hb : d.has i
        · rfl
        · have hm : d.from' + (i : Int) ∈ d.vals d.width := mem_vals.2 ⟨i, hiw, hb, rfl⟩
          rw [← hall] at hm
          have := (List.mem_filter.1 hm).2
          simp at this
          simp [this]
      · rw [cut_has h k v i hi, h.full i hi (by omega)]; rfl
    simp [Dom.same, this] at hs
  · symm
    simp only [Bool.not_true, decide_eq_false_iff_not]
    simp [Dom.same] at hs
    have : leftR k v (d.vals d.width) = d.vals d.width := by
      rw [← cut_vals h k v]
      refine vals_eq (cutTo_from k v d d.width) (cutTo_width k v d d.width) fun i _ => ?_
      unfold Dom.has; rw [hs.1, hs.2]
    rw [this]; omega
theorem cut_DG (hn : leftR k v (d.vals d.width) ≠ []) : DG (cutTo k v d d.width) := by
  refine ⟨cutTo_ok k v h.ok d.width, fun i hi hw => ?_, ?_⟩
  · rw [cutTo_width] at hw
    rw [cut_has h k v i hi, h.full i hi hw]; rfl
  · rw [cut_none h k v]; simpa using hn
end

theorem cut_ref {s : List Dom} (hs : ∀ d ∈ s, DG d) (k x v : Int) : cutR (refD s) k x v = (refD (cutS s k x v).1, (cutS s k x v).2) ∧ ∀ d ∈ (cutS s k x v).1, DG d := by
  unfold cutR cutS
  rw [is_ref]
  by_cases hb : isB s x = true
  · have hb2 := hb
    simp [isB] at hb2
    have hlt : x.toNat < s.length := by omega
    obtain ⟨d, hd⟩ : ∃ d, s[x.toNat]? = some d := ⟨_, List.getElem?_eq_getElem hlt⟩
    have hdg := hs d (List.mem_of_getElem? hd)
    have hrow : rowR (refD s) x = d.vals d.width := by
      rw [row_ref]; unfold valsB; rw [if_pos hb, hd]; rfl
    rw [hrow, hb, if_neg (by simp), if_pos rfl, hd]
    simp only [cut_none hdg k v, cut_same hdg k v, decide_eq_true_eq]
    by_cases hn : leftR k v (d.vals d.width) = []
    · rw [if_pos hn, if_pos hn]
      exact ⟨rfl, hs⟩
    · rw [if_neg hn, if_neg hn]
      refine ⟨?_, fun e he => ?_⟩
      · simp only [refD, List.map_set, cut_vals hdg k v]
      · rcases List.mem_or_eq_of_mem_set he with h | h
        · exact hs e h
        · rw [h]; exact cut_DG hdg k v hn
  · have hf : isB s x = false := by simpa using hb
    rw [hf]
    simp
    exact hs
end Go.Abs.G


namespace Go.Abs.G
set_option linter.unusedVariables false
set_option linter.unusedSimpArgs false

theorem domOf_DG {v : Var} (h : VarOk v) : DG (domOf v) := by
  have hok := dom0_ok h
  refine ⟨fillTo_ok hok _, fun i hi hw => ?_, none_of_has (domOf_has h (i := 0) ?_)⟩
  · rw [domOf_width] at hw
    unfold domOf
    rw [fillTo_has hok (dom0 v).width hok.w i hi]
    have hz : (dom0 v).has i = false := none_has rfl i
    have : ¬ i < (dom0 v).width := by simp only [dom0]; omega
    rw [hz]; simp [this]
  · rw [domOf_width]
    obtain ⟨a, b, c, e⟩ := h
    omega
theorem doms_DG (m : Model) : ∀ d ∈ domsOf m, DG d := by
  unfold domsOf
  by_cases hz : (checkB m).2 = 0
  · have hR : Right m := right_iff.1 (by simp [rightB, hz])
    rw [if_pos hz]
    intro d hd
    simp only [List.mem_map] at hd
    obtain ⟨v, hv, rfl⟩ := hd
    obtain ⟨i, hi⟩ := List.getElem?_of_mem hv
    exact domOf_DG (VarOk.of (hR.var i v hi))
  · rw [if_neg hz]; intro d hd; cases hd
theorem doms_len (m : Model) : (domsOf m).length ≤ 64 := by
  unfold domsOf
  by_cases hz : (checkB m).2 = 0
  · have hR : Right m := right_iff.1 (by simp [rightB, hz])
    have := hR.nv
    rw [if_pos hz, List.length_map]; omega
  · rw [if_neg hz]; simp

/-- Both stores, with all marks, tell the same. -/
structure Two (s : List Dom) (ms : List (List Dom)) : Prop where
  n : s.length ≤ 64
  k : ms.length ≤ 1000000
  d : ∀ d ∈ s, DG d
  m : ∀ L ∈ ms, L.length ≤ 64 ∧ ∀ d ∈ L, DG d
theorem Two.sok {s : List Dom} {ms : List (List Dom)} (h : Two s ms) : SOk s ms := ⟨h.n, h.k, fun d hd => (h.d d hd).ok⟩
theorem Two.new (m : Model) : Two (domsOf m) [] := ⟨doms_len m, by simp, doms_DG m, fun L hL => by cases hL⟩
theorem Two.cut {s : List Dom} {ms : List (List Dom)} (h : Two s ms) (k x v : Int) : Two (cutS s k x v).1 ms := ⟨by rw [cutS_len]; exact h.n, h.k, (cut_ref h.d k x v).2, h.m⟩
theorem Two.mark {s : List Dom} {ms : List (List Dom)} (h : Two s ms) (hk : ms.length + 1 ≤ 1000000) : Two s (ms ++ [s]) := ⟨h.n, by simpa using hk, h.d, fun L hL => by
  rcases List.mem_append.1 hL with hL | hL
  · exact h.m L hL
  · rw [List.mem_singleton.1 hL]; exact ⟨h.n, h.d⟩⟩
theorem Two.back {s : List Dom} {ms : List (List Dom)} (h : Two s ms) {j : Nat} (hj : j < ms.length) : Two ms[j] (ms.take j) := ⟨(h.m _ (List.getElem_mem hj)).1, Nat.le_trans (by simp; omega) h.k, (h.m _ (List.getElem_mem hj)).2, fun L hL => h.m L (List.mem_of_mem_take hL)⟩
end Go.Abs.G


/- Both stores under one name each, with their calls. -/
namespace Go.Abs.G
open Go.Proofs
set_option linter.unusedVariables false
set_option linter.unusedSimpArgs false

theorem vals_ne {s : List Dom} (h : ∀ d ∈ s, DG d) {x : Int} (hx : isB s x = true) : valsB s x ≠ [] := by
  unfold valsB
  rw [if_pos hx]
  have hl : 0 ≤ x ∧ x < s.length := by simpa [isB] using hx
  obtain ⟨i, rfl⟩ : ∃ i : Nat, x = i := ⟨x.toNat, by omega⟩
  have hi : i < s.length := by omega
  have hd := h _ (List.getElem_mem hi)
  simp only [Int.toNat_natCast, List.getElem?_eq_getElem hi, Option.map_some, Option.getD_some]
  intro e
  have hn := hd.ne
  have hz : ∀ j, j < 64 → (s[i]).has j = false := fun j hj => by
    by_cases hw : j < (s[i]).width
    · cases hh : (s[i]).has j
      · rfl
      · have : (s[i]).from' + (j : Int) ∈ (s[i]).vals (s[i]).width := mem_vals.2 ⟨j, hw, hh, rfl⟩
        rw [e] at this; cases this
    · exact hd.full j hj (by omega)
  have ha : (s[i]).a = 0 := Nat.eq_of_testBit_eq fun j => by
    by_cases hj : j < 32
    · have := hz j (by omega); simpa [Dom.has, hj] using this
    · rw [Nat.zero_testBit]; exact Nat.testBit_lt_two_pow (Nat.lt_of_lt_of_le hd.ok.a (by
        have : (2 : Nat) ^ 32 ≤ 2 ^ j := Nat.pow_le_pow_right (by omega) (by omega)
        simpa using this))
  have hb : (s[i]).b = 0 := Nat.eq_of_testBit_eq fun j => by
    by_cases hj : j < 32
    · have h2 : ¬ j + 32 < 32 := by omega
      have := hz (j + 32) (by omega); simpa [Dom.has, h2] using this
    · rw [Nat.zero_testBit]; exact Nat.testBit_lt_two_pow (Nat.lt_of_lt_of_le hd.ok.b (by
        have : (2 : Nat) ^ 32 ≤ 2 ^ j := Nat.pow_le_pow_right (by omega) (by omega)
        simpa using this))
  simp [Dom.none, ha, hb] at hn
theorem vals_no {s : List Dom} {x : Int} (hx : isB s x = false) : valsB s x = [] := by simp [valsB, hx]
theorem vals_at {s : List Dom} {i : Nat} (hi : i < s.length) : valsB s i = (s[i]).vals (s[i]).width := by
  have : isB s i = true := by simp [isB, hi]
  simp [valsB, this, hi]
theorem vals_mem {s : List Dom} (h : ∀ d ∈ s, DG d) {x v : Int} (hv : v ∈ valsB s x) : isB s x = true ∧ -1000000000 ≤ v ∧ v < 1000000064 := by
  cases hx : isB s x
  · rw [vals_no hx] at hv; cases hv
  · have hl : 0 ≤ x ∧ x < s.length := by simpa [isB] using hx
    obtain ⟨i, rfl⟩ : ∃ i : Nat, x = i := ⟨x.toNat, by omega⟩
    have hi : i < s.length := by omega
    have hd := h _ (List.getElem_mem hi)
    rw [vals_at hi] at hv
    obtain ⟨j, hj, _, rfl⟩ := mem_vals.1 hv
    have := hd.ok.f; have := hd.ok.w
    exact ⟨rfl, by omega, by omega⟩
theorem valsB_small {s : List Dom} (h : ∀ d ∈ s, DG d) (x : Int) : (valsB s x).length ≤ 64 := by
  cases hx : isB s x
  · rw [vals_no hx]; simp
  · have hl : 0 ≤ x ∧ x < s.length := by simpa [isB] using hx
    obtain ⟨i, rfl⟩ : ∃ i : Nat, x = i := ⟨x.toNat, by omega⟩
    have hi : i < s.length := by omega
    have hd := h _ (List.getElem_mem hi)
    rw [vals_at hi, Dom.vals, List.length_map]
    exact Nat.le_trans (List.length_filter_le _ _) (by simpa using hd.ok.w)
/-- Rising: no value twice. -/
theorem vals_up (d : Dom) (n : Nat) : (d.vals n).Pairwise (· < ·) := by
  unfold Dom.vals
  rw [List.pairwise_map]
  refine List.Pairwise.imp (R := fun (a b : Nat) => a < b) (fun h => by omega) ?_
  exact List.Pairwise.filter _ List.pairwise_lt_range
theorem valsB_up (s : List Dom) (x : Int) : (valsB s x).Pairwise (· < ·) := by
  unfold valsB
  split
  · cases s[x.toNat]? <;> simp [vals_up]
  · exact .nil
def loB (s : List Dom) (x : Int) : Int := (valsB s x).headD 0
def hiB (s : List Dom) (x : Int) : Int := (valsB s x).getLastD 0
theorem head_mem {l : List Int} (h : l ≠ []) : l.headD 0 ∈ l := by cases l with | nil => exact (h rfl).elim | cons a l => simp
theorem last_mem {l : List Int} (h : l ≠ []) : l.getLastD 0 ∈ l := by
  rw [List.getLastD_eq_getLast?, List.getLast?_eq_some_getLast h]; exact List.getLast_mem h
theorem lo_range {s : List Dom} (h : ∀ d ∈ s, DG d) (x : Int) : -1000000000 ≤ loB s x ∧ loB s x < 1000000064 := by
  by_cases e : valsB s x = []
  · simp [loB, e]
  · exact (vals_mem h (head_mem e)).2
theorem hi_range {s : List Dom} (h : ∀ d ∈ s, DG d) (x : Int) : -1000000000 ≤ hiB s x ∧ hiB s x < 1000000064 := by
  by_cases e : valsB s x = []
  · simp [hiB, e]
  · exact (vals_mem h (last_mem e)).2
theorem head_le {l : List Int} (h : l.Pairwise (· < ·)) {v : Int} (hv : v ∈ l) : l.headD 0 ≤ v := by
  cases l with
  | nil => cases hv
  | cons a l => rcases List.mem_cons.1 hv with rfl | hv
                · simp
                · have := List.rel_of_pairwise_cons h hv; simp; omega
theorem le_last {l : List Int} (h : l.Pairwise (· < ·)) {v : Int} (hv : v ∈ l) : v ≤ l.getLastD 0 := by
  have hne : l ≠ [] := fun e => by subst e; cases hv
  rw [List.getLastD_eq_getLast?, List.getLast?_eq_some_getLast hne, Option.getD_some]
  obtain ⟨i, hi, rfl⟩ := List.getElem_of_mem hv
  rw [List.getLast_eq_getElem]
  by_cases e : i = l.length - 1
  · subst e; simp
  · have := List.pairwise_iff_getElem.1 h i (l.length - 1) hi (by omega) (by omega); omega
theorem lo_le {s : List Dom} {x v : Int} (hv : v ∈ valsB s x) : loB s x ≤ v := head_le (valsB_up s x) hv
theorem le_hi {s : List Dom} {x v : Int} (hv : v ∈ valsB s x) : v ≤ hiB s x := le_last (valsB_up s x) hv
theorem lo_le_hi {s : List Dom} (x : Int) : loB s x ≤ hiB s x := by
  by_cases e : valsB s x = []
  · simp [loB, hiB, e]
  · exact lo_le (last_mem e)
/-- The program's store, the document's: each one object. -/
def ST (s : List Dom) (ms : List (List Dom)) : O := St1 s (mT ms)
def RT (s : List Dom) (ms : List (List Dom)) : O := RR (refD s) (ms.map refD)
theorem ST_nres (s : List Dom) (ms : List (List Dom)) : ST s ms ≠ .res := fun e => by cases e
theorem RT_nres (s : List Dom) (ms : List (List Dom)) : RT s ms ≠ .res := fun e => by cases e
theorem ST_clo' (s : List Dom) (ms : List (List Dom)) : (ST s ms).clo := St1_clo s ms
theorem RT_clo' (s : List Dom) (ms : List (List Dom)) : (RT s ms).clo := RR_clo _ _
section
variable (s : List Dom) (ms : List (List Dom))
@[simp high] theorem ST_isMem : (ST s ms).isMem = false := rfl
@[simp high] theorem RT_isMem : (RT s ms).isMem = false := rfl
@[simp high] theorem ST_isTree : (ST s ms).isTree = true := rfl
@[simp high] theorem RT_isTree : (RT s ms).isTree = true := rfl
@[simp high] theorem ST_trows : (ST s ms).trows = 1 := rfl
@[simp high] theorem RT_trows : (RT s ms).trows = 1 := rfl
@[simp high] theorem ST_refs : (ST s ms).refs = [] := rfl
@[simp high] theorem RT_refs : (RT s ms).refs = [] := rfl
@[simp high] theorem ST_tot : (ST s ms).hasTot 1 = True := by simp [ST, St1, O.hasTot]
@[simp high] theorem RT_tot : (RT s ms).hasTot 1 = True := by simp [RT, RR, R1, O.hasTot]
@[simp] theorem ST_nres' : (ST s ms = .res) = False := eq_false (ST_nres s ms)
@[simp] theorem RT_nres' : (RT s ms = .res) = False := eq_false (RT_nres s ms)
@[simp] theorem ST_clo : (ST s ms).clo = True := eq_true (ST_clo' s ms)
@[simp] theorem RT_clo : (RT s ms).clo = True := eq_true (RT_clo' s ms)
@[simp high] theorem ST_ren (f : Nat → Nat) : O.ren f (ST s ms) = ST s ms := (ST_clo' s ms).ren f
@[simp high] theorem RT_ren (f : Nat → Nat) : O.ren f (RT s ms) = RT s ms := (RT_clo' s ms).ren f
@[simp high] theorem ST_lim (n : Nat) : limO n (ST s ms) = ST s ms := by simp [ST]
@[simp high] theorem RT_lim (n : Nat) : limO n (RT s ms) = RT s ms := by simp [RT, RR, R1, limO, O.refs]
end

@[simp high] theorem ren_vInts (f : Nat → Nat) (l : List Int) : V.ren f (vInts l) = vInts l := by
  simp only [vInts, V.ren]
section
variable {s : List Dom} {ms : List (List Dom)} (h : Two s ms)
include h
theorem varsT : DC Tryz.prog dom_Store_Vars.id [.ptr 0 1 0 0] [ST s ms] fun r H => r = V.i s.length ∧ H = [ST s ms] := varsP h.sok
theorem hasT (x v : Int) (hv : I64 v) : DC Tryz.prog dom_Store_Has.id [.ptr 0 1 0 0, V.i x, V.i v] [ST s ms] fun r H => r = .bool (decide (v ∈ valsB s x)) ∧ H = [ST s ms] := by
  have := hasP h.sok x v hv
  rw [has_ref, row_ref] at this; exact this
theorem valuesT (x : Int) : DC Tryz.prog dom_Store_Values.id [.ptr 0 1 0 0, V.i x] [ST s ms] fun r H => r = vInts (valsB s x) ∧ H = [ST s ms] := valuesP h.sok x
theorem loT (x : Int) : DC Tryz.prog dom_Store_Lo.id [.ptr 0 1 0 0, V.i x] [ST s ms] fun r H => r = V.i (loB s x) ∧ H = [ST s ms] := by
  refine DC.to (loP h.sok x fun hx => vals_ne h.d hx) ⟨?_, rfl⟩
  cases hx : isB s x
  · simp [loB, vals_no hx]
  · simp [loB]
theorem hiT (x : Int) : DC Tryz.prog dom_Store_Hi.id [.ptr 0 1 0 0, V.i x] [ST s ms] fun r H => r = V.i (hiB s x) ∧ H = [ST s ms] := by
  refine DC.to (hiP h.sok x fun hx => vals_ne h.d hx) ⟨?_, rfl⟩
  cases hx : isB s x
  · simp [hiB, vals_no hx]
  · simp [hiB]
theorem cutT (k x v : Int) : DC Tryz.prog dom_Store_Cut.id [.ptr 0 1 0 0, .agg [V.i k, V.i x, V.i v]] [ST s ms] fun r H => r = .tup [.bool (cutS s k x v).2.1, .bool (cutS s k x v).2.2] ∧ H = [ST (cutS s k x v).1 ms] := cutP h.sok k x v
theorem copyT : DC Tryz.prog dom_Store_Copy.id [.ptr 0 1 0 0] [ST s ms] (fun r H => r = .ptr 1 1 0 0 ∧ H = [ST s ms, ST s ms]) := copy_packed h.n h.k fun L hL => (h.m L hL).1
end
theorem newT (m : Model) (hm : okModel m) : DC Tryz.prog dom_New.id [.agg m.cells] [] (fun r H => r = .ptr 0 1 0 0 ∧ H = [ST (domsOf m) []]) := newP1 m hm
end Go.Abs.G


/- What a cut makes of the values; what is open. -/
namespace Go.Abs.G
open Go.Proofs
set_option linter.unusedVariables false

theorem rowR_set {d : List (List Int)} {x y : Int} (l : List Int) (hx : isR d x = true) : rowR (d.set x.toNat l) y = if y = x then l else rowR d y := by
  have hb : 0 ≤ x ∧ x < d.length := by simpa [isR] using hx
  have e1 : isR (d.set x.toNat l) y = isR d y := by simp [isR]
  unfold rowR
  rw [e1]
  by_cases hy : y = x
  · subst hy
    rw [if_pos hx, if_pos rfl, List.getElem?_set_self (by omega)]; rfl
  · rw [if_neg hy]
    by_cases hi : isR d y = true
    · rw [if_pos hi, if_pos hi]
      have : 0 ≤ y ∧ y < d.length := by simpa [isR] using hi
      rw [List.getElem?_set_ne (by omega)]
    · rw [if_neg hi, if_neg hi]
theorem cut_rows {s : List Dom} (h : ∀ d ∈ s, DG d) (k x v y : Int) : valsB (cutS s k x v).1 y = if y = x ∧ leftR k v (valsB s x) ≠ [] then leftR k v (valsB s x) else valsB s y := by
  have := (cut_ref h k x v).1
  have e : refD (cutS s k x v).1 = (cutR (refD s) k x v).1 := by rw [this]
  rw [← row_ref (cutS s k x v).1, ← row_ref s x, ← row_ref s y, e, cutR]
  by_cases hx : isR (refD s) x = true
  · rw [if_neg (by rw [hx]; simp)]
    by_cases hn : leftR k v (rowR (refD s) x) = []
    · rw [if_pos hn, if_neg (fun e => e.2 hn)]
    · rw [if_neg hn]
      show rowR ((refD s).set x.toNat _) y = _
      rw [rowR_set _ hx]
      by_cases hy : y = x
      · rw [if_pos hy, if_pos ⟨hy, hn⟩]
      · rw [if_neg hy, if_neg (fun e => hy e.1)]
  · have hf : isR (refD s) x = false := by simpa using hx
    rw [if_pos hf]
    have : rowR (refD s) x = [] := by simp [rowR, hf]
    rw [if_neg (fun e => e.2 (by rw [this]; rfl))]
end Go.Abs.G



/- Hall's intervals, plain. -/
namespace Go.Abs.G
open Go.Proofs
set_option linter.unusedVariables false

def placesB (s : List Dom) (xs : List Int) : List Int := xs.filter (isB s)
def insB (s : List Dom) (l : List Int) (a b : Int) : List Nat := (List.range l.length).filter fun p => decide (a ≤ loB s (l.getD p 0)) && decide (hiB s (l.getD p 0) ≤ b)
structure Iv where
  a : Int
  b : Int
  w : List Nat
def Iv.over (i : Iv) : Prop := i.b - i.a + 1 < i.w.length
def Iv.full (i : Iv) : Prop := (i.w.length : Int) = i.b - i.a + 1
structure IvOk (s : List Dom) (l : List Int) (L : List Iv) : Prop where
  mem : ∀ i ∈ L, i.a ≤ i.b ∧ i.w = insB s l i.a i.b ∧ -1000000000 ≤ i.a ∧ i.b < 1000000064
  all : ∀ x ∈ l, ∀ y ∈ l, loB s x ≤ hiB s y → ∃ i ∈ L, i.a = loB s x ∧ i.b = hiB s y
  n : L.length ≤ 1000000
def overB (L : List Iv) : Prop := ∃ i ∈ L, i.over
/-- A variable lies within. -/
def inIv (s : List Dom) (i : Iv) (x : Int) : Prop := i.a ≤ loB s x ∧ hiB s x ≤ i.b
/-- A value that goes. -/
def goesH (s : List Dom) (l : List Int) (L : List Iv) (x v : Int) : Prop := x ∈ l ∧ v ∈ valsB s x ∧ ∃ i ∈ L, i.full ∧ i.a ≤ v ∧ v ≤ i.b ∧ ¬ inIv s i x

theorem insB_mem {s : List Dom} {l : List Int} {a b : Int} {p : Nat} : p ∈ insB s l a b ↔ ∃ h : p < l.length, a ≤ loB s l[p] ∧ hiB s l[p] ≤ b := by
  unfold insB
  simp only [List.mem_filter, List.mem_range, Bool.and_eq_true, decide_eq_true_eq]
  constructor
  · rintro ⟨h, h1, h2⟩
    have : l.getD p 0 = l[p] := by simp [List.getD, h]
    rw [this] at h1 h2; exact ⟨h, h1, h2⟩
  · rintro ⟨h, h1, h2⟩
    have : l.getD p 0 = l[p] := by simp [List.getD, h]
    rw [this]; exact ⟨h, h1, h2⟩
theorem insB_nodup (s : List Dom) (l : List Int) (a b : Int) : (insB s l a b).Nodup := List.Pairwise.filter _ List.nodup_range
theorem placesB_is {s : List Dom} {xs : List Int} {x : Int} (h : x ∈ placesB s xs) : isB s x = true := (List.mem_filter.1 h).2

section
variable {s : List Dom} (hs : ∀ d ∈ s, DG d) {l : List Int} (hl : ∀ x ∈ l, isB s x = true) {L : List Iv} (hL : IvOk s l L)
variable {val : Int → Int} (hv : ∀ x ∈ l, val x ∈ valsB s x) (hd : (l.map val).Nodup)
include hs hl hL hv hd
end
end Go.Abs.G


/- Hall's intervals of less values; of one value each. -/
namespace Go.Abs.G
open Go.Proofs
set_option linter.unusedVariables false

theorem least_of {f : Nat → Int} : ∀ {W : List Nat}, W ≠ [] → ∃ p ∈ W, ∀ q ∈ W, f p ≤ f q
  | [], h => (h rfl).elim
  | [p], _ => ⟨p, by simp, by simp⟩
  | p :: q :: W, _ => by
    obtain ⟨r, hr, h⟩ := least_of (f := f) (W := q :: W) (by simp)
    by_cases hp : f p ≤ f r
    · exact ⟨p, by simp, fun t ht => by rcases List.mem_cons.1 ht with rfl | ht; exact Int.le_refl _; exact Int.le_trans hp (h t ht)⟩
    · exact ⟨r, List.mem_cons_of_mem _ hr, fun t ht => by rcases List.mem_cons.1 ht with rfl | ht; omega; exact h t ht⟩
theorem ins_mono {s d : List Dom} {l : List Int} {a b a' b' : Int} (h : ∀ p, p ∈ insB s l a b → p ∈ insB d l a' b') : (insB s l a b).length ≤ (insB d l a' b').length := by
  unfold insB at h ⊢
  rw [← List.countP_eq_length_filter, ← List.countP_eq_length_filter]
  refine List.countP_mono_left fun p hp hq => ?_
  have := h p (List.mem_filter.2 ⟨hp, hq⟩)
  exact (List.mem_filter.1 this).2
theorem ins_more {s d : List Dom} {l : List Int} {a b : Int} (h : ∀ p, p ∈ insB s l a b → p ∈ insB d l a b) {q : Nat} (hq : q ∈ insB d l a b) (hn : q ∉ insB s l a b) : (insB s l a b).length < (insB d l a b).length := by
  have hnd : (q :: insB s l a b).Nodup := List.nodup_cons.2 ⟨hn, insB_nodup s l a b⟩
  have hsub : ∀ p ∈ q :: insB s l a b, p ∈ insB d l a b := fun p hp => by rcases List.mem_cons.1 hp with rfl | hp; exact hq; exact h p hp
  have : ∀ (A B : List Nat), A.Nodup → (∀ p ∈ A, p ∈ B) → A.length ≤ B.length := by
    intro A
    induction A with
    | nil => intro B _ _; exact Nat.zero_le _
    | cons x A ih =>
      intro B hA hB
      obtain ⟨hx, hA⟩ := List.nodup_cons.1 hA
      have := ih (B.erase x) hA fun p hp => (List.mem_erase_of_ne (fun e => hx (by rw [← e]; exact hp))).2 (hB p (by simp [hp]))
      have hm := hB x (by simp)
      rw [List.length_erase_of_mem hm] at this
      have := List.length_pos_of_mem hm
      simp only [List.length_cons]; omega
  have := this _ _ hnd hsub
  rw [List.length_cons] at this
  omega

section
variable {s : List Dom} (hs : ∀ d ∈ s, DG d) {l : List Int} (hl : ∀ x ∈ l, isB s x = true) {L : List Iv} (hL : IvOk s l L)
include hs hl hL
theorem shrink {a b : Int} (hne : insB s l a b ≠ []) : ∃ j ∈ L, a ≤ j.a ∧ j.b ≤ b ∧ (insB s l a b).length ≤ j.w.length := by
  obtain ⟨p, hp, hpm⟩ := least_of (f := fun p => loB s (l.getD p 0)) hne
  obtain ⟨q, hq, hqm⟩ := least_of (f := fun p => - hiB s (l.getD p 0)) hne
  obtain ⟨p1, p2, p3⟩ := insB_mem.1 hp
  obtain ⟨q1, q2, q3⟩ := insB_mem.1 hq
  have ep : l.getD p 0 = l[p] := by simp [List.getD, p1]
  have eq' : l.getD q 0 = l[q] := by simp [List.getD, q1]
  have hpq := hpm q hq
  rw [ep, eq'] at hpq
  have hlh := lo_le_hi (s := s) l[q]
  obtain ⟨j, hj, ja, jb⟩ := hL.all l[p] (List.getElem_mem p1) l[q] (List.getElem_mem q1) (by omega)
  refine ⟨j, hj, by omega, by omega, ?_⟩
  rw [(hL.mem j hj).2.1]
  refine ins_mono fun r hr => ?_
  obtain ⟨r1, r2, r3⟩ := insB_mem.1 hr
  have er : l.getD r 0 = l[r] := by simp [List.getD, r1]
  have h1 := hpm r hr; have h2 := hqm r hr
  rw [ep, er] at h1; rw [eq', er] at h2
  exact insB_mem.2 ⟨r1, by omega, by omega⟩
end

/-- Of d no value is left but those of s. -/
structure LessS (d s : List Dom) (l : List Int) : Prop where
  lo : ∀ x ∈ l, loB d x ≤ loB s x
  hi : ∀ x ∈ l, hiB s x ≤ hiB d x
theorem less_ins {d s : List Dom} {l : List Int} (h : LessS d s l) (a b : Int) : ∀ p, p ∈ insB d l a b → p ∈ insB s l a b := fun p hp => by
  obtain ⟨p1, p2, p3⟩ := insB_mem.1 hp
  have := h.lo l[p] (List.getElem_mem p1); have := h.hi l[p] (List.getElem_mem p1)
  exact insB_mem.2 ⟨p1, by omega, by omega⟩

section
variable {d s : List Dom} (hd : ∀ e ∈ d, DG e) (hs : ∀ e ∈ s, DG e) {l : List Int} (hld : ∀ x ∈ l, isB d x = true) (hls : ∀ x ∈ l, isB s x = true) {Ld Ls : List Iv} (hLd : IvOk d l Ld) (hLs : IvOk s l Ls) (h : LessS d s l)
include hd hs hld hls hLd hLs h
theorem less_over (ho : overB Ld) : overB Ls := by
  obtain ⟨i, hi, ho⟩ := ho
  obtain ⟨h1, h2, _⟩ := hLd.mem i hi
  unfold Iv.over at ho
  have hc := ins_mono (less_ins h i.a i.b)
  rw [← h2] at hc
  have hne : insB s l i.a i.b ≠ [] := fun e => by rw [e] at hc; simp at hc; rw [hc] at ho; simp at ho; omega
  obtain ⟨j, hj, ja, jb, hjl⟩ := shrink hs hls hLs hne
  exact ⟨j, hj, by unfold Iv.over; omega⟩
theorem less_goes (ho : ¬ overB Ls) {x v : Int} (hg : goesH d l Ld x v) (hv : v ∈ valsB s x) : goesH s l Ls x v := by
  obtain ⟨hx, _, i, hi, hf, ha, hb, hn⟩ := hg
  obtain ⟨h1, h2, _⟩ := hLd.mem i hi
  unfold Iv.full at hf
  have hsub := less_ins h i.a i.b
  have hc := ins_mono hsub
  rw [← h2] at hc
  have hne : insB s l i.a i.b ≠ [] := fun e => by rw [e] at hc; simp at hc; rw [hc] at hf; simp at hf; omega
  obtain ⟨j, hj, ja, jb, hjl⟩ := shrink hs hls hLs hne
  have hno : ¬ j.over := fun e => ho ⟨j, hj, e⟩
  unfold Iv.over at hno
  refine ⟨hx, hv, j, hj, by unfold Iv.full; omega, by omega, by omega, fun hin => ?_⟩
  obtain ⟨q, hq, hqx⟩ := List.getElem_of_mem hx
  have hqs : q ∈ insB s l i.a i.b := insB_mem.2 ⟨hq, by rw [hqx]; have := hin.1; omega, by rw [hqx]; have := hin.2; omega⟩
  have hqd : q ∉ insB d l i.a i.b := fun hm => by
    obtain ⟨_, k2, k3⟩ := insB_mem.1 hm
    rw [hqx] at k2 k3; exact hn ⟨k2, k3⟩
  have := ins_more hsub hqs hqd
  rw [← h2] at this
  omega
end

section
variable {s : List Dom} (hs : ∀ d ∈ s, DG d) {l : List Int} (hl : ∀ x ∈ l, isB s x = true) {L : List Iv} (hL : IvOk s l L)
variable {val : Int → Int} (hv : ∀ x ∈ l, valsB s x = [val x])
include hs hl hL hv
end
end Go.Abs.G


/- Rows of whole numbers. -/
namespace Go.Abs.G
set_option linter.unusedVariables false
section
variable {P : Program} {k : St → Prop} {st : St} {d : Option Nat} {x : Operand} {es : Nat} {zero : List V}
@[simp] theorem F_clr : IvcF P (.clr d es zero x) k st = (match st.ev x with
    | .own id es' off len tot => match st.hp.getD id .dead with
      | .mem false refs rows => es' = es ∧ rows.length = tot ∧ off + len ≤ tot ∧ zero.length = es ∧
          k ({ st with hp := st.hp.set id (.mem false refs (rows.take off ++ List.replicate len zero ++ rows.drop (off + len))) }.put d (.a (.tuple #[])))
      | _ => False
    | .a (.slice none 0 0) => k (st.put d (.a (.tuple #[])))
    | _ => False) := propext Iff.rfl
end
def ri (l : List Int) : List (List V) := l.map fun n => [V.i n]
theorem ri_len (l : List Int) : (ri l).length = l.length := by simp [ri]
theorem ri_ren (f : Nat → Nat) (l : List Int) : (ri l).map (fun r => V.renL f r) = ri l := by simp [ri]
theorem ri_take (l : List Int) (n : Nat) : (ri l).take n = ri (l.take n) := by simp [ri, List.map_take]
theorem ri_set (l : List Int) (i : Nat) (v : Int) : (ri l).set i [V.i v] = ri (l.set i v) := by simp [ri, List.map_set]
theorem ri_get {l : List Int} {i : Nat} (h : i < l.length) : (ri l)[i]? = some [V.i l[i]] := by simp [ri, h]

/-- The first k of a list, neighbours that are the same told once. -/
def dd (l : List Int) : Nat → List Int
  | 0 => []
  | k + 1 => if k = 0 ∨ l.getD k 0 ≠ l.getD (k - 1) 0 then dd l k ++ [l.getD k 0] else dd l k
theorem dd_len (l : List Int) : ∀ k, (dd l k).length ≤ k
  | 0 => Nat.le_refl _
  | k + 1 => by
    have := dd_len l k
    unfold dd; split
    · simp; omega
    · omega
theorem dd_mem {l : List Int} {x : Int} : ∀ k, k ≤ l.length → (x ∈ dd l k ↔ x ∈ l.take k)
  | 0, _ => by simp [dd]
  | k + 1, h => by
    have ih := dd_mem (l := l) (x := x) k (by omega)
    have e : l.getD k 0 = l[k] := by simp [List.getD, show k < l.length by omega]
    rw [List.take_succ_eq_append_getElem (by omega)]
    unfold dd
    split
    · rw [List.mem_append, List.mem_append, ih, e]
    · next hc =>
      have hk : ¬ k = 0 := fun e => hc (.inl e)
      have he : l.getD k 0 = l.getD (k - 1) 0 := Classical.not_not.1 fun e => hc (.inr e)
      have e2 : l.getD (k - 1) 0 = l[k - 1] := by simp [List.getD, show k - 1 < l.length by omega]
      rw [ih, List.mem_append]
      constructor
      · exact .inl
      · rintro (h1 | h1)
        · exact h1
        · rw [List.mem_singleton.1 h1, ← e, he, e2]
          exact List.mem_take_iff_getElem.2 ⟨k - 1, by omega, rfl⟩
theorem dd_up {l : List Int} (hs : l.Pairwise (· ≤ ·)) : ∀ k, k ≤ l.length → (dd l k).Pairwise (· < ·)
  | 0, _ => by simp [dd]
  | k + 1, h => by
    have ih := dd_up hs k (by omega)
    have e : l.getD k 0 = l[k] := by simp [List.getD, show k < l.length by omega]
    unfold dd
    split
    · next hc =>
      rw [List.pairwise_append]
      refine ⟨ih, by simp, fun a ha b hb => ?_⟩
      rw [List.mem_singleton.1 hb, e]
      have ha := (dd_mem k (by omega)).1 ha
      obtain ⟨i, hi, rfl⟩ := List.mem_take_iff_getElem.1 ha
      have hik : i < k := by omega
      have h0 : ¬ k = 0 := by omega
      have hne : l.getD k 0 ≠ l.getD (k - 1) 0 := hc.resolve_left h0
      have e2 : l.getD (k - 1) 0 = l[k - 1] := by simp [List.getD, show k - 1 < l.length by omega]
      rw [e, e2] at hne
      have p := List.pairwise_iff_getElem.1 hs
      have p1 := p (k - 1) k (by omega) (by omega) (by omega)
      by_cases hi1 : i = k - 1
      · subst hi1; omega
      · have p2 := p i (k - 1) (by omega) (by omega) (by omega); omega
    · exact ih
theorem dd_all {l : List Int} {k : Nat} (h : ∀ i, i + 1 < k → l.getD (i + 1) 0 ≠ l.getD i 0) (hk : k ≤ l.length) : dd l k = l.take k := by
  induction k with
  | zero => simp [dd]
  | succ k ih =>
    have e : l.getD k 0 = l[k] := by simp [List.getD, show k < l.length by omega]
    rw [List.take_succ_eq_append_getElem (by omega), dd, ih (fun i hi => h i (by omega)) (by omega), if_pos, e]
    by_cases h0 : k = 0
    · exact .inl h0
    · exact .inr (by have := h (k - 1) (by omega); rwa [Nat.sub_add_cancel (by omega)] at this)
end Go.Abs.G


namespace Go.Abs.G
open Go.Proofs
set_option linter.unusedVariables false
set_option linter.unusedSimpArgs false

theorem compact_in {n q : Nat} {l : List Int} (hl : l.length = n) (hn : n ≤ 1000000000) (hq1 : 1 ≤ q) (hq : q < n) (hdd : dd l q = l.take q) (heq : l.getD q 0 = l.getD (q - 1) 0) {Q : Ex → St → Prop} {st : St}
    (h : At [(0, .own 0 1 0 n n), (3, V.i q), (4, .own 0 1 q (n - q) n), (5, V.i 1)] [.mem false [] (ri l)] st)
    (hQ : ∀ (s : St) (u : List Int), u.length = n → u.take (dd l n).length = dd l n → (dd l n).length < n → At [(0, .own 0 1 0 n n), (3, V.i (dd l n).length)] [.mem false [] (ri u)] s → Q (.exit 2) s) :
    vc Tryz.prog (.loop slices_Compact_Lint_int.b1) Q st := by
  obtain ⟨sl, hp, bs⟩ := st
  obtain ⟨rfl, h⟩ := h
  simp only [sls_cons, sls_one] at h
  have hd1 : dd l (q + 1) = dd l q := by rw [dd, if_neg (by rw [heq]; simp; omega)]
  have hdl : (dd l q).length = q := by rw [hdd, List.length_take]; omega
  refine vc_upto 1 (by simp) (n - q - 1) (fun j st => ∃ u : List Int, u.length = n ∧ (dd l (q + 1 + j)).length ≤ q + j ∧ u.take (dd l (q + 1 + j)).length = dd l (q + 1 + j) ∧ (∀ i, (dd l (q + 1 + j)).length ≤ i → u.getD i 0 = l.getD i 0) ∧
    At [(0, .own 0 1 0 n n), (3, V.i (dd l (q + 1 + j)).length), (4, .own 0 1 q (n - q) n), (5, V.i (1 + j : Nat))] [.mem false [] (ri u)] st) ⟨l, hl, by rw [Nat.add_zero, hd1, hdl]; omega, by rw [Nat.add_zero, hd1, hdl, hdd], fun _ _ => rfl, rfl, by simpa [hd1, hdl] using h⟩ ?_
  clear h
  rintro j ⟨sl, hp, bs⟩ hj ⟨u, hu, hm, ht, hr, rfl, h⟩
  simp only [sls_cons, sls_one] at h
  unfold slices_Compact_Lint_int.b1
  by_cases hil : 1 + j < n - q
  · have w1 : IntKind.i64.wrap (((1 + j : Nat) : Int) - 1) = (j : Nat) := by rw [wrap64] <;> omega
    have w2 : IntKind.i64.wrap (((1 + j : Nat) : Int) + 1) = ((1 + (j + 1) : Nat) : Int) := by rw [wrap64] <;> omega
    obtain ⟨m, hmm⟩ : ∃ m, m = (dd l (q + 1 + j)).length := ⟨_, rfl⟩
    rw [← hmm] at h hm ht hr
    have w3 : IntKind.i64.wrap ((m : Int) + 1) = ((m + 1 : Nat) : Int) := by rw [wrap64] <;> omega
    have e1 : u.getD (q + (1 + j)) 0 = l.getD (q + 1 + j) 0 := by rw [hr _ (by omega)]; congr 1; omega
    have e2 : u.getD (q + j) 0 = l.getD (q + 1 + j - 1) 0 := by rw [hr _ (by omega)]; congr 1; omega
    have g1 : (ri u)[q + (1 + j)]? = some [V.i (l.getD (q + 1 + j) 0)] := by rw [ri_get (by omega), ← e1]; simp [List.getD, show q + (1 + j) < u.length by omega]
    have g2 : (ri u)[q + j]? = some [V.i (l.getD (q + 1 + j - 1) 0)] := by rw [ri_get (by omega), ← e2]; simp [List.getD, show q + j < u.length by omega]
    obtain ⟨x, hx⟩ : ∃ x, x = l.getD (q + 1 + j) 0 := ⟨_, rfl⟩
    obtain ⟨y, hy⟩ : ∃ y, y = l.getD (q + 1 + j - 1) 0 := ⟨_, rfl⟩
    rw [← hx] at g1; rw [← hy] at g2
    have hdn : dd l (q + 1 + (j + 1)) = if x ≠ y then dd l (q + 1 + j) ++ [x] else dd l (q + 1 + j) := by
      show dd l (q + 1 + j + 1) = _
      rw [dd, ← hx, ← hy]
      have : ¬ (q + 1 + j = 0) := by omega
      simp [this]
    have rl : (ri u).length = n := by rw [ri_len]; exact hu
    have b1 : q + (1 + j) < n := by omega
    have b2 : q + j < n := by omega
    have b3 : m < n := by omega
    have b4 : j < n - q := by omega
    have b5 : ((1 + j : Nat) : Int) < ((n - q : Nat) : Int) := by omega
    have b6 : (j : Int) < ((n - q : Nat) : Int) := by omega
    have gg1 : ∀ hh, (ri u)[q + (1 + j)]'hh = [V.i x] := fun hh => by rw [List.getElem?_eq_getElem hh] at g1; exact Option.some.inj g1
    have gg2 : ∀ hh, (ri u)[q + j]'hh = [V.i y] := fun hh => by rw [List.getElem?_eq_getElem hh] at g2; exact Option.some.inj g2
    have g3 : ∃ z, ∀ hh, (ri u)[m]'hh = [V.i z] := ⟨u.getD m 0, fun hh => by have := ri_get (l := u) (i := m) (by omega); rw [List.getElem?_eq_getElem hh] at this; rw [Option.some.inj this]; simp [List.getD, show m < u.length by omega]⟩
    obtain ⟨z, gz⟩ := g3
    obtain ⟨k, hk⟩ : ∃ k : Nat, k = 1 + j := ⟨_, rfl⟩
    rw [← hk] at h w1 w2 g1 gg1 b1 b5 hil
    obtain ⟨k2, hk2⟩ : ∃ k2 : Nat, k2 = 1 + (j + 1) := ⟨_, rfl⟩
    rw [← hk2] at w2
    rw [← hk2]
    by_cases hxy : x = y
    · rw [hxy] at g1 gg1
      simp -dsimp [h, At, hil, b1, b2, b3, b4, b5, b6, rl, w1, w2, w3, gg1, gg2, gz, hdn, hxy, ← hmm]
      exact ⟨by omega, u, hu, by omega, ht, fun i hi => by have := hr i hi; simpa [List.getD] using this, rfl⟩
    · simp -dsimp [h, At, hil, b1, b2, b3, b4, b5, b6, rl, w1, w2, w3, gg1, gg2, gz, hdn, hxy, ← hmm, ri_set]
      refine ⟨by omega, u.set m x, by simpa using hu, by omega, ?_, fun i hi => ?_, rfl⟩
      · rw [List.take_succ_eq_append_getElem (by simp; omega), ← ht]
        simp [List.take_set]
        exact List.set_eq_of_length_le (by rw [List.length_take]; omega)
      · have := hr i (by omega)
        rw [List.getElem?_set_ne (by omega)]
        simpa [List.getD] using this
  · have e : q + 1 + j = n := by omega
    rw [e] at h hm ht
    have b5 : ¬ ((1 + j : Nat) : Int) < ((n - q : Nat) : Int) := by omega
    obtain ⟨k, hk⟩ : ∃ k : Nat, k = 1 + j := ⟨_, rfl⟩
    rw [← hk] at h b5
    simp -dsimp [h, b5]
    refine ⟨by rw [ri_len]; exact hu, hQ _ u hu ht (by omega) ?_⟩
    simp -dsimp [At, h]

theorem compactL (l : List Int) (hn : l.length ≤ 1000000000) : DC Tryz.prog slices_Compact_Lint_int.id [.own 0 1 0 l.length l.length] [.mem false [] (ri l)]
    (fun r H => r = .own 0 1 0 (dd l l.length).length l.length ∧ ∃ u : List Int, u.length = l.length ∧ u.take (dd l l.length).length = dd l l.length ∧ (∀ x ∈ u, x = 0 ∨ x ∈ l) ∧ H = [.mem false [] (ri u)]) := by
  refine DC.of slices_Compact_Lint_int.ok (by simp) ?_
  unfold slices_Compact_Lint_int.ir
  obtain ⟨n, hl⟩ : ∃ n, l.length = n := ⟨_, rfl⟩
  rw [hl] at hn ⊢
  have rl : (ri l).length = n := by rw [ri_len]; exact hl
  refine vc_cut (At [(0, .own 0 1 0 n n)] [.mem false [] (ri l)]) (by simp -dsimp [At]) ?_
  try clear h
  rintro ⟨sl, hp, bs⟩ ⟨rfl, h⟩
  simp only [sls_cons, sls_one, sls_nil] at h
  by_cases h2 : n < 2
  · have i2 : (n : Int) < 2 := by omega
    have hd : dd l n = l := by rw [dd_all (fun i hi => by omega) (by omega), List.take_of_length_le (by omega)]
    simp -dsimp [h, i2, rl, slices_Compact_Lint_int.rs, hd, hl]
    exact ⟨l, hl, by rw [List.take_of_length_le (by omega)], fun x hx => .inr hx, rfl⟩
  have i2 : ¬ (n : Int) < 2 := by omega
  refine vc_cut (At [(0, .own 0 1 0 n n)] [.mem false [] (ri l)]) (by simp -dsimp [h, At, i2, rl]) ?_
  try clear h
  rintro ⟨sl, hp, bs⟩ ⟨rfl, h⟩
  simp only [sls_cons, sls_one, sls_nil] at h
  refine vc_cut (fun st => dd l n = l ∧ At [(0, .own 0 1 0 n n)] [.mem false [] (ri l)] st) ?_ ?_
  · refine vc_cut (At [(0, .own 0 1 0 n n), (3, V.i (1 + 0 : Nat))] [.mem false [] (ri l)]) (by simp -dsimp [h, At]) ?_
    try clear h
    rintro ⟨sl, hp, bs⟩ ⟨rfl, h⟩
    simp only [sls_cons, sls_one, sls_nil] at h
    refine vc_block_of (vc_upto 1 (by simp) (n - 1) (fun k st => (∀ i, i + 1 < 1 + k → l.getD (i + 1) 0 ≠ l.getD i 0) ∧ At [(0, .own 0 1 0 n n), (3, V.i (1 + k : Nat))] [.mem false [] (ri l)] st) ⟨fun i hi => by omega, rfl, by simpa using h⟩ ?_)
    clear h
    rintro k ⟨sl, hp, bs⟩ hk ⟨hu, rfl, h⟩
    simp only [sls_cons, sls_one] at h
    unfold slices_Compact_Lint_int.b0
    obtain ⟨q, hq⟩ : ∃ q : Nat, q = 1 + k := ⟨_, rfl⟩
    rw [← hq] at h hu
    by_cases hil : q < n
    · have hil' : (q : Int) < (n : Int) := by omega
      have w1 : IntKind.i64.wrap ((q : Int) - 1) = ((q - 1 : Nat) : Int) := by rw [wrap64] <;> omega
      have w2 : IntKind.i64.wrap ((q : Int) + 1) = ((1 + (k + 1) : Nat) : Int) := by rw [wrap64] <;> omega
      obtain ⟨x, hx⟩ : ∃ x, x = l.getD q 0 := ⟨_, rfl⟩
      obtain ⟨y, hy⟩ : ∃ y, y = l.getD (q - 1) 0 := ⟨_, rfl⟩
      have g1 : (ri l)[q]? = some [V.i x] := by rw [ri_get (by omega), hx]; simp [List.getD, show q < l.length by omega]
      have g2 : (ri l)[q - 1]? = some [V.i y] := by rw [ri_get (by omega), hy]; simp [List.getD, show q - 1 < l.length by omega]
      have gg1 : ∀ hh, (ri l)[q]'hh = [V.i x] := fun hh => by rw [List.getElem?_eq_getElem hh] at g1; exact Option.some.inj g1
      have gg2 : ∀ hh, (ri l)[q - 1]'hh = [V.i y] := fun hh => by rw [List.getElem?_eq_getElem hh] at g2; exact Option.some.inj g2
      obtain ⟨q1, hq1⟩ : ∃ q1, q1 = q - 1 := ⟨_, rfl⟩
      rw [← hq1] at w1 g2 gg2
      have b2 : q1 < n := by omega
      refine vc_cut (At [(0, .own 0 1 0 n n), (3, V.i q)] [.mem false [] (ri l)]) (by simp -dsimp [h, At, hil, hil', rl]) ?_
      try clear h
      rintro ⟨sl, hp, bs⟩ ⟨rfl, h⟩
      simp only [sls_cons, sls_one, sls_nil] at h
      refine vc_cut (fun st => x ≠ y ∧ At [(0, .own 0 1 0 n n), (3, V.i q)] [.mem false [] (ri l)] st) ?_ ?_
      · refine vc_block_of ?_
        refine vc_cut (At [(0, .own 0 1 0 n n), (3, V.i q), (25, .bool (x == y))] [.mem false [] (ri l)]) (by simp -dsimp [h, At, hil, hil', rl, w1, gg1, gg2, b2]) ?_
        try clear h
        rintro ⟨sl, hp, bs⟩ ⟨rfl, h⟩
        simp only [sls_cons, sls_one, sls_nil] at h
        by_cases hxy : x = y
        · have h25 : gt sl 25 = .bool true := by rw [h.2.2, hxy]; simp
          have hddq : dd l q = l.take q := dd_all (fun i hi => hu i (by omega)) (by omega)
          rw [vc_cond_true (by simpa using h25)]
          refine vc_cut (At [(0, .own 0 1 0 n n), (3, V.i q), (4, .own 0 1 q (n - q) n)] [.mem false [] (ri l)]) (by simp -dsimp [h, At, rl]; omega) ?_
          try clear h
          rintro ⟨sl, hp, bs⟩ ⟨rfl, h⟩
          simp only [sls_cons, sls_one, sls_nil] at h
          refine vc_cut (fun st => ∃ u : List Int, u.length = n ∧ u.take (dd l n).length = dd l n ∧ (dd l n).length < n ∧ At [(0, .own 0 1 0 n n), (3, V.i (dd l n).length)] [.mem false [] (ri u)] st) ?_ ?_
          · refine vc_cut (At [(0, .own 0 1 0 n n), (3, V.i q), (4, .own 0 1 q (n - q) n), (5, V.i 1)] [.mem false [] (ri l)]) (by simp -dsimp [h, At]) ?_
            try clear h
            rintro ⟨sl, hp, bs⟩ ⟨rfl, h⟩
            simp only [sls_cons, sls_one, sls_nil] at h
            exact vc_block_of (compact_in hl hn (by omega) hil hddq (by rw [← hx, hxy, hy]) ⟨rfl, by simpa using h⟩ fun s u a b c d => ⟨u, a, b, c, d⟩)
          clear h h25
          rintro ⟨sl, hp, bs⟩ ⟨u, hul, hut, hlt, rfl, h⟩; simp only [sls_cons, sls_one] at h
          have rlu : (ri u).length = n := by rw [ri_len]; exact hul
          have hle : (dd l n).length ≤ n := by omega
          have hle' : ((dd l n).length : Int) ≤ n := by omega
          simp -dsimp [h, hle, hle', rlu, slices_Compact_Lint_int.rs]
          refine ⟨dd l n ++ List.replicate (n - (dd l n).length) 0, by simp; omega, by simp, fun z hz => ?_, ?_⟩
          · rcases List.mem_append.1 hz with hz | hz
            · have := (dd_mem (l := l) n (by omega)).1 hz
              exact .inr (List.mem_of_mem_take this)
            · exact .inl (List.eq_of_mem_replicate hz)
          · rw [List.drop_of_length_le (by omega), ri_take, hut]
            simp [ri]
        · simp -dsimp [h, hxy, At]
      rintro ⟨sl, hp, bs⟩ ⟨hne, rfl, h⟩; simp only [sls_cons, sls_one] at h
      simp -dsimp [h, At, w2]
      refine ⟨by omega, fun i hi => ?_⟩
      by_cases hiq : i + 1 < q
      · have := hu i hiq; simpa [List.getD] using this
      · have e1 : i + 1 = q := by omega
        have e2 : i = q - 1 := by omega
        rw [e1, e2]
        rw [hx, hy] at hne
        simpa [List.getD] using hne
    · have hil' : ¬ (q : Int) < (n : Int) := by omega
      have e : q = n := by omega
      have hd : dd l n = l := by rw [dd_all (fun i hi => hu i (by omega)) (by omega), List.take_of_length_le (by omega)]
      simp -dsimp [h, hil', At, hd, rl]
  rintro ⟨sl, hp, bs⟩ ⟨hd, rfl, h⟩; simp only [sls_one] at h
  simp -dsimp [h, slices_Compact_Lint_int.rs, hd, hl, rl]
  exact ⟨l, hl, by rw [List.take_of_length_le (by omega)], fun x hx => .inr hx, rfl⟩
end Go.Abs.G


/- More calls as steps. -/
namespace Go.Abs
set_option linter.unusedVariables false
section
variable {P : Program} {k : St → Prop} {st : St} {d : Option Nat} {ap : List Nat} {f : FuncId} {xs : List Operand}
theorem gcalla {zs : List V} {H0 : Heap} {r0 : V} {H1 : Heap} (hc : DC P f zs H0 fun r H => r = r0 ∧ H = H1) (sel : List Nat) (hs : clos st.hp 8 (addAll [] (V.idsL (xs.map st.ev))) = sel) (hok : OkSel st.hp sel) (hap : ∀ t ∈ ap, ∀ k, (gt st.sl t).oid = some k → k ∉ sel) (ha : V.renL (idx sel) (xs.map st.ev) = zs) (hH : sub st.hp sel = H0)
    (hf : okFunc P f = true) (hk : k ({ st with hp := merge st.hp sel H1 }.put d (r0.ren (back sel st.hp.length)))) : IvcF P (.calla ap d (.func f) xs) k st := calla_go hc sel hs hok hap ha hH hf hk
end
end Go.Abs

namespace Go.Abs.G
open Go.Proofs
set_option linter.unusedVariables false
set_option linter.unusedSimpArgs false

def srt (l : List Int) : List Int := l.mergeSort (fun x y => decide (x ≤ y))
theorem srt_len (l : List Int) : (srt l).length = l.length := by simp [srt, List.length_mergeSort]
theorem srt_mem {l : List Int} {x : Int} : x ∈ srt l ↔ x ∈ l := by simp [srt, List.mem_mergeSort]
theorem srt_up (l : List Int) : (srt l).Pairwise (· ≤ ·) := by
  have := List.pairwise_mergeSort (le := fun x y : Int => decide (x ≤ y)) (fun a b c h1 h2 => by simp at *; omega) (fun a b => by simp; omega) l
  exact this.imp fun h => by simpa using h

theorem sortL (l : List Int) (hn : l.length ≤ 1000000000) : DC Tryz.prog slices_Sort_Lint_int.id [.own 0 1 0 l.length l.length] [.mem false [] (ri l)] (fun r H => H = [.mem false [] (ri (srt l))]) := by
  have h := sort_spec l.toArray (by simp; omega)
  simp only [List.size_toArray] at h
  refine DC.trim (Q := fun r H => (∀ i ∈ r.ids, i < 1) ∧ ∃ J, H = .mem false [] (ri (srt l)) :: J) ?_ ?_
  · refine DC.mono h fun r H hH => ?_
    obtain ⟨hr, J, rfl⟩ := hH
    exact ⟨by rw [hr]; simp, J, by simp [rowsO, ri, srt]⟩
  · rintro r H ⟨hr, J, rfl⟩
    exact ⟨1, by simp, hr, by simp⟩
structure SortedU (l u : List Int) (k : Nat) : Prop where
  n : u.length = l.length
  m : k ≤ l.length
  up : (u.take k).Pairwise (· < ·)
  mem : ∀ x, x ∈ u.take k ↔ x ∈ l
  z : ∀ x ∈ u, x = 0 ∨ x ∈ l
theorem sorted_spec (l : List Int) (hn : l.length ≤ 1000000000) : DC Tryz.prog hall_sorted.id [.own 0 1 0 l.length l.length] [.mem false [] (ri l)] (fun r H => ∃ u m, r = .own 0 1 0 m l.length ∧ SortedU l u m ∧ H = [.mem false [] (ri u)]) := by
  refine DC.of hall_sorted.ok (by simp) ?_
  unfold hall_sorted.ir
  have hc := compactL (srt l) (by rw [srt_len]; exact hn)
  rw [srt_len] at hc
  refine vc_cut (At [(0, .own 0 1 0 l.length l.length)] [.mem false [] (ri l)]) (by simp -dsimp [At]) ?_
  try clear h
  rintro ⟨sl, hp, bs⟩ ⟨rfl, h⟩
  simp only [sls_cons, sls_one, sls_nil] at h
  refine vc_cut (At [(0, .own 0 1 0 l.length l.length)] [.mem false [] (ri (srt l))]) ?_ ?_
  · simp -dsimp [h]
    refine gcallm_gen (sortL l hn) [0] (by simp -dsimp [h, addAll]) ⟨by simp, by simp, by simp, by simp⟩ (by simp -dsimp [h, idx, List.idxOf_cons]) (by simp [sub, ri_ren]) (by simp) ?_
    rintro r H rfl
    simp -dsimp [h, At, merge, place, ri_ren]
  try clear h
  rintro ⟨sl, hp, bs⟩ ⟨rfl, h⟩
  simp only [sls_cons, sls_one, sls_nil] at h
  simp -dsimp [h]
  refine gcallm_gen hc [0] (by simp -dsimp [h, addAll]) ⟨by simp, by simp, by simp, by simp⟩ (by simp -dsimp [h, idx, List.idxOf_cons]) (by simp [sub, ri_ren]) (by simp) ?_
  rintro r H ⟨rfl, u, hu, hut, huz, rfl⟩
  simp -dsimp [h, merge, place, ri_ren, back, hall_sorted.rs]
  refine ⟨u, ⟨hu, by have := dd_len (srt l) l.length; omega, ?_, fun x => ?_, fun x hx => by rw [← srt_mem (l := l)]; exact huz x hx⟩, rfl⟩
  · rw [hut]; exact dd_up (srt_up l) _ (by rw [srt_len]; exact Nat.le_refl _)
  · rw [hut, dd_mem _ (by rw [srt_len]; exact Nat.le_refl _), List.take_of_length_le (by rw [srt_len]; exact Nat.le_refl _), srt_mem]
theorem sorted_nil : DC Tryz.prog hall_sorted.id [nilS] [] (fun r H => r = .own 0 1 0 0 0 ∧ H = [.mem false [] []]) := by
  refine DC.argnil (es := 1) (DC.mono (sorted_spec [] (by simp)) ?_)
  rintro r H ⟨u, m, rfl, hu, rfl⟩
  have h0 : m = 0 := by have := hu.m; simp at this; exact this
  have hu0 : u = [] := List.eq_nil_of_length_eq_zero hu.n
  subst h0 hu0
  exact ⟨rfl, rfl⟩
end Go.Abs.G


namespace Go.Abs.G
open Go.Proofs
set_option linter.unusedVariables false
set_option linter.unusedSimpArgs false

theorem ftake (p : Int → Bool) {xs : List Int} {i : Nat} (h : i < xs.length) : (xs.take (i + 1)).filter p = if p xs[i] then (xs.take i).filter p ++ [xs[i]] else (xs.take i).filter p := by
  rw [List.take_succ_eq_append_getElem h, List.filter_append]
  cases hp : p xs[i] <;> simp [hp]

theorem places_spec {s : List Dom} {ms : List (List Dom)} (hs : Two s ms) (xs : List Int) (hx : xs.length ≤ 1000000) :
    DC Tryz.prog hall_places.id [vInts xs, .ptr 0 1 0 0] [ST s ms] (fun r H => r = vInts (placesB s xs) ∧ H = [ST s ms]) := by
  refine DC.nilv (Q := fun r H => (r = vInts (placesB s xs) ∨ r = .a (.slice none 0 0) ∧ placesB s xs = []) ∧ H = [ST s ms]) 1 ?_ ?_
  rotate_left
  · rintro r H ⟨rfl | ⟨rfl, e⟩, rfl⟩
    · exact .inl ⟨rfl, rfl⟩
    · exact .inr ⟨rfl, by rw [e]; rfl, rfl⟩
  refine DC.trim (Q := fun r H => (r = vInts (placesB s xs) ∨ r = .a (.slice none 0 0) ∧ placesB s xs = []) ∧ ∃ E, H = ST s ms :: E) ?_ ?_
  rotate_left
  · rintro r H ⟨hr, E, rfl⟩
    refine ⟨1, by simp, ?_, hr, by simp⟩
    rcases hr with rfl | ⟨rfl, _⟩ <;> simp [V.ids, vInts]
  refine DC.of hall_places.ok (by simp) ?_
  unfold hall_places.ir
  have hn := hs.n
  have hP : ∀ i, (placesB s (xs.take i)).length ≤ i := fun i => Nat.le_trans (List.length_filter_le _ _) (by simp; omega)
  refine vc_cut (At [(0, vInts xs), (1, .ptr 0 1 0 0)] [ST s ms]) (by simp -dsimp [At]) ?_
  try clear h
  rintro ⟨sl, hp, bs⟩ ⟨rfl, h⟩
  simp only [sls_cons, sls_one, sls_nil] at h
  refine vc_cut (At [(0, vInts xs), (1, .ptr 0 1 0 0), (5, nilS)] [ST s ms]) (by simp -dsimp [h, At]) ?_
  try clear h
  rintro ⟨sl, hp, bs⟩ ⟨rfl, h⟩
  simp only [sls_cons, sls_one, sls_nil] at h
  refine vc_cut (fun st => (placesB s xs = [] ∧ gt st.sl 5 = nilS ∧ st.hp = [ST s ms]) ∨ (gt st.sl 5 = .own 2 1 0 (placesB s xs).length (placesB s xs).length ∧ st.hp = [ST s ms, .res, .mem false [] (ri (placesB s xs))])) ?_ ?_
  · refine vc_cut (At [(1, .ptr 0 1 0 0), (5, nilS), (8, vInts xs), (9, V.i xs.length), (10, V.i 0)] [ST s ms]) (by simp -dsimp [h, At, vInts]) ?_
    try clear h
    rintro ⟨sl, hp, bs⟩ ⟨rfl, h⟩
    simp only [sls_cons, sls_one, sls_nil] at h
    refine vc_block_of (vc_upto 3 (by simp) xs.length (fun i st => (placesB s (xs.take i) = [] ∧ At [(1, .ptr 0 1 0 0), (5, nilS), (8, vInts xs), (9, V.i xs.length), (10, V.i i)] [ST s ms] st) ∨ (At [(1, .ptr 0 1 0 0), (5, .own 2 1 0 (placesB s (xs.take i)).length (placesB s (xs.take i)).length), (8, vInts xs), (9, V.i xs.length), (10, V.i i)] [ST s ms, .res, .mem false [] (ri (placesB s (xs.take i)))] st)) (.inl ⟨rfl, rfl, by simpa using h⟩) ?_)
    clear h
    rintro i ⟨sl, hp, bs⟩ hi hh
    unfold hall_places.b0
    by_cases hil : i < xs.length
    · have hil' : (i : Int) < xs.length := by omega
      have hw : IntKind.i64.wrap ((i : Int) + 1) = ((i + 1 : Nat) : Int) := by rw [wrap64] <;> omega
      have hf : placesB s (xs.take (i + 1)) = if isB s xs[i] then placesB s (xs.take i) ++ [xs[i]] else placesB s (xs.take i) := ftake _ hil
      obtain ⟨x, hxx⟩ : ∃ x, x = xs[i] := ⟨_, rfl⟩
      rw [← hxx] at hf
      obtain ⟨P, hPP⟩ : ∃ P, P = placesB s (xs.take i) := ⟨_, rfl⟩
      have hPl := hP i
      rw [← hPP] at hh hf hPl
      have hb : ((P.length : Int) + 1) * 8 ≤ 140737488355328 := by omega
      rcases hh with ⟨he, rfl, h⟩ | ⟨rfl, h⟩ <;> simp only [sls_cons, sls_one] at h
      · by_cases h0 : 0 ≤ x
        · by_cases h1 : x < s.length
          · have hib : isB s x = true := by simp [isB, h0, h1]
            simp -dsimp [h, hil, hil', vInts, ← hxx, h0]
            refine gcallm1 (varsT hs) 0 (by simp -dsimp [h, addAll]) (by simp -dsimp [h]) (by simp) (by simp) (by simp) (by simp -dsimp [h, idx]) (by simp) ?_
            simp -dsimp [h, hil, hil', h0, h1, At, hw, hf, hib, he, ri, vInts]
          · have hib : isB s x = false := by simp [isB, h1]
            simp -dsimp [h, hil, hil', vInts, ← hxx, h0]
            refine gcallm1 (varsT hs) 0 (by simp -dsimp [h, addAll]) (by simp -dsimp [h]) (by simp) (by simp) (by simp) (by simp -dsimp [h, idx]) (by simp) ?_
            simp -dsimp [h, hil, hil', h0, h1, At, hw, hf, hib, he, vInts]
        · have hib : isB s x = false := by simp [isB, h0]
          simp -dsimp [h, hil, hil', vInts, ← hxx, h0, At, hw, hf, hib, he]
      · have rl : (ri P).length = P.length := ri_len P
        by_cases h0 : 0 ≤ x
        · by_cases h1 : x < s.length
          · have hib : isB s x = true := by simp [isB, h0, h1]
            simp -dsimp [h, hil, hil', vInts, ← hxx, h0]
            refine gcallm1 (varsT hs) 0 (by simp -dsimp [h, addAll]) (by simp -dsimp [h]) (by simp) (by simp) (by simp) (by simp -dsimp [h, idx]) (by simp) ?_
            simp -dsimp [h, hil, hil', h0, h1, At, hw, hf, hib, rl, hb, vInts]
            simp [ri]
          · have hib : isB s x = false := by simp [isB, h1]
            simp -dsimp [h, hil, hil', vInts, ← hxx, h0]
            refine gcallm1 (varsT hs) 0 (by simp -dsimp [h, addAll]) (by simp -dsimp [h]) (by simp) (by simp) (by simp) (by simp -dsimp [h, idx]) (by simp) ?_
            simp -dsimp [h, hil, hil', h0, h1, At, hw, hf, hib, vInts]
        · have hib : isB s x = false := by simp [isB, h0]
          simp -dsimp [h, hil, hil', vInts, ← hxx, h0, At, hw, hf, hib]
    · have hil' : ¬ (i : Int) < xs.length := by omega
      have ht : xs.take i = xs := List.take_of_length_le (by omega)
      rw [ht] at hh
      rcases hh with ⟨he, rfl, h⟩ | ⟨rfl, h⟩ <;> simp only [sls_cons, sls_one] at h
      · simp -dsimp [h, hil', he]
      · simp -dsimp [h, hil']
  clear h
  have ht : List.take (placesB s xs).length (ri (placesB s xs)) = ri (placesB s xs) := List.take_of_length_le (by rw [ri_len]; exact Nat.le_refl _)
  rintro ⟨sl, hp, bs⟩ (⟨he, h, rfl⟩ | ⟨h, rfl⟩)
  · simp -dsimp [h, he, hall_places.rs, vInts]
  · simp -dsimp [h, hall_places.rs, vInts, ht, ri_len]
    rfl
end Go.Abs.G


namespace Go.Abs.G
open Go.Proofs
set_option linter.unusedVariables false
set_option linter.unusedSimpArgs false

theorem has13_spec (a b v : Int) : Pf Tryz.prog hall_ends_has.id [.agg [V.i a, V.i b], V.i v] (.bool (decide (a ≤ v) && decide (v ≤ b))) := by
  refine DC.of hall_ends_has.ok (by simp) ?_
  unfold hall_ends_has.ir
  by_cases h1 : a ≤ v
  · simp -dsimp [h1, hall_ends_has.rs]
  · simp -dsimp [h1, hall_ends_has.rs]
theorem size13_spec (a b : Int) (h0 : -4000000000 ≤ a) (h1 : b ≤ 4000000000) (h2 : a ≤ b) : Pf Tryz.prog hall_ends_size.id [.agg [V.i a, V.i b]] (V.i (b - a + 1)) := by
  refine DC.of hall_ends_size.ok (by simp) ?_
  unfold hall_ends_size.ir
  have w1 : IntKind.i64.wrap (b - a) = b - a := by rw [wrap64] <;> omega
  have w2 : IntKind.i64.wrap (b - a + 1) = b - a + 1 := by rw [wrap64] <;> omega
  simp -dsimp [w1, w2, hall_ends_size.rs]

def insK (s : List Dom) (l : List Int) (a b : Int) (n : Nat) : List Int := (((List.range n).filter fun p => decide (a ≤ loB s (l.getD p 0)) && decide (hiB s (l.getD p 0) ≤ b))).map fun (p : Nat) => (p : Int)
theorem insK_succ (s : List Dom) (l : List Int) (a b : Int) (n : Nat) : insK s l a b (n + 1) = if (decide (a ≤ loB s (l.getD n 0)) && decide (hiB s (l.getD n 0) ≤ b)) = true then insK s l a b n ++ [(n : Int)] else insK s l a b n := by
  unfold insK
  rw [List.range_succ, List.filter_append, List.map_append]
  have e : ([n].filter fun p => decide (a ≤ loB s (l.getD p 0)) && decide (hiB s (l.getD p 0) ≤ b)) = if (decide (a ≤ loB s (l.getD n 0)) && decide (hiB s (l.getD n 0) ≤ b)) = true then [n] else [] := by
    simp only [List.filter_cons, List.filter_nil]
  rw [e]
  split
  · rfl
  · rw [List.map_nil, List.append_nil]
theorem insK_len (s : List Dom) (l : List Int) (a b : Int) (n : Nat) : (insK s l a b n).length ≤ n := by
  unfold insK; rw [List.length_map]; exact Nat.le_trans (List.length_filter_le _ _) (by simp)
theorem insK_ins (s : List Dom) (l : List Int) (a b : Int) : insK s l a b l.length = (insB s l a b).map fun (p : Nat) => (p : Int) := rfl

theorem inside_spec {s : List Dom} {ms : List (List Dom)} (hs : Two s ms) (l : List Int) (hx : l.length ≤ 1000000) (a b : Int) :
    DC Tryz.prog hall_inside.id [vInts l, .ptr 0 1 0 0, .agg [V.i a, V.i b]] [ST s ms] (fun r H => r = vInts ((insB s l a b).map fun (p : Nat) => (p : Int)) ∧ H = [ST s ms]) := by
  rw [← insK_ins]
  refine DC.nilv (Q := fun r H => (r = vInts (insK s l a b l.length) ∨ r = .a (.slice none 0 0) ∧ insK s l a b l.length = []) ∧ H = [ST s ms]) 1 ?_ ?_
  rotate_left
  · rintro r H ⟨rfl | ⟨rfl, e⟩, rfl⟩
    · exact .inl ⟨rfl, rfl⟩
    · exact .inr ⟨rfl, by rw [e]; rfl, rfl⟩
  refine DC.trim (Q := fun r H => (r = vInts (insK s l a b l.length) ∨ r = .a (.slice none 0 0) ∧ insK s l a b l.length = []) ∧ ∃ E, H = ST s ms :: E) ?_ ?_
  rotate_left
  · rintro r H ⟨hr, E, rfl⟩
    refine ⟨1, by simp, ?_, hr, by simp⟩
    rcases hr with rfl | ⟨rfl, _⟩ <;> simp [V.ids, vInts]
  refine DC.of hall_inside.ok (by simp) ?_
  unfold hall_inside.ir
  have hn := hs.n
  obtain ⟨B, hB⟩ : ∃ B, B = O.mem false [] [[V.i a, V.i b]] := ⟨_, rfl⟩
  have hBr : B.refs = [] := by rw [hB]; rfl
  refine vc_cut (At [(0, vInts l), (1, .ptr 0 1 0 0), (5, .ptr 1 1 0 0)] [ST s ms, B]) (by simp -dsimp [At, hB]) ?_
  try clear h
  rintro ⟨sl, hp, bs⟩ ⟨rfl, h⟩
  simp only [sls_cons, sls_one, sls_nil] at h
  refine vc_cut (At [(0, vInts l), (1, .ptr 0 1 0 0), (5, .ptr 1 1 0 0), (7, nilS)] [ST s ms, B]) (by simp -dsimp [h, At]) ?_
  try clear h
  rintro ⟨sl, hp, bs⟩ ⟨rfl, h⟩
  simp only [sls_cons, sls_one, sls_nil] at h
  refine vc_cut (fun st => (insK s l a b l.length = [] ∧ gt st.sl 7 = nilS ∧ st.hp = [ST s ms, B]) ∨ (gt st.sl 7 = .own 3 1 0 (insK s l a b l.length).length (insK s l a b l.length).length ∧ st.hp = [ST s ms, B, .res, .mem false [] (ri (insK s l a b l.length))])) ?_ ?_
  · refine vc_cut (At [(1, .ptr 0 1 0 0), (5, .ptr 1 1 0 0), (7, nilS), (10, vInts l), (11, V.i l.length), (12, V.i 0)] [ST s ms, B]) (by simp -dsimp [h, At, vInts]) ?_
    try clear h
    rintro ⟨sl, hp, bs⟩ ⟨rfl, h⟩
    simp only [sls_cons, sls_one, sls_nil] at h
    refine vc_block_of (vc_upto 4 (by simp) l.length (fun i st => (insK s l a b i = [] ∧ At [(1, .ptr 0 1 0 0), (5, .ptr 1 1 0 0), (7, nilS), (10, vInts l), (11, V.i l.length), (12, V.i i)] [ST s ms, B] st) ∨ (At [(1, .ptr 0 1 0 0), (5, .ptr 1 1 0 0), (7, .own 3 1 0 (insK s l a b i).length (insK s l a b i).length), (10, vInts l), (11, V.i l.length), (12, V.i i)] [ST s ms, B, .res, .mem false [] (ri (insK s l a b i))] st)) (.inl ⟨rfl, rfl, by simpa using h⟩) ?_)
    clear h
    rintro i ⟨sl, hp, bs⟩ hi hh
    unfold hall_inside.b0
    by_cases hil : i < l.length
    · have hil' : (i : Int) < l.length := by omega
      have hw : IntKind.i64.wrap ((i : Int) + 1) = ((i + 1 : Nat) : Int) := by rw [wrap64] <;> omega
      have hf := insK_succ s l a b i
      have eg : l.getD i 0 = l[i] := by simp [List.getD, hil]
      rw [eg] at hf
      obtain ⟨x, hxx⟩ : ∃ x, x = l[i] := ⟨_, rfl⟩
      rw [← hxx] at hf
      obtain ⟨P, hPP⟩ : ∃ P, P = insK s l a b i := ⟨_, rfl⟩
      have hPl := insK_len s l a b i
      rw [← hPP] at hh hf hPl
      have hb : ((P.length : Int) + 1) * 8 ≤ 140737488355328 := by omega
      have rl : (ri P).length = P.length := ri_len P
      rcases hh with ⟨he, rfl, h⟩ | ⟨rfl, h⟩ <;> simp only [sls_cons, sls_one] at h
      · by_cases h0 : a ≤ loB s x
        · by_cases h1 : hiB s x ≤ b
          · have hlh := lo_le_hi (s := s) x
            have c1 : loB s x ≤ b := by omega
            have c2 : a ≤ hiB s x := by omega
            simp -dsimp [h, hil, hil', vInts, ← hxx, hB]
            refine gcalla1 (loT hs x) 0 (by simp -dsimp [h, hB, addAll]) (by simp) (by simp) (by simp) (by simp) (by simp -dsimp [h, hB]) (by simp -dsimp [h, hB, idx]) (by simp) ?_
            simp -dsimp [h, hB]
            refine gcall (has13_spec a b (loB s x)) (by simp -dsimp [h, h0, c1, hB]) (by simp -dsimp [h, h0, c1, hB]) ?_
            simp -dsimp [h, h0, c1, hB]
            refine gcalla1 (hiT hs x) 0 (by simp -dsimp [h, hB, addAll]) (by simp) (by simp) (by simp) (by simp) (by simp -dsimp [h, hB]) (by simp -dsimp [h, hB, idx]) (by simp) ?_
            simp -dsimp [h, hB]
            refine gcall (has13_spec a b (hiB s x)) (by simp -dsimp [h, h1, c2, At, hw, hil, hil', hf, h0, he, ri, vInts, hB]) (by simp -dsimp [h, h1, c2, At, hw, hil, hil', hf, h0, he, ri, vInts, hB]) ?_
            simp -dsimp [h, h1, c2, At, hw, hil, hil', hf, h0, he, ri, vInts, hB]
          · by_cases c1 : loB s x ≤ b
            · simp -dsimp [h, hil, hil', vInts, ← hxx, hB]
              refine gcalla1 (loT hs x) 0 (by simp -dsimp [h, hB, addAll]) (by simp) (by simp) (by simp) (by simp) (by simp -dsimp [h, hB]) (by simp -dsimp [h, hB, idx]) (by simp) ?_
              simp -dsimp [h, hB]
              refine gcall (has13_spec a b (loB s x)) (by simp -dsimp [h, h0, c1, hB]) (by simp -dsimp [h, h0, c1, hB]) ?_
              simp -dsimp [h, h0, c1, hB]
              refine gcalla1 (hiT hs x) 0 (by simp -dsimp [h, hB, addAll]) (by simp) (by simp) (by simp) (by simp) (by simp -dsimp [h, hB]) (by simp -dsimp [h, hB, idx]) (by simp) ?_
              simp -dsimp [h, hB]
              refine gcall (has13_spec a b (hiB s x)) (by simp -dsimp [h, h1, At, hw, hil, hil', hf, h0, he, ri, vInts, hB]) (by simp -dsimp [h, h1, At, hw, hil, hil', hf, h0, he, ri, vInts, hB]) ?_
              simp -dsimp [h, h1, At, hw, hil, hil', hf, h0, he, ri, vInts, hB]
            · simp -dsimp [h, hil, hil', vInts, ← hxx, hB]
              refine gcalla1 (loT hs x) 0 (by simp -dsimp [h, hB, addAll]) (by simp) (by simp) (by simp) (by simp) (by simp -dsimp [h, hB]) (by simp -dsimp [h, hB, idx]) (by simp) ?_
              simp -dsimp [h, hB]
              refine gcall (has13_spec a b (loB s x)) (by simp -dsimp [h, h0, c1, h1, At, hw, hil, hil', hf, he, vInts, hB]) (by simp -dsimp [h, h0, c1, h1, At, hw, hil, hil', hf, he, vInts, hB]) ?_
              simp -dsimp [h, h0, c1, h1, At, hw, hil, hil', hf, he, vInts, hB]
        · simp -dsimp [h, hil, hil', vInts, ← hxx, hB]
          refine gcalla1 (loT hs x) 0 (by simp -dsimp [h, hB, addAll]) (by simp) (by simp) (by simp) (by simp) (by simp -dsimp [h, hB]) (by simp -dsimp [h, hB, idx]) (by simp) ?_
          simp -dsimp [h, hB]
          refine gcall (has13_spec a b (loB s x)) (by simp -dsimp [h, h0, At, hw, hil, hil', hf, he, vInts, hB]) (by simp -dsimp [h, h0, At, hw, hil, hil', hf, he, vInts, hB]) ?_
          simp -dsimp [h, h0, At, hw, hil, hil', hf, he, vInts, hB]
      · by_cases h0 : a ≤ loB s x
        · by_cases h1 : hiB s x ≤ b
          · have hlh := lo_le_hi (s := s) x
            have c1 : loB s x ≤ b := by omega
            have c2 : a ≤ hiB s x := by omega
            simp -dsimp [h, hil, hil', vInts, ← hxx, hB]
            refine gcalla1 (loT hs x) 0 (by simp -dsimp [h, hB, addAll]) (by simp) (by simp) (by simp) (by simp) (by simp -dsimp [h, hB]) (by simp -dsimp [h, hB, idx]) (by simp) ?_
            simp -dsimp [h, hB]
            refine gcall (has13_spec a b (loB s x)) (by simp -dsimp [h, h0, c1, hB]) (by simp -dsimp [h, h0, c1, hB]) ?_
            simp -dsimp [h, h0, c1, hB]
            refine gcalla1 (hiT hs x) 0 (by simp -dsimp [h, hB, addAll]) (by simp) (by simp) (by simp) (by simp) (by simp -dsimp [h, hB]) (by simp -dsimp [h, hB, idx]) (by simp) ?_
            simp -dsimp [h, hB]
            refine gcall (has13_spec a b (hiB s x)) (by simp -dsimp [h, h1, c2, At, hw, hil, hil', hf, h0, rl, hb, vInts, hB]) (by simp -dsimp [h, h1, c2, At, hw, hil, hil', hf, h0, rl, hb, vInts, hB]) ?_
            simp -dsimp [h, h1, c2, At, hw, hil, hil', hf, h0, rl, hb, vInts, hB]
            simp [ri]
          · by_cases c1 : loB s x ≤ b
            · simp -dsimp [h, hil, hil', vInts, ← hxx, hB]
              refine gcalla1 (loT hs x) 0 (by simp -dsimp [h, hB, addAll]) (by simp) (by simp) (by simp) (by simp) (by simp -dsimp [h, hB]) (by simp -dsimp [h, hB, idx]) (by simp) ?_
              simp -dsimp [h, hB]
              refine gcall (has13_spec a b (loB s x)) (by simp -dsimp [h, h0, c1, hB]) (by simp -dsimp [h, h0, c1, hB]) ?_
              simp -dsimp [h, h0, c1, hB]
              refine gcalla1 (hiT hs x) 0 (by simp -dsimp [h, hB, addAll]) (by simp) (by simp) (by simp) (by simp) (by simp -dsimp [h, hB]) (by simp -dsimp [h, hB, idx]) (by simp) ?_
              simp -dsimp [h, hB]
              refine gcall (has13_spec a b (hiB s x)) (by simp -dsimp [h, h1, At, hw, hil, hil', hf, h0, vInts, hB]) (by simp -dsimp [h, h1, At, hw, hil, hil', hf, h0, vInts, hB]) ?_
              simp -dsimp [h, h1, At, hw, hil, hil', hf, h0, vInts, hB]
            · simp -dsimp [h, hil, hil', vInts, ← hxx, hB]
              refine gcalla1 (loT hs x) 0 (by simp -dsimp [h, hB, addAll]) (by simp) (by simp) (by simp) (by simp) (by simp -dsimp [h, hB]) (by simp -dsimp [h, hB, idx]) (by simp) ?_
              simp -dsimp [h, hB]
              refine gcall (has13_spec a b (loB s x)) (by simp -dsimp [h, h0, c1, h1, At, hw, hil, hil', hf, vInts, hB]) (by simp -dsimp [h, h0, c1, h1, At, hw, hil, hil', hf, vInts, hB]) ?_
              simp -dsimp [h, h0, c1, h1, At, hw, hil, hil', hf, vInts, hB]
        · simp -dsimp [h, hil, hil', vInts, ← hxx, hB]
          refine gcalla1 (loT hs x) 0 (by simp -dsimp [h, hB, addAll]) (by simp) (by simp) (by simp) (by simp) (by simp -dsimp [h, hB]) (by simp -dsimp [h, hB, idx]) (by simp) ?_
          simp -dsimp [h, hB]
          refine gcall (has13_spec a b (loB s x)) (by simp -dsimp [h, h0, At, hw, hil, hil', hf, vInts, hB]) (by simp -dsimp [h, h0, At, hw, hil, hil', hf, vInts, hB]) ?_
          simp -dsimp [h, h0, At, hw, hil, hil', hf, vInts, hB]
    · have hil' : ¬ (i : Int) < l.length := by omega
      have hil2 : i = l.length := by omega
      rw [hil2] at hh
      rcases hh with ⟨he, rfl, h⟩ | ⟨rfl, h⟩ <;> simp only [sls_cons, sls_one] at h
      · simp -dsimp [h, hil', he]
      · simp -dsimp [h, hil']
  clear h
  obtain ⟨P, hPP⟩ : ∃ P, P = insK s l a b l.length := ⟨_, rfl⟩
  rw [← hPP]
  have ht : List.take P.length (ri P) = ri P := List.take_of_length_le (by rw [ri_len]; exact Nat.le_refl _)
  rintro ⟨sl, hp, bs⟩ (⟨he, h, rfl⟩ | ⟨h, rfl⟩)
  · simp -dsimp [h, he, hall_inside.rs, vInts]
  · simp -dsimp [h, hall_inside.rs, vInts, ht, ri_len]
    rfl
end Go.Abs.G


namespace Go.Abs.G
open Go.Proofs
set_option linter.unusedVariables false
set_option linter.unusedSimpArgs false

def Iv.cells (i : Iv) : List V := [V.i i.a, V.i i.b, vInts (i.w.map fun (p : Nat) => (p : Int))]
/-- What is gathered so far. -/
structure IvM (s : List Dom) (l : List Int) (L : List Iv) : Prop where
  m : ∀ i ∈ L, i.a ≤ i.b ∧ i.w = insB s l i.a i.b ∧ -1000000000 ≤ i.a ∧ i.b < 1000000064
/-- The heap in the loops of intervals. -/
def KIv (s : List Dom) (ms : List (List Dom)) (u h : List Int) : Heap := [ST s ms, .res, .mem false [] (ri u), .res, .mem false [] (ri h)]
def CIv (s : List Dom) (ms : List (List Dom)) (u h : List Int) (L : List Iv) (st : St) : Prop :=
  (L = [] ∧ gt st.sl 9 = nilS ∧ st.hp = KIv s ms u h) ∨ (gt st.sl 9 = .own 7 3 0 L.length L.length ∧ ∃ E : O, E.refs = [] ∧ st.hp = KIv s ms u h ++ [E, .res, .mem false [] (L.map Iv.cells)])

theorem iv_b2 {s : List Dom} {ms : List (List Dom)} (hs : Two s ms) {l : List Int} (hx : l.length ≤ 1000) {u h : List Int} {n k p m : Nat} (hn : h.length = n) (hk : k ≤ n) (hk2 : n ≤ 1000) {a : Int} (ha : -1000000000 ≤ a) (hh : ∀ x ∈ h, -1000000000 ≤ x ∧ x < 1000000064)
    {L0 : List Iv} (hL0 : IvM s l L0) (hsz : L0.length ≤ 2000000) {Q : Ex → St → Prop} {st : St} (hC : CIv s ms u h L0 st)
    (g : Sls [(0, vInts l), (1, .ptr 0 1 0 0), (6, .own 4 1 0 n n), (11, V.i a), (35, .own 2 1 0 m n), (36, V.i m), (37, V.i p), (42, .own 4 1 0 k n), (43, V.i k), (44, V.i 0)] st)
    (hQ : ∀ (st' : St) (L : List Iv), CIv s ms u h L st' → Sls [(0, vInts l), (1, .ptr 0 1 0 0), (6, .own 4 1 0 n n), (35, .own 2 1 0 m n), (36, V.i m), (37, V.i p)] st' → (∀ i ∈ L0, i ∈ L) → IvM s l L → L.length ≤ L0.length + k → (∀ b ∈ h.take k, a ≤ b → ∃ i ∈ L, i.a = a ∧ i.b = b) → Q (.exit 4) st') :
    vc Tryz.prog (.loop hall_intervals.b2) Q st := by
  have hlen : st.hp.length ≤ 8 := by
    rcases hC with ⟨_, _, e⟩ | ⟨_, E, _, e⟩ <;> rw [e] <;> simp [KIv]
  refine vc_upto 8 hlen k (fun j st => ∃ L, CIv s ms u h L st ∧ Sls [(0, vInts l), (1, .ptr 0 1 0 0), (6, .own 4 1 0 n n), (11, V.i a), (35, .own 2 1 0 m n), (36, V.i m), (37, V.i p), (42, .own 4 1 0 k n), (43, V.i k), (44, V.i j)] st ∧ (∀ i ∈ L0, i ∈ L) ∧ IvM s l L ∧ L.length ≤ L0.length + j ∧ (∀ b ∈ h.take j, a ≤ b → ∃ i ∈ L, i.a = a ∧ i.b = b)) ⟨L0, hC, g, fun i h => h, hL0, by omega, by simp⟩ ?_
  clear hC g hlen
  rintro j ⟨sl, hp, bs⟩ hj ⟨L, hC, g, hsub, hM, hLl, hall⟩
  simp only [sls_cons, sls_one] at g
  unfold hall_intervals.b2
  have rh : (ri h).length = n := by rw [ri_len]; exact hn
  by_cases hil : j < k
  · have hil' : (j : Int) < k := by omega
    have hw : IntKind.i64.wrap ((j : Int) + 1) = ((j + 1 : Nat) : Int) := by rw [wrap64] <;> omega
    have hjn : j < n := by omega
    obtain ⟨b, hb⟩ : ∃ b, b = h[j] := ⟨_, rfl⟩
    have gb : ∀ hh, (ri h)[j]'hh = [V.i b] := fun hh' => by have := ri_get (l := h) (i := j) (by omega); rw [List.getElem?_eq_getElem hh'] at this; rw [Option.some.inj this, hb]
    have hbm : b ∈ h := by rw [hb]; exact List.getElem_mem _
    have hbr := hh b hbm
    have htk : h.take (j + 1) = h.take j ++ [b] := by rw [List.take_succ_eq_append_getElem (by omega), hb]
    by_cases hab : a ≤ b
    · obtain ⟨i0, hi0⟩ : ∃ i0 : Iv, i0 = ⟨a, b, insB s l a b⟩ := ⟨_, rfl⟩
      have hin := inside_spec hs l (by omega) a b
      have hcell : i0.cells = [V.i a, V.i b, vInts ((insB s l a b).map fun (p : Nat) => (p : Int))] := by rw [hi0]; rfl
      obtain ⟨W, hW⟩ : ∃ W, W = (insB s l a b).map fun (p : Nat) => (p : Int) := ⟨_, rfl⟩
      rw [← hW] at hin hcell
      have hM' : IvM s l (L ++ [i0]) := ⟨fun i hi => by
        rcases List.mem_append.1 hi with hi | hi
        · exact hM.m i hi
        · rw [List.mem_singleton.1 hi, hi0]; exact ⟨hab, rfl, ha, hbr.2⟩⟩
      have hall' : ∀ b' ∈ h.take (j + 1), a ≤ b' → ∃ i ∈ L ++ [i0], i.a = a ∧ i.b = b' := fun b' hb' hab' => by
        rw [htk] at hb'
        rcases List.mem_append.1 hb' with hb' | hb'
        · obtain ⟨i, hi, e⟩ := hall b' hb' hab'; exact ⟨i, List.mem_append_left _ hi, e⟩
        · rw [List.mem_singleton.1 hb']; exact ⟨i0, by simp, by rw [hi0], by rw [hi0]⟩
      have hsub' : ∀ i ∈ L0, i ∈ L ++ [i0] := fun i hi => List.mem_append_left _ (hsub i hi)
      have hbig : ((L.length : Int) + 1) * 40 ≤ 140737488355328 := by omega
      rcases hC with ⟨he, h9, rfl⟩ | ⟨h9, E, hE, rfl⟩ <;> simp only at h9
      · simp -dsimp [g, h9, KIv, hil, hil', rh, gb, hjn, hab, vInts]
        refine gcalla1 (hin) 0 (by simp -dsimp [g, h9, addAll]) (by simp) (by simp) (by simp) (by simp) (by simp -dsimp [g, h9]) (by simp -dsimp [g, h9, idx, vInts]) (by simp) ?_
        simp -dsimp [g, h9, hbig, hw, hil, hil', vInts]
        have hi1 : i0.cells = [V.i a, V.i b, V.view 1 (W.map fun n => [V.i n])] := hcell
        refine ⟨L ++ [i0], .inr ⟨by simp [he], .mem false [] [[V.i a, V.i b]], rfl, ?_⟩, hsub', hM', by simp; omega, hall'⟩
        simp [he, KIv, hi1]
      · simp -dsimp [g, h9, KIv, hil, hil', rh, gb, hjn, hab, vInts]
        refine gcalla1 (hin) 0 (by simp -dsimp [g, h9, addAll]) (by simp) (by simp) (by simp) (by simp) (by simp -dsimp [g, h9]) (by simp -dsimp [g, h9, idx, vInts]) (by simp) ?_
        simp -dsimp [g, h9, hbig, hw, hil, hil', vInts]
        have hi1 : i0.cells = [V.i a, V.i b, V.view 1 (W.map fun n => [V.i n])] := hcell
        refine ⟨L ++ [i0], .inr ⟨by simp, E, hE, ?_⟩, hsub', hM', by simp; omega, hall'⟩
        simp [KIv, hi1, hE]
    · have hall' : ∀ b' ∈ h.take (j + 1), a ≤ b' → ∃ i ∈ L, i.a = a ∧ i.b = b' := fun b' hb' hab' => by
        rw [htk] at hb'
        rcases List.mem_append.1 hb' with hb' | hb'
        · exact hall b' hb' hab'
        · rw [List.mem_singleton.1 hb'] at hab'; exact absurd hab' hab
      rcases hC with ⟨he, h9, rfl⟩ | ⟨h9, E, hE, rfl⟩ <;> simp only at h9
      · simp -dsimp [g, h9, KIv, hil, hil', rh, gb, hjn, hab, vInts, hw]
        exact ⟨L, .inl ⟨he, by simp, rfl⟩, hsub, hM, by omega, hall'⟩
      · simp -dsimp [g, h9, KIv, hil, hil', rh, gb, hjn, hab, vInts, hw, hE]
        exact ⟨L, .inr ⟨by simp, E, hE, rfl⟩, hsub, hM, by omega, hall'⟩
  · have hil' : ¬ (j : Int) < k := by omega
    have e : j = k := by omega
    rw [e] at hall hLl
    rcases hC with ⟨he, h9, rfl⟩ | ⟨h9, E, hE, rfl⟩ <;> simp only at h9
    · simp -dsimp [g, h9, hil']
      exact hQ _ L (.inl ⟨he, by simp -dsimp [h9], rfl⟩) (by simp -dsimp [g]) hsub hM hLl hall
    · simp -dsimp [g, h9, hil']
      exact hQ _ L (.inr ⟨by simp -dsimp [h9], E, hE, rfl⟩) (by simp -dsimp [g]) hsub hM hLl hall

theorem iv_b1 {s : List Dom} {ms : List (List Dom)} (hs : Two s ms) {l : List Int} (hx : l.length ≤ 1000) {u h0 : List Int} {n m : Nat} (hun : u.length = n) (hm : m ≤ n) (hn : h0.length = n) (hk2 : n ≤ 1000) (hu : ∀ x ∈ u.take m, -1000000000 ≤ x ∧ x < 1000000064) (hh0 : ∀ x ∈ h0, -1000000000 ≤ x ∧ x < 1000000064)
    {Q : Ex → St → Prop} {st : St} (hC : st.hp = KIv s ms u h0)
    (g : Sls [(0, vInts l), (1, .ptr 0 1 0 0), (6, .own 4 1 0 n n), (9, nilS), (35, .own 2 1 0 m n), (36, V.i m), (37, V.i 0)] st)
    (hQ : ∀ (st' : St) (h : List Int) (L : List Iv), CIv s ms u h L st' → IvM s l L → L.length ≤ 1000000 → (∀ a ∈ u.take m, ∀ b ∈ h0, a ≤ b → ∃ i ∈ L, i.a = a ∧ i.b = b) → Q (.exit 2) st') :
    vc Tryz.prog (.loop hall_intervals.b1) Q st := by
  refine vc_upto 8 (by rw [hC]; simp [KIv]) m (fun p st => ∃ h L, h.length = n ∧ (∀ x ∈ h, x = 0 ∨ x ∈ h0) ∧ (∀ x ∈ h0, x ∈ h) ∧ CIv s ms u h L st ∧ Sls [(0, vInts l), (1, .ptr 0 1 0 0), (6, .own 4 1 0 n n), (35, .own 2 1 0 m n), (36, V.i m), (37, V.i p)] st ∧ IvM s l L ∧ L.length ≤ p * n ∧ (∀ a ∈ u.take p, ∀ b ∈ h0, a ≤ b → ∃ i ∈ L, i.a = a ∧ i.b = b))
    ⟨h0, [], hn, fun x hx => .inr hx, fun x hx => hx, .inl ⟨rfl, by simp only [sls_cons, sls_one] at g; exact g.2.2.2.1, hC⟩, by simp only [sls_cons, sls_one] at g ⊢; exact ⟨g.1, g.2.1, g.2.2.1, g.2.2.2.2.1, g.2.2.2.2.2.1, g.2.2.2.2.2.2⟩, ⟨fun i hi => by cases hi⟩, by simp, by simp⟩ ?_
  clear hC g
  rintro p ⟨sl, hp, bs⟩ hp' ⟨h, L, hhn, hh1, hh2, hC, g, hM, hLl, hall⟩
  simp only [sls_cons, sls_one] at g
  unfold hall_intervals.b1
  have ru : (ri u).length = n := by rw [ri_len]; exact hun
  by_cases hil : p < m
  · have hil' : (p : Int) < m := by omega
    have hw : IntKind.i64.wrap ((p : Int) + 1) = ((p + 1 : Nat) : Int) := by rw [wrap64] <;> omega
    have hpn : p < n := by omega
    obtain ⟨a, ha⟩ : ∃ a, a = u[p] := ⟨_, rfl⟩
    have ga : ∀ hh, (ri u)[p]'hh = [V.i a] := fun hh' => by have := ri_get (l := u) (i := p) (by omega); rw [List.getElem?_eq_getElem hh'] at this; rw [Option.some.inj this, ha]
    have htk : u.take (p + 1) = u.take p ++ [a] := by rw [List.take_succ_eq_append_getElem (by omega), ha]
    have har := hu a (by rw [ha]; exact List.mem_take_iff_getElem.2 ⟨p, by omega, rfl⟩)
    have hsrt := sorted_spec h (by omega)
    rw [hhn] at hsrt
    have hmul : p * n ≤ 1000 * 1000 := Nat.mul_le_mul (by omega) (by omega)
    have hmul2 : (p + 1) * n = p * n + n := by rw [Nat.add_mul, Nat.one_mul]
    have hrange : ∀ x ∈ h, -1000000000 ≤ x ∧ x < 1000000064 := fun x hx => by
      rcases hh1 x hx with rfl | hx
      · omega
      · exact hh0 x hx
    have step : ∀ (k : Nat) (v : List Int), SortedU h v k → ∀ st1 : St, CIv s ms u v L st1 → Sls [(0, vInts l), (1, .ptr 0 1 0 0), (6, .own 4 1 0 n n), (11, V.i a), (35, .own 2 1 0 m n), (36, V.i m), (37, V.i p), (42, .own 4 1 0 k n), (43, V.i k), (44, V.i 0)] st1 →
        vc Tryz.prog (.loop hall_intervals.b2) (fun e st' => match e with | .exit 4 => ∃ L', CIv s ms u v L' st' ∧ Sls [(0, vInts l), (1, .ptr 0 1 0 0), (6, .own 4 1 0 n n), (35, .own 2 1 0 m n), (36, V.i m), (37, V.i p)] st' ∧ IvM s l L' ∧ L'.length ≤ (p + 1) * n ∧ (∀ a ∈ u.take (p + 1), ∀ b ∈ h0, a ≤ b → ∃ i ∈ L', i.a = a ∧ i.b = b) | _ => False) st1 := by
      intro k v hv st1 c1 c2
      have hvn : v.length = n := by rw [hv.n, hhn]
      have hkn : k ≤ n := by have := hv.m; omega
      refine iv_b2 hs hx hvn hkn hk2 har.1 (fun x hx => ?_) hM (by omega) c1 c2 ?_
      · rcases hv.z x hx with rfl | hx
        · omega
        · exact hrange x hx
      · intro st' L' d1 d2 d3 d4 d5 d6
        refine ⟨L', d1, d2, d4, by omega, fun a' ha' b hb hab => ?_⟩
        rw [htk] at ha'
        rcases List.mem_append.1 ha' with ha' | ha'
        · obtain ⟨i, hi, e⟩ := hall a' ha' b hb hab; exact ⟨i, d3 i hi, e⟩
        · rw [List.mem_singleton.1 ha'] at hab ⊢
          exact d6 b ((hv.mem b).2 (hh2 b hb)) hab
    rcases hC with ⟨he, h9, rfl⟩ | ⟨h9, E, hE, rfl⟩ <;> simp only at h9
    · simp -dsimp [g, h9, KIv, hil, hil', ru, ga, hpn]
      refine gcallm_gen hsrt [4] (by simp -dsimp [g, addAll]) ⟨by simp, by simp, by simp, by simp⟩ (by simp -dsimp [g, idx, List.idxOf_cons]) (by simp [sub, ri_ren]) (by simp) ?_
      rintro r H ⟨v, k, rfl, hv, rfl⟩
      simp -dsimp [g, h9, merge, place, ri_ren, back]
      refine ⟨by rw [ri_len, hv.n, hhn], ?_⟩
      show vc Tryz.prog (.loop hall_intervals.b2) _ _
      refine vc_mono ?_ (step k v hv _ ?_ ?_)
      rotate_left
      · exact .inl ⟨he, by simp -dsimp [h9], by simp [KIv]⟩
      · simp -dsimp [g, h9]
      intro e st' he'
      match e, he' with
      | .exit 4, ⟨L', d1, d2, d3, d4, d5⟩ =>
        simp only [sls_cons, sls_one] at d2
        have hvn : v.length = n := by rw [hv.n, hhn]
        have hz1 : ∀ x ∈ v, x = 0 ∨ x ∈ h0 := fun x hx => by
          rcases hv.z x hx with h | h
          · exact .inl h
          · exact hh1 x h
        have hz2 : ∀ x ∈ h0, x ∈ v := fun x hx => List.mem_of_mem_take ((hv.mem x).2 (hh2 x hx))
        rcases d1 with ⟨he1, h91, hh1'⟩ | ⟨h91, E', hE', hh1'⟩
        · simp -dsimp [d2, h91, hh1', hil, hw, vInts, KIv]
          exact ⟨v, hvn, hz1, hz2, L', .inl ⟨he1, by simp, by simp [KIv]⟩, d3, d4, d5⟩
        · simp -dsimp [d2, h91, hh1', hil, hw, hE', vInts, KIv]
          exact ⟨v, hvn, hz1, hz2, L', .inr ⟨by simp, E', hE', by simp [KIv]⟩, d3, d4, d5⟩
    · simp -dsimp [g, h9, KIv, hil, hil', ru, ga, hpn]
      refine gcallm_gen hsrt [4] (by simp -dsimp [g, addAll]) ⟨by simp, by simp, by simp, by simp⟩ (by simp -dsimp [g, idx, List.idxOf_cons]) (by simp [sub, ri_ren]) (by simp) ?_
      rintro r H ⟨v, k, rfl, hv, rfl⟩
      simp -dsimp [g, h9, merge, place, ri_ren, back]
      refine ⟨by rw [ri_len, hv.n, hhn], ?_⟩
      show vc Tryz.prog (.loop hall_intervals.b2) _ _
      refine vc_mono ?_ (step k v hv _ ?_ ?_)
      rotate_left
      · exact .inr ⟨by simp -dsimp [h9], E, hE, by simp [KIv]⟩
      · simp -dsimp [g, h9]
      intro e st' he'
      match e, he' with
      | .exit 4, ⟨L', d1, d2, d3, d4, d5⟩ =>
        simp only [sls_cons, sls_one] at d2
        have hvn : v.length = n := by rw [hv.n, hhn]
        have hz1 : ∀ x ∈ v, x = 0 ∨ x ∈ h0 := fun x hx => by
          rcases hv.z x hx with h | h
          · exact .inl h
          · exact hh1 x h
        have hz2 : ∀ x ∈ h0, x ∈ v := fun x hx => List.mem_of_mem_take ((hv.mem x).2 (hh2 x hx))
        rcases d1 with ⟨he1, h91, hh1'⟩ | ⟨h91, E', hE', hh1'⟩
        · simp -dsimp [d2, h91, hh1', hil, hw, vInts, KIv]
          exact ⟨v, hvn, hz1, hz2, L', .inl ⟨he1, by simp, by simp [KIv]⟩, d3, d4, d5⟩
        · simp -dsimp [d2, h91, hh1', hil, hw, hE', vInts, KIv]
          exact ⟨v, hvn, hz1, hz2, L', .inr ⟨by simp, E', hE', by simp [KIv]⟩, d3, d4, d5⟩
  · have hil' : ¬ (p : Int) < m := by omega
    have e : p = m := by omega
    rw [e] at hall hLl
    have hmn : m * n ≤ 1000 * 1000 := Nat.mul_le_mul (by omega) (by omega)
    rcases hC with ⟨he, h9, rfl⟩ | ⟨h9, E, hE, rfl⟩ <;> simp only at h9
    · simp -dsimp [g, h9, hil']
      exact hQ _ h L (.inl ⟨he, by simp -dsimp [h9], rfl⟩) hM (by omega) hall
    · simp -dsimp [g, h9, hil']
      exact hQ _ h L (.inr ⟨by simp -dsimp [h9], E, hE, rfl⟩) hM (by omega) hall

end Go.Abs.G

namespace Go.Abs.G
open Go.Proofs
set_option linter.unusedVariables false
set_option linter.unusedSimpArgs false

theorem map_take_succ (f : Int → Int) {l : List Int} {i : Nat} (h : i < l.length) : (l.take (i + 1)).map f = (l.take i).map f ++ [f l[i]] := by
  rw [List.take_succ_eq_append_getElem h, List.map_append]; rfl
theorem intervals_spec {s : List Dom} {ms : List (List Dom)} (hs : Two s ms) (l : List Int) (hx : l.length ≤ 1000) :
    DC Tryz.prog hall_intervals.id [vInts l, .ptr 0 1 0 0] [ST s ms] (fun r H => (∃ L, IvOk s l L ∧ r = .view 3 (L.map Iv.cells)) ∧ H = [ST s ms]) := by
  refine DC.trim (Q := fun r H => (∃ L, IvOk s l L ∧ r = .view 3 (L.map Iv.cells)) ∧ ∃ E, H = ST s ms :: E) ?_ ?_
  rotate_left
  · rintro r H ⟨⟨L, hL, rfl⟩, E, rfl⟩
    exact ⟨1, by simp, by simp [V.ids], ⟨L, hL, rfl⟩, by simp⟩
  refine DC.of hall_intervals.ok (by simp) ?_
  unfold hall_intervals.ir
  refine vc_cut (At [(0, vInts l), (1, .ptr 0 1 0 0)] [ST s ms]) (by simp -dsimp [At]) ?_
  try clear h
  rintro ⟨sl, hp, bs⟩ ⟨rfl, h⟩
  simp only [sls_cons, sls_one, sls_nil] at h
  refine vc_cut (At [(0, vInts l), (1, .ptr 0 1 0 0), (5, nilS), (6, nilS)] [ST s ms]) (by simp -dsimp [h, At]) ?_
  try clear h
  rintro ⟨sl, hp, bs⟩ ⟨rfl, h⟩
  simp only [sls_cons, sls_one, sls_nil] at h
  by_cases hne : l = []
  · have e1 : IvOk s l [] := ⟨(fun i hi => by cases hi), (fun x hx => by rw [hne] at hx; cases hx), (by simp)⟩
    refine vc_cut (At [(0, vInts l), (1, .ptr 0 1 0 0), (5, nilS), (6, nilS)] [ST s ms]) ?_ ?_
    · refine vc_cut (At [(0, vInts l), (1, .ptr 0 1 0 0), (5, nilS), (6, nilS), (15, vInts l), (16, V.i 0), (17, V.i 0)] [ST s ms]) (by simp -dsimp [h, At, vInts, hne]) ?_
      try clear h
      rintro ⟨sl, hp, bs⟩ ⟨rfl, h⟩
      simp only [sls_cons, sls_one, sls_nil] at h
      refine vc_block_of (vc_upto 1 (by simp) 0 (fun i st => At [(0, vInts l), (1, .ptr 0 1 0 0), (5, nilS), (6, nilS), (15, vInts l), (16, V.i 0), (17, V.i 0)] [ST s ms] st) ⟨rfl, by simpa using h⟩ ?_)
      clear h
      rintro i ⟨sl, hp, bs⟩ hi ⟨rfl, h⟩
      simp only [sls_cons, sls_one] at h
      unfold hall_intervals.b0
      simp -dsimp [h, At]
    try clear h
    rintro ⟨sl, hp, bs⟩ ⟨rfl, h⟩
    simp only [sls_cons, sls_one, sls_nil] at h
    refine vc_cut (At [(0, vInts l), (1, .ptr 0 1 0 0), (6, nilS), (9, nilS), (5, nilS)] [ST s ms]) (by simp -dsimp [h, At]) ?_
    try clear h
    rintro ⟨sl, hp, bs⟩ ⟨rfl, h⟩
    simp only [sls_cons, sls_one, sls_nil] at h
    refine vc_cut (At [(9, nilS)] [ST s ms, .mem false [] []]) ?_ ?_
    · refine vc_cut (At [(0, vInts l), (1, .ptr 0 1 0 0), (6, nilS), (9, nilS), (35, .own 1 1 0 0 0), (36, V.i 0), (37, V.i 0)] [ST s ms, .mem false [] []]) ?_ ?_
      · simp -dsimp [h]
        refine gcallm sorted_nil [] (by simp -dsimp [h, addAll]) ⟨by simp, by simp, by simp, by simp⟩ (by simp -dsimp [h]) (by simp [sub]) (by simp) ?_
        simp -dsimp [h, At, merge, place, back]
      try clear h
      rintro ⟨sl, hp, bs⟩ ⟨rfl, h⟩
      simp only [sls_cons, sls_one, sls_nil] at h
      refine vc_block_of (vc_upto 2 (by simp) 0 (fun i st => At [(0, vInts l), (1, .ptr 0 1 0 0), (6, nilS), (9, nilS), (35, .own 1 1 0 0 0), (36, V.i 0), (37, V.i 0)] [ST s ms, .mem false [] []] st) ⟨rfl, by simpa using h⟩ ?_)
      clear h
      rintro i ⟨sl, hp, bs⟩ hi ⟨rfl, h⟩
      simp only [sls_cons, sls_one] at h
      unfold hall_intervals.b1
      simp -dsimp [h, At]
    try clear h
    rintro ⟨sl, hp, bs⟩ ⟨rfl, h⟩
    simp only [sls_cons, sls_one, sls_nil] at h
    simp -dsimp [h, hall_intervals.rs]
    exact e1
  have hn0 : 0 < l.length := List.length_pos_iff.2 hne
  refine vc_cut (At [(0, vInts l), (1, .ptr 0 1 0 0), (5, .own 2 1 0 l.length l.length), (6, .own 4 1 0 l.length l.length)] (KIv s ms (l.map (loB s)) (l.map (hiB s)))) ?_ ?_
  · refine vc_cut (At [(0, vInts l), (1, .ptr 0 1 0 0), (5, nilS), (6, nilS), (15, vInts l), (16, V.i l.length), (17, V.i 0)] [ST s ms]) (by simp -dsimp [h, At, vInts]) ?_
    try clear h
    rintro ⟨sl, hp, bs⟩ ⟨rfl, h⟩
    simp only [sls_cons, sls_one, sls_nil] at h
    refine vc_block_of (vc_upto 5 (by simp) l.length (fun i st => (i = 0 ∧ At [(0, vInts l), (1, .ptr 0 1 0 0), (5, nilS), (6, nilS), (15, vInts l), (16, V.i l.length), (17, V.i i)] [ST s ms] st) ∨ (0 < i ∧ At [(0, vInts l), (1, .ptr 0 1 0 0), (5, .own 2 1 0 i i), (6, .own 4 1 0 i i), (15, vInts l), (16, V.i l.length), (17, V.i i)] (KIv s ms ((l.take i).map (loB s)) ((l.take i).map (hiB s))) st)) (.inl ⟨rfl, rfl, by simpa using h⟩) ?_)
    clear h
    rintro i ⟨sl, hp, bs⟩ hi hh
    unfold hall_intervals.b0
    by_cases hil : i < l.length
    · have hil' : (i : Int) < l.length := by omega
      have hw : IntKind.i64.wrap ((i : Int) + 1) = ((i + 1 : Nat) : Int) := by rw [wrap64] <;> omega
      have hlo := map_take_succ (loB s) hil
      have hhi := map_take_succ (hiB s) hil
      obtain ⟨x, hxx⟩ : ∃ x, x = l[i] := ⟨_, rfl⟩
      rw [← hxx] at hlo hhi
      rcases hh with ⟨he, rfl, h⟩ | ⟨he, rfl, h⟩ <;> simp only [sls_cons, sls_one] at h
      · subst he
        simp -dsimp [h, hil, hil', vInts, ← hxx]
        refine gcallm1 (loT hs x) 0 (by simp -dsimp [h, addAll]) (by simp -dsimp [h]) (by simp) (by simp) (by simp) (by simp -dsimp [h, idx]) (by simp) ?_
        simp -dsimp [h]
        refine gcallm1 (hiT hs x) 0 (by simp -dsimp [h, addAll]) (by simp -dsimp [h]) (by simp) (by simp) (by simp) (by simp -dsimp [h, idx]) (by simp) ?_
        simp -dsimp [h, At, hlo, hhi, KIv, ri, vInts]
        exact ⟨by omega, wrap64 (by omega) (by omega)⟩
      · obtain ⟨A, hA⟩ : ∃ A, A = (l.take i).map (loB s) := ⟨_, rfl⟩
        obtain ⟨C, hC⟩ : ∃ C, C = (l.take i).map (hiB s) := ⟨_, rfl⟩
        have hb : ((i : Int) + 1) * 8 ≤ 140737488355328 := by omega
        have r1 : (ri ((l.take i).map (loB s))).length = i := by rw [ri_len, List.length_map, List.length_take]; omega
        have r2 : (ri ((l.take i).map (hiB s))).length = i := by rw [ri_len, List.length_map, List.length_take]; omega
        rw [← hA] at hlo r1 ⊢
        rw [← hC] at hhi r2 ⊢
        simp -dsimp [h, hil, hil', vInts, ← hxx, KIv]
        refine gcallm1 (loT hs x) 0 (by simp -dsimp [h, addAll]) (by simp -dsimp [h]) (by simp) (by simp) (by simp) (by simp -dsimp [h, idx]) (by simp) ?_
        simp -dsimp [h, r1, hb]
        refine gcallm1 (hiT hs x) 0 (by simp -dsimp [h, addAll]) (by simp -dsimp [h]) (by simp) (by simp) (by simp) (by simp -dsimp [h, idx]) (by simp) ?_
        simp -dsimp [h, r2, hb, At, hlo, hhi, KIv, hw, vInts]
        exact ⟨hil, by simp [ri], by simp [ri]⟩
    · have hil' : ¬ (i : Int) < l.length := by omega
      have e : i = l.length := by omega
      rcases hh with ⟨he, rfl, h⟩ | ⟨he, rfl, h⟩ <;> simp only [sls_cons, sls_one] at h
      · omega
      · have ht : l.take i = l := List.take_of_length_le (by omega)
        simp -dsimp [h, hil', At, ht, e, KIv, List.take_of_length_le]
  try clear h
  rintro ⟨sl, hp, bs⟩ ⟨rfl, h⟩
  simp only [sls_cons, sls_one, sls_nil] at h
  refine vc_cut (At [(0, vInts l), (1, .ptr 0 1 0 0), (5, .own 2 1 0 l.length l.length), (6, .own 4 1 0 l.length l.length), (9, nilS)] (KIv s ms (l.map (loB s)) (l.map (hiB s)))) (by simp -dsimp [h, At]) ?_
  try clear h
  rintro ⟨sl, hp, bs⟩ ⟨rfl, h⟩
  simp only [sls_cons, sls_one, sls_nil] at h
  have hs1 := sorted_spec (l.map (loB s)) (by rw [List.length_map]; omega)
  rw [List.length_map] at hs1
  refine vc_cut (fun st => ∃ h L u, CIv s ms u h L st ∧ IvOk s l L) ?_ ?_
  · refine vc_cut (fun st => ∃ u m, SortedU (l.map (loB s)) u m ∧ At [(0, vInts l), (1, .ptr 0 1 0 0), (6, .own 4 1 0 l.length l.length), (9, nilS), (35, .own 2 1 0 m l.length), (36, V.i m), (37, V.i 0)] (KIv s ms u (l.map (hiB s))) st) ?_ ?_
    · simp -dsimp [h, KIv]
      refine gcallm_gen hs1 [2] (by simp -dsimp [h, addAll]) ⟨by simp, by simp, by simp, by simp⟩ (by simp -dsimp [h, idx, List.idxOf_cons]) (by simp [sub, ri_ren]) (by simp) ?_
      rintro r H ⟨u, m, rfl, hu, rfl⟩
      have hul : (ri u).length = l.length := by rw [ri_len, hu.n, List.length_map]
      simp -dsimp [h, At, merge, place, ri_ren, back, KIv, hul]
      exact ⟨u, m, hu, rfl, rfl, rfl⟩
    clear h
    rintro ⟨sl, hp, bs⟩ ⟨u, m, hu, rfl, h⟩
    have hlo : ∀ x ∈ l.map (loB s), -1000000000 ≤ x ∧ x < 1000000064 := fun x hx => by
      obtain ⟨y, _, rfl⟩ := List.mem_map.1 hx; exact lo_range hs.d y
    have hhi : ∀ x ∈ l.map (hiB s), -1000000000 ≤ x ∧ x < 1000000064 := fun x hx => by
      obtain ⟨y, _, rfl⟩ := List.mem_map.1 hx; exact hi_range hs.d y
    refine vc_block_of (iv_b1 hs hx (u := u) (h0 := l.map (hiB s)) (n := l.length) (m := m) (by rw [hu.n, List.length_map]) (by have := hu.m; rw [List.length_map] at this; exact this) (by rw [List.length_map]) hx (fun x hx' => hlo x ((hu.mem x).1 hx')) hhi rfl (by simpa using h) ?_)
    intro st' h' L c1 c2 cn c3
    refine ⟨h', L, u, c1, c2.m, fun x hx' y hy hxy => c3 _ ((hu.mem _).2 (List.mem_map_of_mem hx')) _ (List.mem_map_of_mem hy) hxy, cn⟩
  clear h
  rintro ⟨sl, hp, bs⟩ ⟨h', L, u, hC, hok⟩
  rcases hC with ⟨he, h9, rfl⟩ | ⟨h9, E, hE, rfl⟩ <;> simp only at h9
  · simp -dsimp [h9, he, hall_intervals.rs, KIv]
    rw [he] at hok; exact hok
  · have ht : List.take L.length (L.map Iv.cells) = L.map Iv.cells := List.take_of_length_le (by simp)
    simp -dsimp [h9, hall_intervals.rs, KIv, ht]
    exact ⟨L, hok, rfl⟩
end Go.Abs.G


namespace Go.Abs.G
open Go.Proofs
set_option linter.unusedVariables false
set_option linter.unusedSimpArgs false

def hallX (i : Iv) (l : List Int) : List Int := i.w.map fun p => l.getD p 0
def hallV (i : Iv) (l : List Int) : List V := [V.i i.a, V.i i.b, vInts (hallX i l)]
theorem hall_spec (i : Iv) (l : List Int) (hw : ∀ p ∈ i.w, p < l.length) (hl : i.w.length ≤ 1000000) : Pf Tryz.prog hall_interval_hall.id [.agg i.cells, vInts l] (.agg (hallV i l)) := by
  refine DC.of hall_interval_hall.ok (by simp) ?_
  unfold hall_interval_hall.ir
  obtain ⟨B, hB⟩ : ∃ B, B = O.mem false [] [i.cells] := ⟨_, rfl⟩
  obtain ⟨R, hR⟩ : ∃ R, R = O.mem false [] [[V.i 0, V.i 0, nilS]] := ⟨_, rfl⟩
  have hBr : B.refs = [] := by rw [hB]; rfl
  have hRr : R.refs = [] := by rw [hR]; rfl
  obtain ⟨W, hW⟩ : ∃ W : List Int, W = i.w.map fun (p : Nat) => (p : Int) := ⟨_, rfl⟩
  have hWl : W.length = i.w.length := by rw [hW]; simp
  have hcl : i.cells = [V.i i.a, V.i i.b, vInts W] := by rw [hW]; rfl
  refine vc_cut (At [(1, vInts l), (2, .ptr 0 1 0 0), (4, .ptr 1 1 0 0)] [B, R]) (by simp -dsimp [At, hB, hR, hcl, vInts]) ?_
  try clear h
  rintro ⟨sl, hp, bs⟩ ⟨rfl, h⟩
  simp only [sls_cons, sls_one, sls_nil] at h
  refine vc_cut (At [(1, vInts l), (2, .ptr 0 1 0 0), (4, .ptr 1 1 0 0), (5, .ptr 2 1 0 0)] [B, R, .mem false [] [[V.i i.a, V.i i.b, nilS]]]) (by simp -dsimp [h, At, hB, hcl, vInts]) ?_
  try clear h
  rintro ⟨sl, hp, bs⟩ ⟨rfl, h⟩
  simp only [sls_cons, sls_one, sls_nil] at h
  refine vc_cut (fun st => (hallX i l = [] ∧ gt st.sl 4 = .ptr 1 1 0 0 ∧ gt st.sl 5 = .ptr 2 1 0 0 ∧ st.hp = [B, R, .mem false [] [[V.i i.a, V.i i.b, nilS]]]) ∨ (gt st.sl 4 = .ptr 1 1 0 0 ∧ gt st.sl 5 = .ptr 2 1 0 0 ∧ st.hp = [B, R, .mem false [4] [[V.i i.a, V.i i.b, .own 4 1 0 (hallX i l).length (hallX i l).length]], .res, .mem false [] (ri (hallX i l))])) ?_ ?_
  · refine vc_cut (At [(1, vInts l), (4, .ptr 1 1 0 0), (5, .ptr 2 1 0 0), (16, vInts W), (17, V.i W.length), (18, V.i 0)] [B, R, .mem false [] [[V.i i.a, V.i i.b, nilS]]]) (by simp -dsimp [h, At, hB, hcl, vInts]) ?_
    try clear h
    rintro ⟨sl, hp, bs⟩ ⟨rfl, h⟩
    simp only [sls_cons, sls_one, sls_nil] at h
    refine vc_block_of (vc_upto 5 (by simp) W.length (fun k st => (k = 0 ∧ At [(1, vInts l), (4, .ptr 1 1 0 0), (5, .ptr 2 1 0 0), (16, vInts W), (17, V.i W.length), (18, V.i k)] [B, R, .mem false [] [[V.i i.a, V.i i.b, nilS]]] st) ∨ (0 < k ∧ At [(1, vInts l), (4, .ptr 1 1 0 0), (5, .ptr 2 1 0 0), (16, vInts W), (17, V.i W.length), (18, V.i k)] [B, R, .mem false [4] [[V.i i.a, V.i i.b, .own 4 1 0 k k]], .res, .mem false [] (ri ((hallX i l).take k))] st)) (.inl ⟨rfl, rfl, by simpa using h⟩) ?_)
    clear h
    rintro k ⟨sl, hp, bs⟩ hk hh
    unfold hall_interval_hall.b0
    by_cases hil : k < W.length
    · have hil' : (k : Int) < W.length := by omega
      have hw1 : IntKind.i64.wrap ((k : Int) + 1) = ((k + 1 : Nat) : Int) := by rw [wrap64] <;> omega
      obtain ⟨p, hp'⟩ : ∃ p, p = i.w[k]'(by omega) := ⟨_, rfl⟩
      have hpl : p < l.length := hw p (by rw [hp']; exact List.getElem_mem _)
      have hWp : ∀ hh, W[k]'hh = (p : Int) := fun hh => by simp only [hW, List.getElem_map, hp']
      obtain ⟨x, hx⟩ : ∃ x, x = l[p] := ⟨_, rfl⟩
      have hxg : ∀ hh, l[p]'hh = x := fun hh => hx.symm
      have htk : (hallX i l).take (k + 1) = (hallX i l).take k ++ [x] := by
        have hkl : k < (hallX i l).length := by simp [hallX]; omega
        rw [List.take_succ_eq_append_getElem hkl]
        have : (hallX i l)[k] = x := by simp only [hallX, List.getElem_map, ← hp', hx]; simp [List.getD, hpl]
        rw [this]
      have hpl' : (p : Int) < l.length := by omega
      rcases hh with ⟨he, rfl, h⟩ | ⟨he, rfl, h⟩ <;> simp only [sls_cons, sls_one] at h
      · simp -dsimp [h, hil, hil', vInts, hWp, hpl, hpl', hxg, At, hw1, hBr, hRr]
        exact ⟨he, by rw [htk, he]; simp [ri]⟩
      · have hb : ((k : Int) + 1) * 8 ≤ 140737488355328 := by omega
        have rl : (ri ((hallX i l).take k)).length = k := by rw [ri_len, List.length_take]; simp [hallX]; omega
        simp -dsimp [h, hil, hil', vInts, hWp, hpl, hpl', hxg, At, hw1, htk, hb, rl, hBr, hRr]
        simp [ri]
    · have hil' : ¬ (k : Int) < W.length := by omega
      have e : k = W.length := by omega
      have hXl : (hallX i l).length = W.length := by simp [hallX, hWl]
      rcases hh with ⟨he, rfl, h⟩ | ⟨he, rfl, h⟩ <;> simp only [sls_cons, sls_one] at h
      · have h0 : hallX i l = [] := List.eq_nil_of_length_eq_zero (by omega)
        simp -dsimp [h, hil', h0]
      · have ht : (hallX i l).take W.length = hallX i l := List.take_of_length_le (by omega)
        simp -dsimp [h, hil', hXl, e, ht]
  clear h
  rintro ⟨sl, hp, bs⟩ (⟨h0, h4, h5, rfl⟩ | ⟨h4, h5, rfl⟩)
  · simp -dsimp [h4, h5]
    refine ⟨_, Weak.cellsub (id := 2) (i := 0) (j := 2) (refs := []) (refs' := []) (rows := [[V.i i.a, V.i i.b, nilS]]) (row := [V.i i.a, V.i i.b, nilS]) (x := nilS) (z := vInts []) rfl rfl rfl (V.sub.nil 1) rfl (fun i' row' h1 j' y h2 => .inr ?_), ?_⟩
    · have hr : row' = [V.i i.a, V.i i.b, nilS] := by
        cases i' with
        | zero => simpa using h1.symm
        | succ n => simp at h1
      subst hr
      intro k hk
      match j', h2 with
      | 0, h2 => simp at h2; subst h2; simp [V.ids] at hk
      | 1, h2 => simp at h2; subst h2; simp [V.ids] at hk
      | 2, h2 => simp at h2; subst h2; simp [V.ids] at hk
      | n + 3, h2 => simp at h2
    · simp -dsimp [h4, h5, hR, hall_interval_hall.rs, hallV, h0, vInts]
  · simp -dsimp [h4, h5]
    refine ⟨_, Weak.frzc (id := 2) (i := 0) (j := 2) (refs := [4]) (refs' := []) (rows := [[V.i i.a, V.i i.b, .own 4 1 0 (hallX i l).length (hallX i l).length]]) (row := [V.i i.a, V.i i.b, .own 4 1 0 (hallX i l).length (hallX i l).length]) (x := .own 4 1 0 (hallX i l).length (hallX i l).length) rfl rfl rfl (by simp [ri_len]) (by simp) (fun i' row' h1 j' y h2 => ?_), ?_⟩
    · have hr : row' = [V.i i.a, V.i i.b, .own 4 1 0 (hallX i l).length (hallX i l).length] := by
        cases i' with
        | zero => simpa using h1.symm
        | succ n => simp at h1
      subst hr
      match j', h2 with
      | 0, h2 => simp at h2; subst h2; exact .inr fun k hk => by simp [V.ids] at hk
      | 1, h2 => simp at h2; subst h2; exact .inr fun k hk => by simp [V.ids] at hk
      | 2, h2 =>
        cases i' with
        | zero => exact .inl ⟨rfl, rfl⟩
        | succ n => simp at h1
      | n + 3, h2 => simp at h2
    · have ht : List.take (hallX i l).length (ri (hallX i l)) = ri (hallX i l) := List.take_of_length_le (by rw [ri_len]; exact Nat.le_refl _)
      simp -dsimp [h4, h5, hR, hall_interval_hall.rs, hallV, vInts, ht]
      rfl
end Go.Abs.G


namespace Go.Abs.G
open Go.Proofs
set_option linter.unusedVariables false
set_option linter.unusedSimpArgs false

abbrev V.q (n : Nat) : V := .a (.int .u64 n)
def sett64 (a j : Nat) : Nat := (BitVec.ofNat 64 a ||| (1#64 <<< j)).toNat
theorem sett64_lt (a j : Nat) : sett64 a j < 18446744073709551616 := BitVec.isLt _
theorem one_shl64 : ∀ j, j < 64 → BitVec.ofInt 64 (IntKind.u64.wrap (2 ^ min j 64)) = 1#64 <<< j := by decide +kernel
theorem wrapU {n : Int} (h0 : 0 ≤ n) (h1 : n < 18446744073709551616) : IntKind.u64.wrap n = n := by
  unfold IntKind.wrap
  simp [IntKind.bits, IntKind.signed]
  omega
theorem shl_bit64 (j i : Nat) (hj : j < 64) : (1#64 <<< j).getLsbD i = decide (i = j) := by
  rw [BitVec.getLsbD_shiftLeft]
  by_cases h : i = j
  · subst h; simp [hj]
  · by_cases h2 : i < j
    · simp [h2, h]
    · have : i - j ≠ 0 := by omega
      simp [h, BitVec.getLsbD_one, this]
theorem sett64_bit {a j : Nat} (ha : a < 18446744073709551616) (hj : j < 64) (i : Nat) : (sett64 a j).testBit i = (a.testBit i || decide (i = j)) := by
  unfold sett64
  rw [BitVec.testBit_toNat, BitVec.getLsbD_or, shl_bit64 j i hj, BitVec.getLsbD_ofNat]
  by_cases h : i < 64
  · simp [h]
  · have : a.testBit i = false := Nat.testBit_lt_two_pow (Nat.lt_of_lt_of_le (show a < 2 ^ 64 from ha) (Nat.pow_le_pow_right (by omega) (by omega : 64 ≤ i)))
    simp [h, this]

/-- Places as words. -/
def putM (ws : List Nat) (p : Nat) : List Nat := ws.set (p / 64) (sett64 (ws.getD (p / 64) 0) (p % 64))
def maskM (l : List Nat) : List Nat := l.foldl putM (List.replicate 64 0)
theorem putM_len (ws : List Nat) (p : Nat) : (putM ws p).length = ws.length := by simp [putM]
theorem fold_len (l : List Nat) (ws : List Nat) : (l.foldl putM ws).length = ws.length := by
  induction l generalizing ws with
  | nil => rfl
  | cons p l ih => rw [List.foldl_cons, ih, putM_len]
theorem fold_lt {l : List Nat} {ws : List Nat} (h : ∀ w ∈ ws, w < 18446744073709551616) : ∀ w ∈ l.foldl putM ws, w < 18446744073709551616 := by
  induction l generalizing ws with
  | nil => exact h
  | cons p l ih =>
    rw [List.foldl_cons]
    refine ih fun w hw => ?_
    rcases List.mem_or_eq_of_mem_set hw with hw | rfl
    · exact h w hw
    · exact sett64_lt _ _
theorem fold_bit {l : List Nat} (hl : ∀ p ∈ l, p < 4096) : ∀ {ws : List Nat}, ws.length = 64 → (∀ w ∈ ws, w < 18446744073709551616) → ∀ (k b : Nat), k < 64 → b < 64 → (((l.foldl putM ws).getD k 0).testBit b = true ↔ (ws.getD k 0).testBit b = true ∨ 64 * k + b ∈ l) := by
  induction l with
  | nil => intro ws _ _ k b _ _; simp
  | cons p l ih =>
    intro ws hw hlt k b hk hb
    have hp := hl p (by simp)
    have hlt2 : ∀ w ∈ putM ws p, w < 18446744073709551616 := fun w hw => by
      rcases List.mem_or_eq_of_mem_set hw with hw | rfl
      · exact hlt w hw
      · exact sett64_lt _ _
    rw [List.foldl_cons, ih (fun q hq => hl q (by simp [hq])) (by rw [putM_len]; exact hw) hlt2 k b hk hb]
    have hg : ws.getD (p / 64) 0 < 18446744073709551616 := by
      have hpl : p / 64 < ws.length := by omega
      have : ws.getD (p / 64) 0 = ws[p / 64] := by simp [List.getD, hpl]
      rw [this]; exact hlt _ (List.getElem_mem _)
    have e : (putM ws p).getD k 0 = if k = p / 64 then sett64 (ws.getD (p / 64) 0) (p % 64) else ws.getD k 0 := by
      unfold putM
      simp only [List.getD_eq_getElem?_getD, List.getElem?_set]
      by_cases hkp : p / 64 = k
      · have hpl : p / 64 < ws.length := by omega
        subst hkp; simp [hpl]
      · have : ¬ k = p / 64 := fun e => hkp e.symm
        simp [hkp, this]
    rw [e, List.mem_cons]
    by_cases hkp : k = p / 64
    · rw [if_pos hkp, sett64_bit hg (Nat.mod_lt _ (by omega)), hkp]
      simp only [Bool.or_eq_true, decide_eq_true_eq]
      constructor
      · rintro ((h | h) | h)
        · exact .inl h
        · exact .inr (.inl (by omega))
        · exact .inr (.inr h)
      · rintro (h | h | h)
        · exact .inl (.inl h)
        · exact .inl (.inr (by omega))
        · exact .inr h
    · rw [if_neg hkp]
      constructor
      · rintro (h | h)
        · exact .inl h
        · exact .inr (.inr h)
      · rintro (h | h | h)
        · exact .inl h
        · exact absurd (by omega : k = p / 64) hkp
        · exact .inr h
theorem mask_len (l : List Nat) : (maskM l).length = 64 := by rw [maskM, fold_len]; rfl
theorem mask_eq {l k : List Nat} (hl : ∀ p ∈ l, p < 4096) (hk : ∀ p ∈ k, p < 4096) : maskM l = maskM k ↔ ∀ p, p ∈ l ↔ p ∈ k := by
  have z1 : ∀ w ∈ List.replicate 64 0, w < 18446744073709551616 := fun w hw => by rw [List.eq_of_mem_replicate hw]; omega
  have bl := fun (a b : Nat) (ha : a < 64) (hb : b < 64) => fold_bit hl (ws := List.replicate 64 0) rfl z1 a b ha hb
  have bk := fun (a b : Nat) (ha : a < 64) (hb : b < 64) => fold_bit hk (ws := List.replicate 64 0) rfl z1 a b ha hb
  have z2 : ∀ a, (List.replicate 64 0).getD a 0 = 0 := fun a => by rw [List.getD_eq_getElem?_getD, List.getElem?_replicate]; split <;> rfl
  simp only [z2, Nat.zero_testBit, Bool.false_eq_true, false_or] at bl bk
  constructor
  · intro h p
    by_cases hp : p < 4096
    · have e : p = 64 * (p / 64) + p % 64 := by omega
      rw [e, ← bl _ _ (by omega) (Nat.mod_lt _ (by omega)), ← bk _ _ (by omega) (Nat.mod_lt _ (by omega))]
      show ((maskM l).getD _ 0).testBit _ = true ↔ ((maskM k).getD _ 0).testBit _ = true
      rw [h]
    · exact ⟨fun h => absurd (hl p h) hp, fun h => absurd (hk p h) hp⟩
  · intro h
    refine List.ext_getElem (by rw [mask_len, mask_len]) fun a h1 h2 => ?_
    rw [mask_len] at h1
    have g1 : (maskM l)[a]'(by rw [mask_len]; exact h1) = (maskM l).getD a 0 := by simp [List.getD, mask_len, h1]
    have g2 : (maskM k)[a]'(by rw [mask_len]; exact h1) = (maskM k).getD a 0 := by simp [List.getD, mask_len, h1]
    have l1 : (maskM l)[a]'(by rw [mask_len]; exact h1) < 2 ^ 64 := fold_lt z1 _ (List.getElem_mem _)
    have l2 : (maskM k)[a]'(by rw [mask_len]; exact h1) < 2 ^ 64 := fold_lt z1 _ (List.getElem_mem _)
    refine Nat.eq_of_testBit_eq fun b => ?_
    by_cases hb : b < 64
    · rw [g1, g2, Bool.eq_iff_iff]
      have e1 := bl a b h1 hb; have e2 := bk a b h1 hb
      unfold maskM
      rw [e1, e2]; exact h _
    · rw [Nat.testBit_lt_two_pow (Nat.lt_of_lt_of_le l1 (Nat.pow_le_pow_right (by omega) (by omega))), Nat.testBit_lt_two_pow (Nat.lt_of_lt_of_le l2 (Nat.pow_le_pow_right (by omega) (by omega)))]

def pN (l : List Nat) : List Int := l.map fun (p : Nat) => (p : Int)
theorem or64 {a j : Nat} (hj : j < 64) : IntKind.u64.wrap ↑(BitVec.ofNat 64 a ||| BitVec.ofInt 64 (IntKind.u64.wrap (2 ^ min j 64))).toNat = (sett64 a j : Int) := by
  rw [one_shl64 j hj]
  exact wrapU (Int.natCast_nonneg _) (by have := sett64_lt a j; unfold sett64 at this; omega)
theorem idsL_q (l : List Nat) : V.idsL (l.map V.q) = [] := by
  induction l with
  | nil => rfl
  | cons a l ih => simp only [List.map_cons, V.idsL, V.ids, ih, List.append_nil]
theorem mask_view (l : List Nat) (hl : ∀ p ∈ l, p < 4096) (hn : l.length ≤ 1000000) : DC Tryz.prog hall_mask.id [vInts (pN l)] [] (fun r H => r = .agg ((maskM l).map V.q) ∧ H = []) := by
  refine DC.trim (Q := fun r H => r = .agg ((maskM l).map V.q)) ?_ ?_
  rotate_left
  · rintro r H rfl
    exact ⟨0, by simp, by simp [V.ids, idsL_q], rfl, by simp⟩
  refine DC.of hall_mask.ok (by simp) ?_
  unfold hall_mask.ir
  obtain ⟨Z, hZ⟩ : ∃ Z, Z = O.mem false [] [(List.replicate 64 0).map V.q] := ⟨_, rfl⟩
  have hZr : Z.refs = [] := by rw [hZ]; rfl
  refine vc_cut (At [(0, vInts (pN l)), (2, .ptr 0 1 0 0)] [Z]) (by simp -dsimp [At, hZ]) ?_
  try clear h
  rintro ⟨sl, hp, bs⟩ ⟨rfl, h⟩
  simp only [sls_cons, sls_one, sls_nil] at h
  refine vc_cut (At [(0, vInts (pN l)), (2, .ptr 0 1 0 0), (3, .ptr 1 1 0 0)] [Z, .mem false [] [(maskM []).map V.q]]) (by simp -dsimp [h, At]; rfl) ?_
  try clear h
  rintro ⟨sl, hp, bs⟩ ⟨rfl, h⟩
  simp only [sls_cons, sls_one, sls_nil] at h
  refine vc_cut (At [(2, .ptr 0 1 0 0), (3, .ptr 1 1 0 0)] [Z, .mem false [] [(maskM l).map V.q]]) ?_ ?_
  · refine vc_cut (At [(2, .ptr 0 1 0 0), (3, .ptr 1 1 0 0), (6, vInts (pN l)), (7, V.i l.length), (8, V.i 0)] [Z, .mem false [] [(maskM []).map V.q]]) (by simp -dsimp [h, At, vInts, pN]) ?_
    try clear h
    rintro ⟨sl, hp, bs⟩ ⟨rfl, h⟩
    simp only [sls_cons, sls_one, sls_nil] at h
    refine vc_block_of (vc_upto 2 (by simp) l.length (fun i st => At [(2, .ptr 0 1 0 0), (3, .ptr 1 1 0 0), (6, vInts (pN l)), (7, V.i l.length), (8, V.i i)] [Z, .mem false [] [(maskM (l.take i)).map V.q]] st) ⟨rfl, by simpa using h⟩ ?_)
    clear h
    rintro i ⟨sl, hp, bs⟩ hi ⟨rfl, h⟩
    simp only [sls_cons, sls_one] at h
    unfold hall_mask.b0
    by_cases hil : i < l.length
    · have hil' : (i : Int) < l.length := by omega
      have hw : IntKind.i64.wrap ((i : Int) + 1) = ((i + 1 : Nat) : Int) := by rw [wrap64] <;> omega
      obtain ⟨p, hpp⟩ : ∃ p, p = l[i] := ⟨_, rfl⟩
      have hp4 : p < 4096 := hl p (by rw [hpp]; exact List.getElem_mem _)
      have hm : maskM (l.take (i + 1)) = putM (maskM (l.take i)) p := by rw [List.take_succ_eq_append_getElem hil, maskM, List.foldl_append, hpp]; rfl
      have hln := mask_len (l.take i)
      obtain ⟨ws, hws⟩ : ∃ ws, ws = maskM (l.take i) := ⟨_, rfl⟩
      rw [← hws] at hm hln
      rw [← hws]
      obtain ⟨k, hk⟩ : ∃ k, k = p / 64 := ⟨_, rfl⟩
      obtain ⟨b, hb⟩ : ∃ b, b = p % 64 := ⟨_, rfl⟩
      have hk64 : k < 64 := by omega
      have hb64 : b < 64 := by omega
      have hkws : k < ws.length := by omega
      have w1 : IntKind.i64.wrap ((p : Int).tdiv 64) = (k : Int) := by rw [Int.tdiv_eq_ediv_of_nonneg (by omega), wrap64] <;> omega
      have w1b : IntKind.i64.wrap ((p : Int) / 64) = (k : Int) := by rw [wrap64] <;> omega
      have w2b : IntKind.i64.wrap ((p : Int) % 64) = (b : Int) := by rw [wrap64] <;> omega
      have o1 := or64 (a := ws[k]'hkws) hb64
      have w2 : IntKind.i64.wrap ((p : Int).tmod 64) = (b : Int) := by rw [Int.tmod_eq_emod_of_nonneg (by omega), wrap64] <;> omega
      have hpN : ∀ hh, (pN l)[i]'hh = (p : Int) := fun hh => by simp only [pN, List.getElem_map, hpp]
      have hpl : (pN l).length = l.length := by simp [pN]
      have hk' : (k : Int) < 64 := by omega
      have hm2 : putM ws p = ws.set k (sett64 (ws[k]'hkws) b) := by unfold putM; rw [← hk, ← hb]; simp [List.getD, hkws]
      simp -dsimp [h, hil, hil', vInts, hpN, hpl, w1, w1b, w2, w2b, o1, hk', hk64, hln, At, hw, hZr, hm, hm2]
      have ht : (p : Int).tmod 64 = (b : Nat) := by rw [Int.tmod_eq_emod_of_nonneg (by omega)]; omega
      refine ⟨by omega, by rw [ht]; omega, by omega, ?_⟩
      rw [ht]
      simp at o1
      rw [List.set_eq_take_append_cons_drop]
      have hlm : k < (List.map V.q ws).length := by simpa using hkws
      rw [if_pos hlm]
      have hbits : IntKind.u64.bits = 64 := rfl
      have hp1 : (2 : Nat) ^ 64 = 18446744073709551616 := rfl
      have hp2 : (2 : Int) ^ 64 = 18446744073709551616 := rfl
      simp only [Int.toNat_natCast, hbits, hp1, hp2, o1]
    · have hil' : ¬ (i : Int) < l.length := by omega
      have ht : l.take i = l := List.take_of_length_le (by omega)
      simp -dsimp [h, hil', At, ht]
  try clear h
  rintro ⟨sl, hp, bs⟩ ⟨rfl, h⟩
  simp only [sls_cons, sls_one, sls_nil] at h
  have hln := mask_len l
  obtain ⟨ws, hws⟩ : ∃ ws, ws = maskM l := ⟨_, rfl⟩
  rw [← hws] at hln
  rw [← hws]
  have t1 : List.take 64 (ws.map V.q) = ws.map V.q := List.take_of_length_le (by simp; omega)
  have t2 : List.drop 64 (ws.map V.q) = [] := List.drop_of_length_le (by simp; omega)
  simp -dsimp [h, hZ, hall_mask.rs, hln, t1, t2]
theorem mask_own (l : List Nat) (hl : ∀ p ∈ l, p < 4096) (hn : l.length ≤ 1000000) : DC Tryz.prog hall_mask.id [.own 0 1 0 l.length l.length] [.mem false [] (ri (pN l))] (fun r H => r = .agg ((maskM l).map V.q) ∧ H = [.mem false [] (ri (pN l))]) := by
  refine DC.trim (Q := fun r H => r = .agg ((maskM l).map V.q) ∧ ∃ E, H = .mem false [] (ri (pN l)) :: E) ?_ ?_
  rotate_left
  · rintro r H ⟨rfl, E, rfl⟩
    exact ⟨1, by simp, by simp [V.ids, idsL_q], rfl, by simp⟩
  refine DC.of hall_mask.ok (by simp) ?_
  unfold hall_mask.ir
  have hrl : (ri (pN l)).length = l.length := by simp [ri, pN]
  obtain ⟨Z, hZ⟩ : ∃ Z, Z = O.mem false [] [(List.replicate 64 0).map V.q] := ⟨_, rfl⟩
  have hZr : Z.refs = [] := by rw [hZ]; rfl
  refine vc_cut (At [(0, .own 0 1 0 l.length l.length), (2, .ptr 1 1 0 0)] [.mem false [] (ri (pN l)), Z]) (by simp -dsimp [At, hZ]) ?_
  try clear h
  rintro ⟨sl, hp, bs⟩ ⟨rfl, h⟩
  simp only [sls_cons, sls_one, sls_nil] at h
  refine vc_cut (At [(0, .own 0 1 0 l.length l.length), (2, .ptr 1 1 0 0), (3, .ptr 2 1 0 0)] [.mem false [] (ri (pN l)), Z, .mem false [] [(maskM []).map V.q]]) (by simp -dsimp [h, At]; rfl) ?_
  try clear h
  rintro ⟨sl, hp, bs⟩ ⟨rfl, h⟩
  simp only [sls_cons, sls_one, sls_nil] at h
  refine vc_cut (At [(2, .ptr 1 1 0 0), (3, .ptr 2 1 0 0)] [.mem false [] (ri (pN l)), Z, .mem false [] [(maskM l).map V.q]]) ?_ ?_
  · refine vc_cut (At [(2, .ptr 1 1 0 0), (3, .ptr 2 1 0 0), (6, .own 0 1 0 l.length l.length), (7, V.i l.length), (8, V.i 0)] [.mem false [] (ri (pN l)), Z, .mem false [] [(maskM []).map V.q]]) (by simp -dsimp [h, At, hrl]) ?_
    try clear h
    rintro ⟨sl, hp, bs⟩ ⟨rfl, h⟩
    simp only [sls_cons, sls_one, sls_nil] at h
    refine vc_block_of (vc_upto 3 (by simp) l.length (fun i st => At [(2, .ptr 1 1 0 0), (3, .ptr 2 1 0 0), (6, .own 0 1 0 l.length l.length), (7, V.i l.length), (8, V.i i)] [.mem false [] (ri (pN l)), Z, .mem false [] [(maskM (l.take i)).map V.q]] st) ⟨rfl, by simpa using h⟩ ?_)
    clear h
    rintro i ⟨sl, hp, bs⟩ hi ⟨rfl, h⟩
    simp only [sls_cons, sls_one] at h
    unfold hall_mask.b0
    by_cases hil : i < l.length
    · have hil' : (i : Int) < l.length := by omega
      have hw : IntKind.i64.wrap ((i : Int) + 1) = ((i + 1 : Nat) : Int) := by rw [wrap64] <;> omega
      obtain ⟨p, hpp⟩ : ∃ p, p = l[i] := ⟨_, rfl⟩
      have hp4 : p < 4096 := hl p (by rw [hpp]; exact List.getElem_mem _)
      have hm : maskM (l.take (i + 1)) = putM (maskM (l.take i)) p := by rw [List.take_succ_eq_append_getElem hil, maskM, List.foldl_append, hpp]; rfl
      have hln := mask_len (l.take i)
      obtain ⟨ws, hws⟩ : ∃ ws, ws = maskM (l.take i) := ⟨_, rfl⟩
      rw [← hws] at hm hln
      rw [← hws]
      obtain ⟨k, hk⟩ : ∃ k, k = p / 64 := ⟨_, rfl⟩
      obtain ⟨b, hb⟩ : ∃ b, b = p % 64 := ⟨_, rfl⟩
      have hk64 : k < 64 := by omega
      have hb64 : b < 64 := by omega
      have hkws : k < ws.length := by omega
      have w1 : IntKind.i64.wrap ((p : Int).tdiv 64) = (k : Int) := by rw [Int.tdiv_eq_ediv_of_nonneg (by omega), wrap64] <;> omega
      have w1b : IntKind.i64.wrap ((p : Int) / 64) = (k : Int) := by rw [wrap64] <;> omega
      have w2b : IntKind.i64.wrap ((p : Int) % 64) = (b : Int) := by rw [wrap64] <;> omega
      have o1 := or64 (a := ws[k]'hkws) hb64
      have w2 : IntKind.i64.wrap ((p : Int).tmod 64) = (b : Int) := by rw [Int.tmod_eq_emod_of_nonneg (by omega), wrap64] <;> omega
      have hpN : ∀ hh, (ri (pN l))[i]'hh = [V.i p] := fun hh => by simp only [ri, pN, List.getElem_map, hpp]
      have hpl : (ri (pN l)).length = l.length := by simp [ri, pN]
      have hk' : (k : Int) < 64 := by omega
      have hm2 : putM ws p = ws.set k (sett64 (ws[k]'hkws) b) := by unfold putM; rw [← hk, ← hb]; simp [List.getD, hkws]
      simp -dsimp [h, hil, hil', vInts, hpN, hpl, w1, w1b, w2, w2b, o1, hk', hk64, hln, At, hw, hZr, hm, hm2]
      have ht : (p : Int).tmod 64 = (b : Nat) := by rw [Int.tmod_eq_emod_of_nonneg (by omega)]; omega
      refine ⟨by omega, by rw [ht]; omega, by omega, ?_⟩
      rw [ht]
      simp at o1
      rw [List.set_eq_take_append_cons_drop]
      have hlm : k < (List.map V.q ws).length := by simpa using hkws
      rw [if_pos hlm]
      have hbits : IntKind.u64.bits = 64 := rfl
      have hp1 : (2 : Nat) ^ 64 = 18446744073709551616 := rfl
      have hp2 : (2 : Int) ^ 64 = 18446744073709551616 := rfl
      simp only [Int.toNat_natCast, hbits, hp1, hp2, o1]
    · have hil' : ¬ (i : Int) < l.length := by omega
      have ht : l.take i = l := List.take_of_length_le (by omega)
      simp -dsimp [h, hil', At, ht, hrl]
  try clear h
  rintro ⟨sl, hp, bs⟩ ⟨rfl, h⟩
  simp only [sls_cons, sls_one, sls_nil] at h
  have hln := mask_len l
  obtain ⟨ws, hws⟩ : ∃ ws, ws = maskM l := ⟨_, rfl⟩
  rw [← hws] at hln
  rw [← hws]
  have t1 : List.take 64 (ws.map V.q) = ws.map V.q := List.take_of_length_le (by simp; omega)
  have t2 : List.drop 64 (ws.map V.q) = [] := List.drop_of_length_le (by simp; omega)
  simp -dsimp [h, hZ, hall_mask.rs, hln, t1, t2]
end Go.Abs.G
