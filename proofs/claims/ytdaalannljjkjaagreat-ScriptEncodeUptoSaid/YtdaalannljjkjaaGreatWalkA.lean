/- The number of bits of a number: math/bits.Len64. -/
import Derived.Test.YtdaalannljjkjaaGreatSim
import Derived.Test.YtdaalannljjkjaaGreatFTab
import Derived.KernelRfl
open Go Go.PV
namespace Go.PV
set_option maxRecDepth 100000
set_option linter.unusedSimpArgs false

/-- The number of bits of a number. -/
def bitLen (n : Nat) : Nat := if n = 0 then 0 else n.log2 + 1

theorem bitLen_lt (n : Nat) : n < 2 ^ bitLen n := by
  unfold bitLen
  split
  · subst_vars; simp
  · exact Nat.lt_log2_self
theorem bitLen_le {n : Nat} (h : 0 < n) : 2 ^ (bitLen n - 1) ≤ n := by
  unfold bitLen
  rw [if_neg (by omega)]
  simpa using Nat.log2_self_le (by omega)
theorem bitLen_pos {n : Nat} (h : 0 < n) : 0 < bitLen n := by
  unfold bitLen; rw [if_neg (by omega)]; omega
theorem bitLen_unique {n m : Nat} (h1 : n < 2 ^ m) (h2 : m = 0 ∨ 2 ^ (m - 1) ≤ n) : bitLen n = m := by
  rcases Nat.eq_zero_or_pos n with rfl | hp
  · rcases h2 with rfl | h2
    · rfl
    · have := Nat.two_pow_pos (m - 1); omega
  · have a := bitLen_lt n
    have b := bitLen_le hp
    have c := bitLen_pos hp
    have h2 : 2 ^ (m - 1) ≤ n := by
      rcases h2 with rfl | h2
      · simp at h1; omega
      · exact h2
    have h3 : bitLen n - 1 < m := (Nat.pow_lt_pow_iff_right (by decide : 1 < 2)).1 (Nat.lt_of_le_of_lt b h1)
    have h4 : m - 1 < bitLen n := (Nat.pow_lt_pow_iff_right (by decide : 1 < 2)).1 (Nat.lt_of_le_of_lt h2 a)
    rcases Nat.eq_zero_or_pos m with rfl | hm
    · simp at h1; omega
    · omega
theorem bitLen_shift {n k : Nat} (h : 2 ^ k ≤ n) : bitLen (n / 2 ^ k) + k = bitLen n := by
  symm
  have hp : 0 < n / 2 ^ k := Nat.div_pos h (Nat.two_pow_pos k)
  apply bitLen_unique
  · rw [Nat.pow_add]
    exact (Nat.div_lt_iff_lt_mul (Nat.two_pow_pos k)).1 (bitLen_lt _)
  · right
    have := bitLen_le hp
    rw [Nat.le_div_iff_mul_le (Nat.two_pow_pos k), ← Nat.pow_add] at this
    have hc := bitLen_pos hp
    rw [show bitLen (n / 2 ^ k) + k - 1 = bitLen (n / 2 ^ k) - 1 + k by omega]
    exact this

def len8 : List UInt8 := [0, 1, 2, 2, 3, 3, 3, 3, 4, 4, 4, 4, 4, 4, 4, 4, 5, 5, 5, 5, 5, 5, 5, 5, 5, 5, 5, 5, 5, 5, 5, 5, 6, 6, 6, 6, 6, 6, 6, 6, 6, 6, 6, 6, 6, 6, 6, 6, 6, 6, 6, 6, 6, 6, 6, 6, 6, 6, 6, 6, 6, 6, 6, 6, 7, 7, 7, 7, 7, 7, 7, 7, 7, 7, 7, 7, 7, 7, 7, 7, 7, 7, 7, 7, 7, 7, 7, 7, 7, 7, 7, 7, 7, 7, 7, 7, 7, 7, 7, 7, 7, 7, 7, 7, 7, 7, 7, 7, 7, 7, 7, 7, 7, 7, 7, 7, 7, 7, 7, 7, 7, 7, 7, 7, 7, 7, 7, 7, 8, 8, 8, 8, 8, 8, 8, 8, 8, 8, 8, 8, 8, 8, 8, 8, 8, 8, 8, 8, 8, 8, 8, 8, 8, 8, 8, 8, 8, 8, 8, 8, 8, 8, 8, 8, 8, 8, 8, 8, 8, 8, 8, 8, 8, 8, 8, 8, 8, 8, 8, 8, 8, 8, 8, 8, 8, 8, 8, 8, 8, 8, 8, 8, 8, 8, 8, 8, 8, 8, 8, 8, 8, 8, 8, 8, 8, 8, 8, 8, 8, 8, 8, 8, 8, 8, 8, 8, 8, 8, 8, 8, 8, 8, 8, 8, 8, 8, 8, 8, 8, 8, 8, 8, 8, 8, 8, 8, 8, 8, 8, 8, 8, 8, 8, 8, 8, 8, 8, 8, 8, 8, 8, 8, 8, 8, 8, 8]
theorem len8_at : ∀ i : Nat, i < 256 → len8[i]? = some (UInt8.ofNat (bitLen i)) := by
  intro i hi
  have : ((List.range 256).all fun i => len8[i]? == some (UInt8.ofNat (bitLen i))) = true := by decide +kernel
  have := List.all_eq_true.1 this i (by simpa using hi)
  simpa using this

theorem bitLen_small {i : Nat} (h : i < 256) : bitLen i ≤ 8 := by
  rcases Nat.eq_zero_or_pos i with rfl | hp
  · decide
  · have b := bitLen_le hp
    have : bitLen i - 1 < 8 := (Nat.pow_lt_pow_iff_right (by decide : 1 < 2)).1 (Nat.lt_of_le_of_lt b h)
    omega

theorem len8_ix (i : Nat) (hi : i < 256) : ixstrV (.r (.str [0, 1, 2, 2, 3, 3, 3, 3, 4, 4, 4, 4, 4, 4, 4, 4, 5, 5, 5, 5, 5, 5, 5, 5, 5, 5, 5, 5, 5, 5, 5, 5, 6, 6, 6, 6, 6, 6, 6, 6, 6, 6, 6, 6, 6, 6, 6, 6, 6, 6, 6, 6, 6, 6, 6, 6, 6, 6, 6, 6, 6, 6, 6, 6, 7, 7, 7, 7, 7, 7, 7, 7, 7, 7, 7, 7, 7, 7, 7, 7, 7, 7, 7, 7, 7, 7, 7, 7, 7, 7, 7, 7, 7, 7, 7, 7, 7, 7, 7, 7, 7, 7, 7, 7, 7, 7, 7, 7, 7, 7, 7, 7, 7, 7, 7, 7, 7, 7, 7, 7, 7, 7, 7, 7, 7, 7, 7, 7, 8, 8, 8, 8, 8, 8, 8, 8, 8, 8, 8, 8, 8, 8, 8, 8, 8, 8, 8, 8, 8, 8, 8, 8, 8, 8, 8, 8, 8, 8, 8, 8, 8, 8, 8, 8, 8, 8, 8, 8, 8, 8, 8, 8, 8, 8, 8, 8, 8, 8, 8, 8, 8, 8, 8, 8, 8, 8, 8, 8, 8, 8, 8, 8, 8, 8, 8, 8, 8, 8, 8, 8, 8, 8, 8, 8, 8, 8, 8, 8, 8, 8, 8, 8, 8, 8, 8, 8, 8, 8, 8, 8, 8, 8, 8, 8, 8, 8, 8, 8, 8, 8, 8, 8, 8, 8, 8, 8, 8, 8, 8, 8, 8, 8, 8, 8, 8, 8, 8, 8, 8, 8, 8, 8, 8, 8, 8, 8])) (.r (.int .u8 (i : Int))) = some (.r (.int .u8 (bitLen i : Nat))) := by
  have h := len8_at i hi
  unfold len8 at h
  simp only [ixstrV, Int.natCast_nonneg, if_true, Int.toNat_natCast, h]
  have := bitLen_small hi
  have e : (UInt8.ofNat (bitLen i)).toNat = bitLen i := by simp; omega
  rw [e]

theorem w127 {T : List Ent} (hT : (T.all fun e => e.f != 127) = true) (x : Nat) (hx : x < 2 ^ 64) : callW F T 127 [.r (.int .u64 x)] [] = some (.r (.int .i64 (bitLen x)), []) := by
  rw [callW_of hT (A := c127) rfl]
  have fin : ∀ (k y : Nat), y < 256 → bitLen y + k = bitLen x → wrapK .i64 ((k : Int) + wrapK .i64 (bitLen y : Nat)) = (bitLen x : Nat) := fun k y hy h => by
    have := bitLen_small hy
    have hk : bitLen x ≤ 64 := by
      rcases Nat.eq_zero_or_pos x with rfl | hp
      · decide
      · have b := bitLen_le hp
        have : bitLen x - 1 < 64 := (Nat.pow_lt_pow_iff_right (by decide : 1 < 2)).1 (Nat.lt_of_le_of_lt b hx)
        omega
    simp only [wrapK]
    omega
  have cv : ∀ y : Nat, y < 256 → wrapK .u8 (y : Int) = (y : Nat) := fun y hy => by simp only [wrapK]; omega
  by_cases h1 : (4294967296 : Int) ≤ x
  · by_cases h2 : (65536 : Int) ≤ (x : Int) / 4294967296
    · by_cases h3 : (256 : Int) ≤ (x : Int) / 4294967296 / 65536
      · obtain ⟨y, hyd⟩ : ∃ y : Nat, y = x / 2 ^ 56 := ⟨_, rfl⟩
        have e : (x : Int) / 4294967296 / 65536 / 256 = (y : Int) := by omega
        have hy : y < 256 := by omega
        have hf := fin 56 y hy (by rw [hyd]; exact bitLen_shift (by omega))
        simp [c127, h1, h2, h3, shrI, bitsK, convV, e, cv _ hy, len8_ix _ hy, show wrapK .i64 8 = 8 from rfl, show wrapK .i64 16 = 16 from rfl, show wrapK .i64 24 = 24 from rfl, show wrapK .i64 40 = 40 from rfl, show wrapK .i64 48 = 48 from rfl, show wrapK .i64 56 = 56 from rfl]
        exact hf
      · obtain ⟨y, hyd⟩ : ∃ y : Nat, y = x / 2 ^ 48 := ⟨_, rfl⟩
        have e : (x : Int) / 4294967296 / 65536 = (y : Int) := by omega
        have hy : y < 256 := by omega
        have hf := fin 48 y hy (by rw [hyd]; exact bitLen_shift (by omega))
        have g3 := h3
        rw [e] at g3
        simp [c127, h1, h2, h3, g3, shrI, bitsK, convV, e, cv _ hy, len8_ix _ hy, show wrapK .i64 8 = 8 from rfl, show wrapK .i64 16 = 16 from rfl, show wrapK .i64 24 = 24 from rfl, show wrapK .i64 40 = 40 from rfl, show wrapK .i64 48 = 48 from rfl, show wrapK .i64 56 = 56 from rfl]
        exact hf
    · by_cases h3 : (256 : Int) ≤ (x : Int) / 4294967296
      · obtain ⟨y, hyd⟩ : ∃ y : Nat, y = x / 2 ^ 40 := ⟨_, rfl⟩
        have e : (x : Int) / 4294967296 / 256 = (y : Int) := by omega
        have hy : y < 256 := by omega
        have hf := fin 40 y hy (by rw [hyd]; exact bitLen_shift (by omega))
        simp [c127, h1, h2, h3, shrI, bitsK, convV, e, cv _ hy, len8_ix _ hy, show wrapK .i64 8 = 8 from rfl, show wrapK .i64 16 = 16 from rfl, show wrapK .i64 24 = 24 from rfl, show wrapK .i64 40 = 40 from rfl, show wrapK .i64 48 = 48 from rfl, show wrapK .i64 56 = 56 from rfl]
        exact hf
      · obtain ⟨y, hyd⟩ : ∃ y : Nat, y = x / 2 ^ 32 := ⟨_, rfl⟩
        have e : (x : Int) / 4294967296 = (y : Int) := by omega
        have hy : y < 256 := by omega
        have hf := fin 32 y hy (by rw [hyd]; exact bitLen_shift (by omega))
        have g2 := h2
        rw [e] at g2
        have g3 := h3
        rw [e] at g3
        simp [c127, h1, h2, h3, g2, g3, shrI, bitsK, convV, e, cv _ hy, len8_ix _ hy, show wrapK .i64 8 = 8 from rfl, show wrapK .i64 16 = 16 from rfl, show wrapK .i64 24 = 24 from rfl, show wrapK .i64 40 = 40 from rfl, show wrapK .i64 48 = 48 from rfl, show wrapK .i64 56 = 56 from rfl]
        exact hf
  · by_cases h2 : (65536 : Int) ≤ (x : Int)
    · by_cases h3 : (256 : Int) ≤ (x : Int) / 65536
      · obtain ⟨y, hyd⟩ : ∃ y : Nat, y = x / 2 ^ 24 := ⟨_, rfl⟩
        have e : (x : Int) / 65536 / 256 = (y : Int) := by omega
        have hy : y < 256 := by omega
        have hf := fin 24 y hy (by rw [hyd]; exact bitLen_shift (by omega))
        simp [c127, h1, h2, h3, shrI, bitsK, convV, e, cv _ hy, len8_ix _ hy, show wrapK .i64 8 = 8 from rfl, show wrapK .i64 16 = 16 from rfl, show wrapK .i64 24 = 24 from rfl, show wrapK .i64 40 = 40 from rfl, show wrapK .i64 48 = 48 from rfl, show wrapK .i64 56 = 56 from rfl]
        exact hf
      · obtain ⟨y, hyd⟩ : ∃ y : Nat, y = x / 2 ^ 16 := ⟨_, rfl⟩
        have e : (x : Int) / 65536 = (y : Int) := by omega
        have hy : y < 256 := by omega
        have hf := fin 16 y hy (by rw [hyd]; exact bitLen_shift (by omega))
        have g3 := h3
        rw [e] at g3
        simp [c127, h1, h2, h3, g3, shrI, bitsK, convV, e, cv _ hy, len8_ix _ hy, show wrapK .i64 8 = 8 from rfl, show wrapK .i64 16 = 16 from rfl, show wrapK .i64 24 = 24 from rfl, show wrapK .i64 40 = 40 from rfl, show wrapK .i64 48 = 48 from rfl, show wrapK .i64 56 = 56 from rfl]
        exact hf
    · by_cases h3 : (256 : Int) ≤ (x : Int)
      · obtain ⟨y, hyd⟩ : ∃ y : Nat, y = x / 2 ^ 8 := ⟨_, rfl⟩
        have e : (x : Int) / 256 = (y : Int) := by omega
        have hy : y < 256 := by omega
        have hf := fin 8 y hy (by rw [hyd]; exact bitLen_shift (by omega))
        simp [c127, h1, h2, h3, shrI, bitsK, convV, e, cv _ hy, len8_ix _ hy, show wrapK .i64 8 = 8 from rfl, show wrapK .i64 16 = 16 from rfl, show wrapK .i64 24 = 24 from rfl, show wrapK .i64 40 = 40 from rfl, show wrapK .i64 48 = 48 from rfl, show wrapK .i64 56 = 56 from rfl]
        exact hf
      · have hy : x < 256 := by omega
        have hf := fin 0 x hy rfl
        simp [c127, h1, h2, h3, convV, cv _ hy, len8_ix _ hy]
        simpa using hf
end Go.PV

/- The number of bits of a 256-bit number: uint256.BitLen. -/
open Go Go.PV
namespace Go.PV
set_option maxRecDepth 100000
set_option linter.unusedSimpArgs false

def limbs (a b c d : Nat) : R := .agg [.int .u64 a, .int .u64 b, .int .u64 c, .int .u64 d]
theorem w64 {a : Int} (h1 : -9223372036854775808 ≤ a) (h2 : a < 9223372036854775808) : wrapK .i64 a = a := by simp only [wrapK]; omega

/-- One call of Len64. -/
theorem d127 {T : List Ent} (hT : (T.all fun e => e.f != 127) = true) (x : Nat) (hx : x < 2 ^ 64) (h : Heap) : doCallU (callW F T) 127 [.r (.int .u64 x)] h = some (.r (.int .i64 (bitLen x)), h) := by
  rw [call_pure (by simp) (by simp) (w127 hT x hx)]; simp

theorem bitLen64 {x : Nat} (h : x < 2 ^ 64) : bitLen x ≤ 64 := by
  rcases Nat.eq_zero_or_pos x with rfl | hp
  · decide
  · have b := bitLen_le hp
    have : bitLen x - 1 < 64 := (Nat.pow_lt_pow_iff_right (by decide : 1 < 2)).1 (Nat.lt_of_le_of_lt b h)
    omega

section
variable {T : List Ent} (hT' : (T.all fun e => e.f != 127) = true)
include hT'
theorem l87_zero (cs : List R) (i : Nat) (hi : i < 4) (hv : cs[i]? = some (.int .u64 0)) :
    ∃ s1, execS (callW F T) loopW 0 c87_l0 ⟨[(1, .ptr 0 0 0), (3, .r (.int .i64 i))], [.rows 4 [.agg cs]]⟩ = some (.normal, s1) ∧ canonS 0 [false, true, false, true] s1 = some ⟨[(1, .ptr 0 0 0), (3, .r (.int .i64 ((i : Int) - 1)))], [.rows 4 [.agg cs]]⟩ := by
  have _ := hT'
  have h4 : (i : Int) < 4 := by omega
  simp [c87_l0, h4, loadH, hv, w64 (a := (i : Int) - 1) (by omega) (by omega)]
theorem l87_hit (cs : List R) (i v : Nat) (hi : i < 4) (hv : cs[i]? = some (.int .u64 v)) (h0 : v ≠ 0) (hv64 : v < 2 ^ 64) :
    ∃ s1, execS (callW F T) loopW 0 c87_l0 ⟨[(1, .ptr 0 0 0), (3, .r (.int .i64 i))], [.rows 4 [.agg cs]]⟩ = some (.ret, s1) ∧ finishS 0 [.tmp 2] s1 = some (.r (.int .i64 (64 * i + bitLen v : Nat)), []) := by
  have h4 : (i : Int) < 4 := by omega
  have hb := bitLen64 hv64
  simp [c87_l0, h4, loadH, hv, h0, d127 hT' v hv64, w64 (a := 64 * (i : Int)) (by omega) (by omega), w64 (a := 64 * (i : Int) + (bitLen v : Nat)) (by omega) (by omega)]
end

/-- The value of four limbs. -/
def val4 (a b c d : Nat) : Nat := a + 2 ^ 64 * b + 2 ^ 128 * c + 2 ^ 192 * d

theorem bitLen_add {x k m : Nat} (hx : x < 2 ^ k) (h0 : 0 < m) : bitLen (x + 2 ^ k * m) = k + bitLen m := by
  have hd : (x + 2 ^ k * m) / 2 ^ k = m := by
    rw [Nat.add_mul_div_left _ _ (Nat.two_pow_pos k), Nat.div_eq_of_lt hx, Nat.zero_add]
  have := bitLen_shift (n := x + 2 ^ k * m) (k := k) (by have := Nat.le_mul_of_pos_right (2 ^ k) h0; omega)
  rw [hd] at this
  omega

theorem w87 {T : List Ent} (hT : (T.all fun e => e.f != 87) = true) (hT' : (T.all fun e => e.f != 127) = true) (a b c d : Nat) (ha : a < 2 ^ 64) (hb : b < 2 ^ 64) (hc : c < 2 ^ 64) (hd : d < 2 ^ 64) :
    callW F T 87 [.r (limbs a b c d)] [] = some (.r (.int .i64 (bitLen (val4 a b c d))), []) := by
  rw [callW_of hT (A := c87) rfl]
  simp only [limbs]
  generalize hcs : [R.int .u64 a, .int .u64 b, .int .u64 c, .int .u64 d] = cs
  have hl : cs.length = 4 := by subst hcs; rfl
  have g0 : cs[0]? = some (.int .u64 a) := by subst hcs; rfl
  have g1 : cs[1]? = some (.int .u64 b) := by subst hcs; rfl
  have g2 : cs[2]? = some (.int .u64 c) := by subst hcs; rfl
  have g3 : cs[3]? = some (.int .u64 d) := by subst hcs; rfl
  have hit : ∀ (i v : Nat) (s : SS), i < 4 → cs[i]? = some (.int .u64 v) → v ≠ 0 → v < 2 ^ 64 → canonS 0 [false, true, false, true] s = some ⟨[(1, .ptr 0 0 0), (3, .r (.int .i64 i))], [.rows 4 [.agg cs]]⟩ →
      ∃ s1, loopW (execS (callW F T) loopW 0 c87_l0) (canonS 0 [false, true, false, true]) s = some (.ret, s1) ∧ finishS 0 [.tmp 2] s1 = some (.r (.int .i64 (64 * i + bitLen v : Nat)), []) := fun i v s hi hv h0 h64 hs => by
    obtain ⟨s1, h1, h2⟩ := l87_hit hT' cs i v hi hv h0 h64
    exact ⟨s1, loop_end hs h1 (by simp), h2⟩
  have zero : ∀ (i : Nat) (s : SS), i < 4 → cs[i]? = some (.int .u64 (0 : Nat)) → canonS 0 [false, true, false, true] s = some ⟨[(1, .ptr 0 0 0), (3, .r (.int .i64 i))], [.rows 4 [.agg cs]]⟩ →
      ∃ s1, loopW (execS (callW F T) loopW 0 c87_l0) (canonS 0 [false, true, false, true]) s = loopW (execS (callW F T) loopW 0 c87_l0) (canonS 0 [false, true, false, true]) s1 ∧ canonS 0 [false, true, false, true] s1 = some ⟨[(1, .ptr 0 0 0), (3, .r (.int .i64 ((i : Int) - 1)))], [.rows 4 [.agg cs]]⟩ := fun i s hi hv hs => by
    obtain ⟨s1, h1, h2⟩ := l87_zero hT' cs i hi hv
    exact ⟨s1, loop_one hs h1, h2⟩
  have out : ∀ (s : SS) (n : Nat), (∃ s1, loopW (execS (callW F T) loopW 0 c87_l0) (canonS 0 [false, true, false, true]) s = some (.ret, s1) ∧ finishS 0 [.tmp 2] s1 = some (.r (.int .i64 n), [])) →
      endS 0 [.tmp 2] (seqS (execS (callW F T) loopW 0 (.seq (.region false [⟨0, some 2, .p .mov [.c (.int .i64 0)], [], none⟩]) .ret)) (blockS 0 (loopW (execS (callW F T) loopW 0 c87_l0) (canonS 0 [false, true, false, true]) s))) = some (.r (.int .i64 n), []) := fun s n ⟨s1, h1, h2⟩ => by
    rw [h1]; exact h2
  simp [c87, hl]
  generalize hs3 : SS.mk [(3, V.r (R.int IntKind.i64 3)), (2, V.r (R.int IntKind.i64 0)), (1, V.ptr 0 0 0), (0, V.r (R.agg cs))] [Blk.rows 4 [R.agg cs]] = s3
  have k3 : canonS 0 [false, true, false, true] s3 = some ⟨[(1, .ptr 0 0 0), (3, .r (.int .i64 (3 : Nat)))], [.rows 4 [.agg cs]]⟩ := by subst hs3; simp
  by_cases h3 : d = 0
  · subst h3
    obtain ⟨s2, e2, k2⟩ := zero 3 s3 (by omega) g3 k3
    rw [e2]
    by_cases h2 : c = 0
    · subst h2
      obtain ⟨s1, e1, k1⟩ := zero 2 s2 (by omega) g2 k2
      rw [e1]
      by_cases h1 : b = 0
      · subst h1
        obtain ⟨s0, e0, k0⟩ := zero 1 s1 (by omega) g1 k1
        rw [e0]
        by_cases h0 : a = 0
        · subst h0
          obtain ⟨sx, ex, kx⟩ := zero 0 s0 (by omega) g0 k0
          rw [ex]
          have hx : ∃ sy, execS (callW F T) loopW 0 c87_l0 ⟨[(1, .ptr 0 0 0), (3, .r (.int .i64 (-1)))], [.rows 4 [.agg cs]]⟩ = some (.exit 0, sy) := by simp [c87_l0]
          obtain ⟨sy, hy⟩ := hx
          rw [loop_end (s1 := ⟨[(1, .ptr 0 0 0), (3, .r (.int .i64 (-1)))], [.rows 4 [.agg cs]]⟩) kx hy (by simp)]
          simp [val4, bitLen]
        · have := out s0 _ (hit 0 a s0 (by omega) g0 h0 ha k0)
          rw [show val4 a 0 0 0 = a by simp [val4]]
          simpa using this
      · have := out s1 _ (hit 1 b s1 (by omega) g1 h1 hb k1)
        rw [show val4 a b 0 0 = a + 2 ^ 64 * b by simp [val4], bitLen_add ha (by omega)]
        simpa using this
    · have := out s2 _ (hit 2 c s2 (by omega) g2 h2 hc k2)
      rw [show val4 a b c 0 = (a + 2 ^ 64 * b) + 2 ^ 128 * c by simp [val4], bitLen_add (by omega) (by omega)]
      simpa using this
  · have := out s3 _ (hit 3 d s3 (by omega) g3 h3 hd k3)
    rw [show val4 a b c d = (a + 2 ^ 64 * b + 2 ^ 128 * c) + 2 ^ 192 * d by simp [val4], bitLen_add (by omega) (by omega)]
    simpa using this
end Go.PV

/- The encoding of a 256-bit number: wire.encode. -/
open Go Go.PV
namespace Go.PV
set_option maxRecDepth 100000
set_option linter.unusedSimpArgs false

/-- k bytes of n, the most significant first. -/
def beB : Nat → Nat → List UInt8
  | 0, _ => []
  | k + 1, n => UInt8.ofNat (n / 256 ^ k % 256) :: beB k n

theorem beB_len (k n : Nat) : (beB k n).length = k := by
  induction k with
  | zero => rfl
  | succ k ih => simp [beB, ih]

/-- The number of bytes of a number; its encoding. -/
def nb (n : Nat) : Nat := (bitLen n + 7) / 8
def encN (n : Nat) : List UInt8 := UInt8.ofNat (nb n) :: beB (nb n) n

theorem d87 {T : List Ent} (hT : (T.all fun e => e.f != 87) = true) (hT' : (T.all fun e => e.f != 127) = true) (a b c d : Nat) (ha : a < 2 ^ 64) (hb : b < 2 ^ 64) (hc : c < 2 ^ 64) (hd : d < 2 ^ 64) (h : Heap) :
    doCallU (callW F T) 87 [.r (.agg [.int .u64 a, .int .u64 b, .int .u64 c, .int .u64 d])] h = some (.r (.int .i64 (bitLen (val4 a b c d))), h) := by
  have h87 := w87 hT hT' a b c d ha hb hc hd
  rw [limbs] at h87
  rw [call_pure (by simp) (by simp) h87]; simp

theorem bys_append (a b : List UInt8) : bys (a ++ b) = bys a ++ bys b := by simp [bys]
theorem bys_len (a : List UInt8) : (bys a).length = a.length := by simp [bys]

/-- Appending to a slice that ends where its block ends. -/
theorem app_end {h : Heap} {sz eb b k n m : Nat} {els ys : List R} {x : V} (hb : h[b]? = some (.rows sz els)) (hkn : k + n = els.length) (hs : strideOf x = some sz) (hl : lenV x = some m) (hm : ys.length = m) (he : elemsR h x = some ys) (hlim : (n + m) * eb ≤ 2 ^ 46) :
    appH h sz eb (.sl sz b k n) x = some (.sl sz h.length 0 (n + m), h.set b .dead ++ [.rows sz (els.drop k ++ ys)]) := by
  have e1 : elemsR h (.sl sz b k n) = some (els.drop k) := by
    simp only [elemsR, hb]
    rw [if_pos ⟨trivial, by omega⟩, List.take_of_length_le (by simp; omega)]
  have s1 : strideOf (.sl sz b k n) = some sz := rfl
  have s2 : lenV (.sl sz b k n) = some n := rfl
  have s3 : elsOf h (.sl sz b k n) = some (.rows (els.drop k)) := by simp only [elsOf, e1]
  have s4 : elsOf h x = some (.rows ys) := by simp only [elsOf, he]
  have e2 : appIn h sz (.sl sz b k n) m (.rows ys) = none := by
    simp only [appIn, hb]
    rw [if_neg (by omega)]
  simp only [appH, hs, hl, s4, if_true, appE, s1, s2, s3, appOk, e2]
  rw [if_pos ⟨trivial, hlim⟩]
  rfl

theorem byte_shift (x s : Nat) (hs : s ≤ 64) : wrapK .u8 (shrI .u64 (x : Int) (s : Int)) = ((x / 2 ^ s % 256 : Nat) : Int) := by
  simp only [shrI, wrapK, bitsK]
  rw [show min ((s : Int).toNat) 64 = s by omega]
  simp

theorem bys_snoc (out : List UInt8) (z : Nat) (hz : z < 256) : bys (out ++ [UInt8.ofNat z]) = bys out ++ [.int .u8 (z : Int)] := by
  rw [bys_append]
  have : (UInt8.ofNat z).toNat = z := by simp; omega
  simp [bys, byR, this]
theorem app_byte (pre : List Blk) (b : Nat) (hb : pre.length = b) (out : List UInt8) (z : R) (ho : out.length ≤ 2 ^ 40) :
    appH (pre ++ [.rows 1 (bys out), .rows 1 [z]]) 1 1 (.sl 1 b 0 out.length) (.sl 1 (b + 1) 0 1) = some (.sl 1 (b + 2) 0 (out.length + 1), pre ++ [.dead, .rows 1 [z], .rows 1 (bys out ++ [z])]) := by
  subst hb
  rw [app_end (els := bys out) (ys := [z]) (by simp) (by simp [bys_len]) rfl rfl rfl (by simp [elemsR]) (by simp; omega)]
  simp

theorem l57 {T : List Ent} (cs : List R) (out : List UInt8) (i v : Nat) (hv : cs[i / 8]? = some (.int .u64 v)) (hi : i < 32) (ho : out.length ≤ 40) :
    ∃ s1, execS (callW F T) loopW 0 c57_l0 ⟨[(1, .ptr 0 0 0), (4, .sl 1 1 0 out.length), (5, .r (.int .i64 i))], [.rows 4 [.agg cs], .rows 1 (bys out)]⟩ = some (.normal, s1) ∧
      canonS 0 [false, true, false, false, true, true] s1 = some ⟨[(1, .ptr 0 0 0), (4, .sl 1 1 0 (out.length + 1)), (5, .r (.int .i64 ((i : Int) - 1)))], [.rows 4 [.agg cs], .rows 1 (bys (out ++ [UInt8.ofNat (v / 2 ^ (8 * (i % 8)) % 256)]))]⟩ := by
  have e1 : (i : Int).tdiv 8 = ((i / 8 : Nat) : Int) := by rw [Int.tdiv_eq_ediv_of_nonneg (by omega)]; omega
  have e2 : (i : Int).tmod 8 = ((i % 8 : Nat) : Int) := by rw [Int.tmod_eq_emod_of_nonneg (by omega)]; omega
  have h4 : ((i / 8 : Nat) : Int) < 4 := by omega
  have e3 : wrapK .i64 ((i / 8 : Nat) : Int) = ((i / 8 : Nat) : Int) := w64 (by omega) (by omega)
  have e4 : wrapK .i64 (8 * ((i % 8 : Nat) : Int)) = ((8 * (i % 8) : Nat) : Int) := by rw [w64 (by omega) (by omega)]; simp
  have e5 : wrapK .i64 ((i : Int) - 1) = (i : Int) - 1 := w64 (by omega) (by omega)
  have e6 := byte_shift v (8 * (i % 8)) (by omega)
  generalize hq : i / 8 = q at *
  generalize hr : 8 * (i % 8) = r at *
  generalize hr2 : i % 8 = r2 at *
  have hz : v / 2 ^ r % 256 < 256 := Nat.mod_lt _ (by decide)
  rw [bys_snoc _ _ hz]
  generalize v / 2 ^ r % 256 = z at *
  have happ := app_byte [.rows 4 [.agg cs]] 1 rfl out (.int .u8 z) (by omega)
  simp only [List.cons_append, List.nil_append] at happ
  simp [c57_l0, e1, e2, e3, e4, e5, e6, h4, loadH, hv, show ¬ ((r : Int) < 0) from by omega, bslN, happ]
  done

theorem low_byte (v m s : Nat) (hs : s ≤ 56) : (v + 2 ^ 64 * m) / 2 ^ s % 256 = v / 2 ^ s % 256 := by
  have e : 2 ^ 64 * m = 2 ^ s * (256 * (2 ^ (56 - s) * m)) := by
    rw [← Nat.mul_assoc, ← Nat.mul_assoc]
    congr 1
    rw [show (256 : Nat) = 2 ^ 8 from rfl, ← Nat.pow_add, ← Nat.pow_add]
    congr 1; omega
  rw [e, Nat.add_mul_div_left _ _ (Nat.two_pow_pos s), Nat.add_mul_mod_self_left]

theorem val4_byte {a b c d : Nat} (ha : a < 2 ^ 64) (hb : b < 2 ^ 64) (hc : c < 2 ^ 64) (i v : Nat) (hi : i < 32) (hv : [a, b, c, d][i / 8]? = some v) : v / 2 ^ (8 * (i % 8)) % 256 = val4 a b c d / 256 ^ i % 256 := by
  have e256 : (256 : Nat) ^ i = 2 ^ (64 * (i / 8)) * 2 ^ (8 * (i % 8)) := by
    rw [show (256 : Nat) = 2 ^ 8 from rfl, ← Nat.pow_mul, ← Nat.pow_add]
    congr 1; omega
  rw [e256, ← Nat.div_div_eq_div_mul]
  have hq : i / 8 < 4 := by omega
  have key : ∃ m, val4 a b c d / 2 ^ (64 * (i / 8)) = v + 2 ^ 64 * m := by
    generalize i / 8 = q at *
    match q, hq with
    | 0, _ => simp at hv; subst hv; exact ⟨b + 2 ^ 64 * c + 2 ^ 128 * d, by simp only [val4]; omega⟩
    | 1, _ => simp at hv; subst hv; exact ⟨c + 2 ^ 64 * d, by simp only [val4]; omega⟩
    | 2, _ => simp at hv; subst hv; exact ⟨d, by simp only [val4]; omega⟩
    | 3, _ => simp at hv; subst hv; exact ⟨0, by simp only [val4]; omega⟩
  obtain ⟨m, hm⟩ := key
  rw [hm, low_byte _ _ _ (by omega)]

theorem beB_get (k n j : Nat) (hj : j < k) : (beB k n)[j]? = some (UInt8.ofNat (n / 256 ^ (k - 1 - j) % 256)) := by
  induction k generalizing j with
  | zero => omega
  | succ k ih =>
    simp only [beB]
    cases j with
    | zero => simp
    | succ j =>
      rw [List.getElem?_cons_succ, ih j (by omega)]
      rw [show k + 1 - 1 - (j + 1) = k - 1 - j by omega]

theorem val4_lt {a b c d : Nat} (ha : a < 2 ^ 64) (hb : b < 2 ^ 64) (hc : c < 2 ^ 64) (hd : d < 2 ^ 64) : val4 a b c d < 2 ^ 256 := by
  simp only [val4]; omega
theorem bitLen_bound {n k : Nat} (h : n < 2 ^ k) : bitLen n ≤ k := by
  rcases Nat.eq_zero_or_pos n with rfl | hp
  · simp [bitLen]
  · have b := bitLen_le hp
    have : bitLen n - 1 < k := (Nat.pow_lt_pow_iff_right (by decide : 1 < 2)).1 (Nat.lt_of_le_of_lt b h)
    omega

theorem w57 {T : List Ent} (h57 : (T.all fun e => e.f != 57) = true) (h87 : (T.all fun e => e.f != 87) = true) (h127 : (T.all fun e => e.f != 127) = true) (a b c d : Nat) (ha : a < 2 ^ 64) (hb : b < 2 ^ 64) (hc : c < 2 ^ 64) (hd : d < 2 ^ 64) :
    callW F T 57 [.r (limbs a b c d)] [] = some (.sl 1 0 0 (encN (val4 a b c d)).length, [.rows 1 (bys (encN (val4 a b c d)))]) := by
  rw [callW_of h57 (A := c57) rfl]
  have hN := val4_lt ha hb hc hd
  have hbl := bitLen_bound hN
  have hbyte : ∀ (i v : Nat), i < 32 → [a, b, c, d][i / 8]? = some v → v / 2 ^ (8 * (i % 8)) % 256 = val4 a b c d / 256 ^ i % 256 := fun i v hi hv => val4_byte ha hb hc i v hi hv
  have h87' := d87 h87 h127 a b c d ha hb hc hd
  generalize hNe : val4 a b c d = N at *
  have e1 : wrapK .i64 ((bitLen N : Int) + 7) = (bitLen N : Int) + 7 := w64 (by omega) (by omega)
  have e2 : ((bitLen N : Int) + 7).tdiv 8 = (nb N : Int) := by rw [Int.tdiv_eq_ediv_of_nonneg (by omega)]; simp only [nb]; omega
  have hk : nb N ≤ 32 := by simp only [nb]; omega
  have e3 : wrapK .i64 (nb N : Int) = (nb N : Int) := w64 (by omega) (by omega)
  have e4 : wrapK .u8 (nb N : Int) = (nb N : Int) := by simp only [wrapK]; omega
  have e5 : wrapK .i64 ((nb N : Int) - 1) = (nb N : Int) - 1 := w64 (by omega) (by omega)
  simp [c57, limbs, loadH, h87', e1, e2, e3, e4, e5, bslN]
  have hex : ∃ s', execS (callW F T) loopW 0 c57_l0 ⟨[(1, .ptr 0 0 0), (4, .sl 1 1 0 (nb N + 1)), (5, .r (.int .i64 (-1)))], [.rows 4 [limbs a b c d], .rows 1 (bys (encN N))]⟩ = some (.exit 0, s') ∧
      s'.h = [.rows 4 [limbs a b c d], .rows 1 (bys (encN N))] ∧ get s'.fr 4 = .sl 1 1 0 (nb N + 1) := by simp [c57_l0]
  obtain ⟨s', hx, hxh, hx4⟩ := hex
  have key := loop_rounds (d := execS (callW F T) loopW 0 c57_l0) (hd := canonS 0 [false, true, false, false, true, true])
    (fun j => ⟨[(1, .ptr 0 0 0), (4, .sl 1 1 0 (j + 1)), (5, .r (.int .i64 ((nb N : Int) - 1 - j)))], [.rows 4 [limbs a b c d], .rows 1 (bys (UInt8.ofNat (nb N) :: (beB (nb N) N).take j))]⟩) (nb N) s' (.exit 0)
    (fun j hj => by
      obtain ⟨v, hv⟩ : ∃ v, [a, b, c, d][(nb N - 1 - j) / 8]? = some v := ⟨_, List.getElem?_eq_getElem (by simp; omega)⟩
      have hcs : [R.int .u64 a, .int .u64 b, .int .u64 c, .int .u64 d][(nb N - 1 - j) / 8]? = some (.int .u64 v) := by
        have := congrArg (Option.map fun n : Nat => R.int .u64 (n : Int)) hv
        rw [← List.getElem?_map] at this
        exact this
      have hl : (UInt8.ofNat (nb N) :: (beB (nb N) N).take j).length = j + 1 := by simp [beB_len]; omega
      obtain ⟨s1, h1, h2⟩ := l57 (T := T) [R.int .u64 a, .int .u64 b, .int .u64 c, .int .u64 d] (UInt8.ofNat (nb N) :: (beB (nb N) N).take j) (nb N - 1 - j) v hcs (by omega) (by omega)
      rw [hl] at h1 h2
      rw [show (((nb N - 1 - j : Nat)) : Int) = (nb N : Int) - 1 - j by omega] at h1 h2
      refine ⟨s1, h1, ?_⟩
      rw [h2, hbyte _ v (by omega) hv, List.take_add_one, beB_get _ _ _ hj]
      simp [limbs]
      omega)
    (by
      have e : (nb N : Int) - 1 - (nb N : Int) = -1 := by omega
      simp only [e]
      rw [List.take_of_length_le (by rw [beB_len]; exact Nat.le_refl _)]
      exact hx) (by simp)
  rw [key]
  · simp [hxh, hx4, encN, beB_len]
  · have hb1 := bys_snoc [] (nb N) (by omega)
    simp only [List.nil_append] at hb1
    have hb0 : bys [] = [] := rfl
    simp [e1, e2, e3, e4, e5, limbs, hb1, hb0]
end Go.PV

/- slices.Grow of a nil slice of bytes. -/
open Go Go.PV
namespace Go.PV
set_option maxRecDepth 100000
set_option linter.unusedSimpArgs false

theorem appz_nil (z : R) (hz : z.cells.length = 1) (m : Nat) (hm : m ≤ 2 ^ 40) : appzC [] 1 1 z (.r (.sl 1 .nil [])) (.r (.int .i64 m)) = some (.sl 1 0 0 m, [.rows 1 (List.replicate m z)]) := by
  have hl : (m : Nat) * 1 ≤ limA := by simp only [limA]; omega
  have hl' : (0 + m) * 1 ≤ limA := by simp only [limA]; omega
  simp [appzC, hz, appE, appOk, strideOf, lenV, elsOf, elemsR, appIn, catEls, kill, hl, hl', show m ≤ limA by simp only [limA]; omega]

@[simp] theorem nat_int (k : IntKind) (n : Nat) : natOf (.r (.int k n)) = some n := by simp [natOf]

/-- A slice from its beginning. -/
theorem slsl_to (sz b k n e : Nat) (kk : IntKind) (he : e ≤ n) : slslV sz false true false [.sl sz b k n, .r (.int kk e)] = some (.sl sz b k e) := by
  simp [slslV, bounds, he]

theorem w86 {T : List Ent} (h86 : (T.all fun e => e.f != 86) = true) (m : Nat) (h0 : 0 < m) (hm : m ≤ 2 ^ 40) :
    callW F T 86 [.r (.sl 1 .nil []), .r (.int .i64 m)] [] = some (.sl 1 0 0 0, [.rows 1 (List.replicate m (.int .u8 0))]) := by
  rw [callW_of h86 (A := c86) rfl]
  have e1 : wrapK .i64 (m : Int) = m := w64 (by omega) (by omega)
  have e0 : wrapK .i64 0 = 0 := rfl
  have s1 : slslV 1 false true false [V.r (R.sl 1 SK.nil []), V.r (R.int IntKind.i64 0)] = some (.r (.sl 1 .nil [])) := rfl
  have s2 := slsl_to 1 0 0 m 0 .i64 (Nat.zero_le _)
  have s3 := appz_nil (.int .u8 0) rfl m hm
  simp at s2
  simp [c86, e1, e0, h0, show ¬ ((m : Int) < 0) from by omega, s1, s2, s3]
end Go.PV

/- slices.Concat of three slices of bytes, the first one nil, the second one of the caller's own. -/
open Go Go.PV
namespace Go.PV
set_option maxRecDepth 100000
set_option linter.unusedSimpArgs false

/-- Appending where the block has no room for it, or nothing. -/
theorem app_gen {h : Heap} {sz eb b k n m : Nat} {els ys : List R} {x : V} (hb : h[b]? = some (.rows sz els)) (hkn : k + n ≤ els.length) (hs : strideOf x = some sz) (hl : lenV x = some m) (he : elemsR h x = some ys) (hlim : (n + m) * eb ≤ 2 ^ 46) (hno : m = 0 ∨ els.length < k + n + m) :
    appH h sz eb (.sl sz b k n) x = some (.sl sz h.length 0 (n + m), h.set b .dead ++ [.rows sz ((els.drop k).take n ++ ys)]) := by
  have e1 : elemsR h (.sl sz b k n) = some ((els.drop k).take n) := by
    simp only [elemsR, hb]
    rw [if_pos ⟨trivial, hkn⟩]
  have s1 : strideOf (.sl sz b k n) = some sz := rfl
  have s2 : lenV (.sl sz b k n) = some n := rfl
  have s3 : elsOf h (.sl sz b k n) = some (.rows ((els.drop k).take n)) := by simp only [elsOf, e1]
  have s4 : elsOf h x = some (.rows ys) := by simp only [elsOf, he]
  have e2 : appIn h sz (.sl sz b k n) m (.rows ys) = none := by
    simp only [appIn, hb]
    rw [if_neg (by omega)]
  simp only [appH, hs, hl, s4, if_true, appE, s1, s2, s3, appOk, e2]
  rw [if_pos ⟨trivial, hlim⟩]
  rfl

section
variable {T : List Ent}
def H56 (es xs : List R) (kd : SK) : Heap := [.mix 1 [.r (.sl 1 .nil []), .sl 1 1 0 es.length, .r (.sl 1 kd xs)], .rows 1 es]

theorem l56a_0 (es xs : List R) (kd : SK) : ∃ s1, execS (callW F T) loopW 2 c56_l0 ⟨[(0, .sl 1 0 0 3), (3, .r (.int .i64 0)), (9, .sl 1 0 0 3), (10, .r (.int .i64 3)), (11, .r (.int .i64 0))], H56 es xs kd⟩ = some (.normal, s1) ∧
    canonS 2 [true, false, false, true, false, false, false, false, false, true, true, true] s1 = some ⟨[(0, .sl 1 0 0 3), (3, .r (.int .i64 0)), (9, .sl 1 0 0 3), (10, .r (.int .i64 3)), (11, .r (.int .i64 1))], H56 es xs kd⟩ := by
  simp [c56_l0, H56, loadH, show wrapK .i64 0 = 0 from rfl, show wrapK .i64 1 = 1 from rfl, List.range_succ]

theorem l56a_1 (es xs : List R) (kd : SK) (he : es.length ≤ 2 ^ 40) : ∃ s1, execS (callW F T) loopW 2 c56_l0 ⟨[(0, .sl 1 0 0 3), (3, .r (.int .i64 0)), (9, .sl 1 0 0 3), (10, .r (.int .i64 3)), (11, .r (.int .i64 1))], H56 es xs kd⟩ = some (.normal, s1) ∧
    canonS 2 [true, false, false, true, false, false, false, false, false, true, true, true] s1 = some ⟨[(0, .sl 1 0 0 3), (3, .r (.int .i64 es.length)), (9, .sl 1 0 0 3), (10, .r (.int .i64 3)), (11, .r (.int .i64 2))], H56 es xs kd⟩ := by
  have e1 : wrapK .i64 (es.length : Int) = es.length := w64 (by omega) (by omega)
  simp [c56_l0, H56, loadH, e1, show ¬ ((es.length : Int) < 0) from by omega, show wrapK .i64 2 = 2 from rfl, List.range_succ]

theorem l56a_2 (es xs : List R) (kd : SK) (he : es.length ≤ 2 ^ 40) (hx : xs.length ≤ 2 ^ 40) : ∃ s1, execS (callW F T) loopW 2 c56_l0 ⟨[(0, .sl 1 0 0 3), (3, .r (.int .i64 es.length)), (9, .sl 1 0 0 3), (10, .r (.int .i64 3)), (11, .r (.int .i64 2))], H56 es xs kd⟩ = some (.normal, s1) ∧
    canonS 2 [true, false, false, true, false, false, false, false, false, true, true, true] s1 = some ⟨[(0, .sl 1 0 0 3), (3, .r (.int .i64 ((es.length + xs.length : Nat) : Int))), (9, .sl 1 0 0 3), (10, .r (.int .i64 3)), (11, .r (.int .i64 3))], H56 es xs kd⟩ := by
  have e1 : wrapK .i64 ((es.length : Int) + xs.length) = (es.length : Int) + xs.length := w64 (by omega) (by omega)
  simp [c56_l0, H56, loadH, e1, show ¬ ((es.length : Int) + xs.length < 0) from by omega, show wrapK .i64 3 = 3 from rfl, List.range_succ]

theorem l56b_0 (es xs : List R) (kd : SK) (z : List R) : ∃ s1, execS (callW F T) loopW 2 c56_l1 ⟨[(6, .sl 1 2 0 0), (25, .sl 1 0 0 3), (26, .r (.int .i64 3)), (27, .r (.int .i64 0))], H56 es xs kd ++ [.rows 1 z]⟩ = some (.normal, s1) ∧
    canonS 2 [false, false, false, false, false, false, true, false, false, false, false, false, false, false, false, false, false, false, false, false, false, false, false, false, false, true, true, true] s1 = some ⟨[(6, .sl 1 2 0 0), (25, .sl 1 0 0 3), (26, .r (.int .i64 3)), (27, .r (.int .i64 1))], H56 es xs kd ++ [.rows 1 []]⟩ := by
  have ha := app_gen (h := [.mix 1 [.r (.sl 1 .nil []), .sl 1 1 0 es.length, .r (.sl 1 kd xs)], .rows 1 es, .rows 1 z]) (sz := 1) (eb := 1) (b := 2) (k := 0) (n := 0) (m := 0) (els := z) (ys := []) (x := .r (.sl 1 .nil [])) rfl (by omega) rfl rfl rfl (by omega) (.inl rfl)
  simp at ha
  simp [c56_l1, H56, loadH, ha, show wrapK .i64 1 = 1 from rfl, List.range_succ]

theorem l56b_1 (es xs : List R) (kd : SK) (he : es.length ≤ 2 ^ 40) : ∃ s1, execS (callW F T) loopW 2 c56_l1 ⟨[(6, .sl 1 2 0 0), (25, .sl 1 0 0 3), (26, .r (.int .i64 3)), (27, .r (.int .i64 1))], H56 es xs kd ++ [.rows 1 []]⟩ = some (.normal, s1) ∧
    canonS 2 [false, false, false, false, false, false, true, false, false, false, false, false, false, false, false, false, false, false, false, false, false, false, false, false, false, true, true, true] s1 = some ⟨[(6, .sl 1 2 0 es.length), (25, .sl 1 0 0 3), (26, .r (.int .i64 3)), (27, .r (.int .i64 2))], H56 es xs kd ++ [.rows 1 es]⟩ := by
  have ha := app_gen (h := [.mix 1 [.r (.sl 1 .nil []), .sl 1 1 0 es.length, .r (.sl 1 kd xs)], .rows 1 es, .rows 1 []]) (sz := 1) (eb := 1) (b := 2) (k := 0) (n := 0) (m := es.length) (els := []) (ys := es) (x := .sl 1 1 0 es.length) rfl (by simp) rfl rfl (by simp [elemsR]) (by omega) (by rcases Nat.eq_zero_or_pos es.length with h | h; exact .inl h; exact .inr (by simp; omega))
  simp at ha
  simp [c56_l1, H56, loadH, ha, show wrapK .i64 2 = 2 from rfl, List.range_succ]

theorem l56b_2 (es xs : List R) (kd : SK) (he : es.length ≤ 2 ^ 40) (hx : xs.length ≤ 2 ^ 40) : ∃ s1, execS (callW F T) loopW 2 c56_l1 ⟨[(6, .sl 1 2 0 es.length), (25, .sl 1 0 0 3), (26, .r (.int .i64 3)), (27, .r (.int .i64 2))], H56 es xs kd ++ [.rows 1 es]⟩ = some (.normal, s1) ∧
    canonS 2 [false, false, false, false, false, false, true, false, false, false, false, false, false, false, false, false, false, false, false, false, false, false, false, false, false, true, true, true] s1 = some ⟨[(6, .sl 1 2 0 (es.length + xs.length)), (25, .sl 1 0 0 3), (26, .r (.int .i64 3)), (27, .r (.int .i64 3))], H56 es xs kd ++ [.rows 1 (es ++ xs)]⟩ := by
  have ha := app_gen (h := [.mix 1 [.r (.sl 1 .nil []), .sl 1 1 0 es.length, .r (.sl 1 kd xs)], .rows 1 es, .rows 1 es]) (sz := 1) (eb := 1) (b := 2) (k := 0) (n := es.length) (m := xs.length) (els := es) (ys := xs) (x := .r (.sl 1 kd xs)) rfl (by omega) rfl rfl rfl (by omega) (by rcases Nat.eq_zero_or_pos xs.length with h | h; exact .inl h; exact .inr (by omega))
  simp at ha
  simp [c56_l1, H56, loadH, ha, show wrapK .i64 3 = 3 from rfl, List.range_succ]

theorem d86 (h86 : (T.all fun e => e.f != 86) = true) (m : Nat) (h0 : 0 < m) (hm : m ≤ 2 ^ 40) (h : Heap) : doCallU (callW F T) 86 [.r (.sl 1 .nil []), .r (.int .i64 m)] h = some (.sl 1 h.length 0 0, h ++ [.rows 1 (List.replicate m (.int .u8 0))]) := by
  rw [call_pure (by simp) (by simp) (w86 h86 m h0 hm)]; simp

theorem w56 (h56 : (T.all fun e => e.f != 56) = true) (h86 : (T.all fun e => e.f != 86) = true) (es xs : List R) (kd : SK) (h0 : 0 < es.length) (he : es.length ≤ 2 ^ 39) (hx : xs.length ≤ 2 ^ 39) :
    callW F T 56 [.sl 1 0 0 3] (H56 es xs kd) = some (.sl 1 2 0 (es.length + xs.length), H56 es xs kd ++ [.rows 1 (es ++ xs)]) := by
  rw [callW_of h56 (A := c56) rfl]
  obtain ⟨s1, a1, b1⟩ := l56a_0 (T := T) es xs kd
  obtain ⟨s2, a2, b2⟩ := l56a_1 (T := T) es xs kd (by omega)
  obtain ⟨s3, a3, b3⟩ := l56a_2 (T := T) es xs kd (by omega) (by omega)
  have x1 : ∃ s4, execS (callW F T) loopW 2 c56_l0 ⟨[(0, .sl 1 0 0 3), (3, .r (.int .i64 ((es.length + xs.length : Nat) : Int))), (9, .sl 1 0 0 3), (10, .r (.int .i64 3)), (11, .r (.int .i64 3))], H56 es xs kd⟩ = some (.exit 0, s4) ∧
      s4.h = H56 es xs kd ∧ get s4.fr 3 = .r (.int .i64 ((es.length + xs.length : Nat) : Int)) ∧ get s4.fr 0 = .sl 1 0 0 3 := by simp [c56_l0]
  obtain ⟨s4, a4, g4, f4, f5⟩ := x1
  have k1 : ∀ s, canonS 2 [true, false, false, true, false, false, false, false, false, true, true, true] s = some ⟨[(0, .sl 1 0 0 3), (3, .r (.int .i64 0)), (9, .sl 1 0 0 3), (10, .r (.int .i64 3)), (11, .r (.int .i64 0))], H56 es xs kd⟩ → loopW (execS (callW F T) loopW 2 c56_l0) (canonS 2 [true, false, false, true, false, false, false, false, false, true, true, true]) s = some (.exit 0, s4) := fun s hs => by
    rw [loop_one hs a1, loop_one b1 a2, loop_one b2 a3, loop_end b3 a4 (by simp)]
  obtain ⟨t1, c1, d1⟩ := l56b_0 (T := T) es xs kd (List.replicate (es.length + xs.length) (.int .u8 0))
  obtain ⟨t2, c2, d2⟩ := l56b_1 (T := T) es xs kd (by omega)
  obtain ⟨t3, c3, d3⟩ := l56b_2 (T := T) es xs kd (by omega) (by omega)
  have x2 : ∃ t4, execS (callW F T) loopW 2 c56_l1 ⟨[(6, .sl 1 2 0 (es.length + xs.length)), (25, .sl 1 0 0 3), (26, .r (.int .i64 3)), (27, .r (.int .i64 3))], H56 es xs kd ++ [.rows 1 (es ++ xs)]⟩ = some (.exit 2, t4) ∧
      t4.h = H56 es xs kd ++ [.rows 1 (es ++ xs)] ∧ get t4.fr 6 = .sl 1 2 0 (es.length + xs.length) := by simp [c56_l1]
  obtain ⟨t4, c4, i4, j4⟩ := x2
  have k2 : ∀ s, canonS 2 [false, false, false, false, false, false, true, false, false, false, false, false, false, false, false, false, false, false, false, false, false, false, false, false, false, true, true, true] s = some ⟨[(6, .sl 1 2 0 0), (25, .sl 1 0 0 3), (26, .r (.int .i64 3)), (27, .r (.int .i64 0))], H56 es xs kd ++ [.rows 1 (List.replicate (es.length + xs.length) (.int .u8 0))]⟩ → loopW (execS (callW F T) loopW 2 c56_l1) (canonS 2 [false, false, false, false, false, false, true, false, false, false, false, false, false, false, false, false, false, false, false, false, false, false, false, false, false, true, true, true]) s = some (.exit 2, t4) := fun s hs => by
    rw [loop_one hs c1, loop_one d1 c2, loop_one d2 c3, loop_end d3 c4 (by simp)]
  have hd := d86 h86 (es.length + xs.length) (by omega) (by omega)
  simp only [Int.natCast_add] at hd
  have hl : (H56 es xs kd).length = 2 := rfl
  obtain ⟨fr4, h4⟩ := s4
  obtain ⟨fr5, h5⟩ := t4
  simp only at g4 f4 f5 i4 j4
  subst g4
  subst i4
  simp [c56, hl]
  rw [k1 _ (by simp [H56, List.range_succ])]
  simp [f4, hd, hl, f5]
  rw [k2 _ (by simp [H56, List.range_succ])]
  simp [j4, H56, List.range_succ]
end
end Go.PV

/- A byte string with its length ahead of it: wire.AppendBytes. -/
open Go Go.PV
namespace Go.PV
set_option maxRecDepth 100000
set_option linter.unusedSimpArgs false

/-- The encoding of a byte string. -/
def encB (x : List UInt8) : List UInt8 := encN x.length ++ x

theorem w58 {T : List Ent} (hT : (T.all fun e => e.f != 58) = true) (n : Int) : callW F T 58 [.r (.int .u64 n)] [] = some (.r (.agg [.int .u64 n, .int .u64 0, .int .u64 0, .int .u64 0]), []) := by
  rw [callW_of hT (A := c58) rfl]
  kernel_rfl
theorem d58 {T : List Ent} (hT : (T.all fun e => e.f != 58) = true) (n : Int) (h : Heap) : doCallU (callW F T) 58 [.r (.int .u64 n)] h = some (.r (.agg [.int .u64 n, .int .u64 0, .int .u64 0, .int .u64 0]), h) := by
  rw [call_pure (by simp) (by simp) (w58 hT n)]; simp

/-- The functions that T says nothing of. -/
def offT (T : List Ent) (fs : List Nat) : Bool := fs.all fun f => T.all fun e => e.f != f
theorem offT_mem {T : List Ent} {fs : List Nat} (h : offT T fs = true) {f : Nat} (hf : f ∈ fs) : (T.all fun e => e.f != f) = true := List.all_eq_true.1 h f hf

theorem encN_len (n : Nat) : (encN n).length = nb n + 1 := by simp [encN, beB_len]
theorem nb_le {n k : Nat} (h : n < 2 ^ (8 * k)) : nb n ≤ k := by
  have := bitLen_bound h
  simp only [nb]; omega

theorem w30 {T : List Ent} (hT : offT T [30, 56, 57, 58, 86, 87, 127] = true) (x : List UInt8) (kd : SK) (hx : x.length ≤ 2 ^ 38) :
    callW F T 30 [.r (.sl 1 .nil []), .r (.sl 1 kd (bys x))] [] = some (.sl 1 0 0 (encB x).length, [.rows 1 (bys (encB x))]) := by
  rw [callW_of (offT_mem hT (by simp)) (A := c30) rfl]
  have e1 : wrapK .u64 (x.length : Int) = x.length := by simp only [wrapK]; omega
  have h57 := w57 (T := T) (offT_mem hT (by simp)) (offT_mem hT (by simp)) (offT_mem hT (by simp)) x.length 0 0 0 (by omega) (by omega) (by omega) (by omega)
  have hv : val4 x.length 0 0 0 = x.length := by simp [val4]
  rw [hv] at h57
  have d57 : ∀ h, doCallU (callW F T) 57 [.r (.agg [.int .u64 (x.length : Int), .int .u64 0, .int .u64 0, .int .u64 0])] h = some (.sl 1 h.length 0 (encN x.length).length, h ++ [.rows 1 (bys (encN x.length))]) := fun h => by
    have h57 : callW F T 57 [.r (.agg [.int .u64 (x.length : Int), .int .u64 0, .int .u64 0, .int .u64 0])] [] = some (.sl 1 0 0 (encN x.length).length, [.rows 1 (bys (encN x.length))]) := h57
    rw [call_pure (by simp) (by simp) h57]; simp
  have hnb : nb x.length ≤ 8 := nb_le (by omega)
  have hel := encN_len x.length
  have h56 := w56 (T := T) (offT_mem hT (by simp)) (offT_mem hT (by simp)) (bys (encN x.length)) (bys x) kd (by simp [bys_len]; omega) (by simp [bys_len]; omega) (by simp [bys_len]; omega)
  have e58 := d58 (T := T) (offT_mem hT (by simp))
  simp only [H56, bys_len] at h56
  simp [c30, bys_len, e1, e58, d57, bslN, doCallU_eq2, h56]
  simp [encB, bys_append]
end Go.PV

/- The encoding of a list of byte strings: script.Encode. -/
open Go Go.PV
namespace Go.PV
set_option maxRecDepth 100000
set_option linter.unusedSimpArgs false

def lst (l : List (List UInt8)) : List R := l.map fun x => .sl 1 .any (bys x)
def encL (l : List (List UInt8)) : List UInt8 := l.flatMap encB

theorem lst_get {l : List (List UInt8)} {j : Nat} {x : List UInt8} (h : l[j]? = some x) : (lst l)[j]? = some (.sl 1 .any (bys x)) := by simp [lst, h]
theorem lst_len (l : List (List UInt8)) : (lst l).length = l.length := by simp [lst]
theorem encL_take {l : List (List UInt8)} {j : Nat} {x : List UInt8} (h : l[j]? = some x) : encL (l.take (j + 1)) = encL (l.take j) ++ encB x := by
  simp [encL, List.take_add_one, h]
theorem encL_take_len (l : List (List UInt8)) (j : Nat) : (encL (l.take j)).length ≤ (encL l).length := by
  have : encL l = encL (l.take j) ++ encL (l.drop j) := by
    rw [encL, encL, encL, ← List.flatMap_append, List.take_append_drop]
  rw [this, List.length_append]; omega

theorem l13 {T : List Ent} (hT : offT T [30, 56, 57, 58, 86, 87, 127] = true) (kd : SK) (l : List (List UInt8)) (j : Nat) (x : List UInt8) (hx : l[j]? = some x) (out : List UInt8) (hj : j < 2 ^ 40) (hl : x.length ≤ 2 ^ 38) (ho : out.length ≤ 2 ^ 40) :
    ∃ s1, execS (callW F T) loopW 0 c13_l0 ⟨[(3, .sl 1 0 0 out.length), (6, .r (.sl 1 kd (lst l))), (7, .r (.int .i64 l.length)), (8, .r (.int .i64 j))], [.rows 1 (bys out)]⟩ = some (.normal, s1) ∧
      canonS 0 [false, false, false, true, false, false, true, true, true] s1 = some ⟨[(3, .sl 1 0 0 (out ++ encB x).length), (6, .r (.sl 1 kd (lst l))), (7, .r (.int .i64 l.length)), (8, .r (.int .i64 ((j : Int) + 1)))], [.rows 1 (bys (out ++ encB x))]⟩ := by
  have hjl : j < l.length := (List.getElem?_eq_some_iff.1 hx).1
  have e1 : wrapK .i64 ((j : Int) + 1) = (j : Int) + 1 := w64 (by omega) (by omega)
  have e2 := ixs_r (sz := 1) (kd := kd) (kk := .i64) (i := (j : Int)) (Int.natCast_nonneg j) (by simpa using lst_get hx)
  have d30 : ∀ h, doCallU (callW F T) 30 [.r (.sl 1 .nil []), .r (.sl 1 .any (bys x))] h = some (.sl 1 h.length 0 (encB x).length, h ++ [.rows 1 (bys (encB x))]) := fun h => by
    rw [call_pure (by simp) (by simp) (w30 hT x .any hl)]; simp
  have hel : (encB x).length ≤ 2 ^ 39 := by
    have := encN_len x.length
    have : nb x.length ≤ 8 := nb_le (by omega)
    simp [encB]; omega
  have ha := app_end (h := [.rows 1 (bys out), .rows 1 (bys (encB x))]) (sz := 1) (eb := 1) (b := 0) (k := 0) (n := out.length) (m := (encB x).length) (els := bys out) (ys := bys (encB x)) (x := .sl 1 1 0 (encB x).length) rfl (by simp [bys_len]) rfl rfl (bys_len _) (elems_whole rfl (bys_len _)) (by omega)
  simp at ha e2
  simp [c13_l0, hjl, e1, e2, d30, ha, bys_append]

theorem w13 {T : List Ent} (hT : offT T [30, 56, 57, 58, 86, 87, 127] = true) (h13 : (T.all fun e => e.f != 13) = true) (kd : SK) (l : List (List UInt8)) (hl : l.length < 2 ^ 38) (hb : (encL l).length ≤ 2 ^ 38) :
    callW F T 13 [.r (.sl 1 kd (lst l))] [] = some (.sl 1 0 0 (encL l).length, [.rows 1 (bys (encL l))]) := by
  rw [callW_of h13 (A := c13) rfl]
  have hex : ∃ s', execS (callW F T) loopW 0 c13_l0 ⟨[(3, .sl 1 0 0 (encL l).length), (6, .r (.sl 1 kd (lst l))), (7, .r (.int .i64 l.length)), (8, .r (.int .i64 l.length))], [.rows 1 (bys (encL l))]⟩ = some (.exit 0, s') ∧
      s'.h = [.rows 1 (bys (encL l))] ∧ get s'.fr 3 = .sl 1 0 0 (encL l).length := by simp [c13_l0]
  obtain ⟨⟨fr', h'⟩, hx, hxh, hx3⟩ := hex
  simp only at hxh hx3
  subst hxh
  have key := loop_rounds (d := execS (callW F T) loopW 0 c13_l0) (hd := canonS 0 [false, false, false, true, false, false, true, true, true])
    (fun j => ⟨[(3, .sl 1 0 0 (encL (l.take j)).length), (6, .r (.sl 1 kd (lst l))), (7, .r (.int .i64 l.length)), (8, .r (.int .i64 j))], [.rows 1 (bys (encL (l.take j)))]⟩) l.length _ (.exit 0)
    (fun j hj => by
      obtain ⟨x, hx⟩ : ∃ x, l[j]? = some x := ⟨_, List.getElem?_eq_getElem hj⟩
      have h1 := encL_take_len l j
      have h2 : x.length ≤ 2 ^ 38 := by
        have h3 := encL_take_len l (j + 1)
        rw [encL_take hx] at h3
        simp [encB] at h3; omega
      have := l13 hT kd l j x hx (encL (l.take j)) (by omega) h2 (by omega)
      rw [← encL_take hx] at this
      simpa using this)
    (by simp only [List.take_length]; exact hx) (by simp)
  simp [c13, lst_len]
  rw [key]
  · simp [hx3]
  · simp [encL, bys]
end Go.PV
