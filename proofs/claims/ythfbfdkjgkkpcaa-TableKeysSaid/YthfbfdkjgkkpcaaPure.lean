/-
  The plain functions of the layers octet, journal, table, disk: what the Go texts compute, over lists of bytes. No Go in sight.
-/
import Derived.KernelRfl
namespace Go.Proofs.Ythfbfdkjgkkpcaa

/-- The number is one of 64 bits. (A structure, so that no tactic meets the numeral.) -/
structure U64 (n : Nat) : Prop where
  lt : n < 18446744073709551616
/-- A number in as few bytes as may be. -/
def countB (n : Nat) : List UInt8 := if n < 128 then [UInt8.ofNat n] else UInt8.ofNat (128 + n % 128) :: countB (n / 128)
termination_by n
decreasing_by omega
theorem countB_lt {n : Nat} (h : n < 128) : countB n = [UInt8.ofNat n] := by rw [countB, if_pos h]
theorem countB_ge {n : Nat} (h : ¬ n < 128) : countB n = UInt8.ofNat (128 + n % 128) :: countB (n / 128) := by rw [countB, if_neg h]
theorem countB_pos (n : Nat) : 0 < (countB n).length := by rw [countB]; split <;> simp
theorem countB_len (k : Nat) : ∀ n, n < 128 ^ (k + 1) → (countB n).length ≤ k + 1 := by
  induction k with
  | zero => intro n h; rw [countB_lt (by simpa using h)]; simp
  | succ k ih =>
    intro n h
    by_cases h1 : n < 128
    · rw [countB_lt h1]; simp
    · rw [countB_ge h1, List.length_cons]
      have : n / 128 < 128 ^ (k + 1) := by
        rw [Nat.div_lt_iff_lt_mul (by omega)]
        rw [Nat.pow_succ] at h
        exact h
      have := ih _ this
      omega
theorem countB_len10 {n : Nat} (h : U64 n) : (countB n).length ≤ 10 := countB_len 9 n (by have := h.lt; omega)
/-- Bytes with their count ahead. -/
def textB (p : List UInt8) : List UInt8 := countB p.length ++ p

/-- The lowest k bytes of a number, the highest first. -/
def putB (n : Nat) : Nat → List UInt8
  | 0 => []
  | k + 1 => UInt8.ofNat (n / 256 ^ k % 256) :: putB n k
theorem putB_length (n k : Nat) : (putB n k).length = k := by
  induction k with
  | zero => rfl
  | succ k ih => simp [putB, ih]
theorem putB_step (n size i : Nat) (h : i < size) (b : UInt8) (hb : b = UInt8.ofNat (n / 256 ^ i % 256)) :
    (List.replicate (size - i) 0 ++ putB n i).set (size - 1 - i) b = List.replicate (size - (i + 1)) 0 ++ putB n (i + 1) := by
  obtain ⟨m, rfl⟩ : ∃ m, size = m + i + 1 := ⟨size - i - 1, by omega⟩
  rw [show m + i + 1 - i = m + 1 from by omega, show m + i + 1 - 1 - i = m from by omega, show m + i + 1 - (i + 1) = m from by omega]
  rw [List.replicate_succ', List.append_assoc, List.set_append_right _ _ (by simp)]
  simp [putB, hb]

/-- The number is one of 32 bits. -/
structure U32 (n : Nat) : Prop where
  lt : n < 4294967296
/-- One bit of the sum. -/
def crcBit (c : Nat) : Nat := if c % 2 = 1 then (c / 2) ^^^ 3988292384 else c / 2
def crcBits (c : Nat) : Nat → Nat
  | 0 => c
  | k + 1 => crcBit (crcBits c k)
def crcByte (c : Nat) (b : UInt8) : Nat := crcBits (c ^^^ b.toNat) 8
def crcFrom (c : Nat) (p : List UInt8) : Nat := p.foldl crcByte c
/-- The sum on the way. -/
def crcC (p : List UInt8) : Nat := crcFrom 4294967295 p
/-- The sum of bytes. -/
def crcB (p : List UInt8) : Nat := 4294967295 - crcC p
theorem crcBit_lt {c : Nat} (h : U32 c) : U32 (crcBit c) := by
  have := h.lt
  refine ⟨?_⟩
  unfold crcBit
  split
  · exact Nat.xor_lt_two_pow (n := 32) (by omega) (by omega)
  · omega
theorem crcBits_lt {c : Nat} (h : U32 c) (k : Nat) : U32 (crcBits c k) := by
  induction k with
  | zero => exact h
  | succ k ih => exact crcBit_lt ih
theorem crcXor_lt {c : Nat} (h : U32 c) (b : UInt8) : U32 (c ^^^ b.toNat) := by
  have := h.lt
  have := b.toNat_lt
  exact ⟨Nat.xor_lt_two_pow (n := 32) (by omega) (by omega)⟩
theorem crcByte_lt {c : Nat} (h : U32 c) (b : UInt8) : U32 (crcByte c b) := crcBits_lt (crcXor_lt h b) 8
theorem crcFrom_lt (p : List UInt8) : ∀ {c : Nat}, U32 c → U32 (crcFrom c p) := by
  induction p with
  | nil => intro c h; exact h
  | cons b p ih => intro c h; exact ih (crcByte_lt h b)
theorem crcFrom_snoc (c : Nat) (p : List UInt8) (b : UInt8) : crcFrom c (p ++ [b]) = crcByte (crcFrom c p) b := by
  simp [crcFrom]
theorem crcC_nil : crcC [] = 4294967295 := rfl
theorem crcC_snoc (p : List UInt8) (b : UInt8) : crcC (p ++ [b]) = crcByte (crcC p) b := crcFrom_snoc _ _ _
theorem crcC_lt (p : List UInt8) : U32 (crcC p) := crcFrom_lt p ⟨by omega⟩
theorem crcB_lt (p : List UInt8) : U32 (crcB p) := ⟨by unfold crcB; omega⟩

end Go.Proofs.Ythfbfdkjgkkpcaa
