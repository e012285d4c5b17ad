/-
  The walks of package octet.
-/
import Derived.Test.YthfbfdkjgkkpcaaOps
import Derived.Test.YthfbfdkjgkkpcaaPure
import Derived.LoopTactic
namespace Go.Proofs.Ythfbfdkjgkkpcaa
open Go Go.RowKit

theorem elU8 : Elem Try.prog 41 5 1 1 := ⟨by kernel_rfl, by omega, by
  obtain ⟨i, h1, h2, h3, h4⟩ := info_parts (P := Try.prog) (e := 5) (z := .int .u8 0) (size := 1) (bytes := 1) (by kernel_rfl)
  exact ⟨i, _, h1, h2, h3, h4, rfl⟩⟩

/-- Bytes in memory of the call's own come back. -/
def RetBy (w : World) (l : List UInt8) (e : Ending) (w' : World) : Prop := ∃ v, e = .returned v ∧ OwnBy w' w.heap.size v l ∧ Upd [] w w'
def CountRel (n : Nat) (w : World) (x v : Value) (wr : World) : Prop :=
  ∃ (m : Nat) (pre : List UInt8), x = .int .u64 m ∧ U64 m ∧ countB n = pre ++ countB m ∧ OwnBy wr w.heap.size v pre ∧ Upd [] w wr

theorem enc_of (n : Nat) (h : n < 256) : enc (UInt8.ofNat n) = .int .u8 (n : Int) := by
  unfold enc
  rw [UInt8.toNat_ofNat', Nat.mod_eq_of_lt (by omega)]
theorem or128 : ∀ y : Nat, y < 256 → bits .or .u8 (y : Int) 128 = ((128 + y % 128 : Nat) : Int) := by decide +kernel
theorem or128' (m : Nat) : bits .or .u8 ((m : Int) % 256) 128 = ((128 + m % 128 : Nat) : Int) := by
  have h := or128 (m % 256) (Nat.mod_lt _ (by omega))
  rw [show (((m % 256 : Nat)) : Int) = (m : Int) % 256 from by omega] at h
  rw [h]
  congr 2
  omega

theorem octet_Count (n : Nat) (hn : U64 n) (w : World) : Calls Try.prog 39 #[.int .u64 n] w (RetBy w (countB n)) := by
  go_enter Try.func39, Try.ntmps39
  go_wp2_with fail
  go_loopw [0, 3] (fun x v wr => CountRel n w x v wr) (fun x _ _ => (intOf x).toNat)
  case atStart => exact ⟨n, [], rfl, hn, rfl, World.ownsRow_nil _ _ _ _, Upd.refl _ _⟩
  case round =>
    obtain ⟨m, pre, rfl, hm, hc, hown, hU⟩ := hrel
    have hl : pre.length ≤ 10 := by
      have := countB_len10 hn
      rw [hc, List.length_append] at this
      omega
    have Hc := Lib.hid hc; clear hc
    by_cases h128 : 128 ≤ m
    · have h1 : (128 : Int) ≤ (m : Int) := by omega
      have hb := or128' m
      have Hb := Lib.hid hb; clear hb
      go_wp2_with (first
        | ((with_reducible show wpList _ _ _ (⟨_, .buildSlice _ _ _, _, _, _, _⟩ :: _) _ _); refine wpl_lit_byte (UInt8.ofNat (128 + m % 128)) elU8 rfl rfl ?_ ?_; rotate_right; intro v1 w1 hv1 hU1 hb1)
        | ((with_reducible show wpList _ _ _ (⟨_, .call ⟨.builtin .append, _, _⟩, _, _, _, _⟩ :: _) _ _); refine wpl_append_by elU8 rfl rfl (hU.trans0 hU1) (Own.upd0 hown hU1) rfl hv1.by rfl ?_ ?_; rotate_right; intro v2 w2 hv2 _ hU2 hb2))
      case roundEnd =>
        refine ⟨⟨m / 128, pre ++ [UInt8.ofNat (128 + m % 128)], ?_, ⟨?_⟩, ?_, hv2, hU2⟩, ?_⟩
        · go_num
        · have := hm.lt; omega
        · rw [Hc.out, countB_ge (by omega), List.append_assoc]; rfl
        · simp [intOf]; omega
      · simp; omega
      · rw [enc_of _ (by omega), ← Hb.out]; rfl
    · have h1 : (m : Int) < 128 := by omega
      have h2 : decide ((128 : Int) ≤ (m : Int)) = false := by simpa using h1
      clear h128
      go_wp2_with (first
        | ((with_reducible show wpList _ _ _ (⟨_, .buildSlice _ _ _, _, _, _, _⟩ :: _) _ _); refine wpl_lit_byte (UInt8.ofNat m) elU8 rfl rfl ?_ ?_; rotate_right; intro v1 w1 hv1 hU1 hb1)
        | ((with_reducible show wpList _ _ _ (⟨_, .call ⟨.builtin .append, _, _⟩, _, _, _, _⟩ :: _) _ _); refine wpl_append_by elU8 rfl rfl (hU.trans0 hU1) (Own.upd0 hown hU1) rfl hv1.by rfl ?_ ?_; rotate_right; intro v2 w2 hv2 _ hU2 hb2))
      · go_ret
        exact ⟨v2, rfl, by rw [Hc.out, countB_lt (by omega)]; exact hv2, hU2⟩
      · simp; omega
      · rw [enc_of _ (by omega)]; rfl

theorem octet_Text (p : Value) (l : List UInt8) (w : World) (hp : By w p l) (hl : l.length ≤ 1073741000) :
    Calls Try.prog 40 #[p] w (RetBy w (textB l)) := by
  obtain ⟨ao, cap, rfl⟩ := hp.val
  have hU : U64 l.length := ⟨by omega⟩
  go_enter Try.func40, Try.ntmps40
  go_wp2_with (first
    | (go_at_call 39; refine (octet_Count _ hU _).mono ?_; rintro e w1 ⟨v1, rfl, hv1, hU1⟩)
    | ((with_reducible show wpList _ _ _ (⟨_, .call ⟨.builtin .append, _, _⟩, _, _, _, _⟩ :: _) _ _); refine wpl_append_by elU8 rfl rfl hU1 hv1 rfl (hp.upd0 hU1) rfl ?_ ?_; rotate_right; intro v2 w2 hv2 _ hU2 hb2))
  · go_ret
    exact ⟨v2, rfl, hv2, hU2⟩
  · have := countB_len10 hU; omega
theorem zeroU8 : ∀ i, Try.prog.info? 5 = some i → i.zero = some (.int .u8 0) := by
  intro i hi
  obtain ⟨j, h1, h2, _⟩ := info_parts (P := Try.prog) (e := 5) (z := .int .u8 0) (size := 1) (bytes := 1) (by kernel_rfl)
  rw [hi] at h1
  cases h1
  exact h2

def PutRel (n size : Nat) (v : Value) (w : World) (i : Value) (wr : World) : Prop :=
  ∃ k : Nat, k ≤ size ∧ i = .int .i64 k ∧ OwnBy wr w.heap.size v (List.replicate (size - k) 0 ++ putB n k) ∧ Upd [] w wr

theorem put_byte (n k : Nat) : Value.int .u8 ((n : Int) / 2 ^ (8 * k) % 256) = enc (UInt8.ofNat (n / 256 ^ k % 256)) := by
  rw [enc_of _ (Nat.mod_lt _ (by omega))]
  have h : (256 : Nat) ^ k = 2 ^ (8 * k) := by rw [Nat.pow_mul]
  have e : ((n / 256 ^ k % 256 : Nat) : Int) = (n : Int) / 2 ^ (8 * k) % 256 := by
    rw [h, Int.natCast_emod, Int.natCast_ediv, Int.natCast_pow]
    rfl
  rw [e]

theorem octet_Put (n size : Nat) (hn : U64 n) (hs : size ≤ 8) (w : World) :
    Calls Try.prog 71 #[.int .u64 n, .int .i64 size] w (RetBy w (putB n size)) := by
  have t1 : decide ((size : Int) < 0) = false := by simp
  have t2 : decide ((8 : Int) < (size : Int)) = false := by simp; omega
  go_enter Try.func71, Try.ntmps71
  go_wp2_with ((with_reducible show wpList _ _ _ (⟨_, .makeSlice _ _ _, _, _, _, _⟩ :: _) _ _); refine wpl_make_by elU8 zeroU8 rfl rfl rfl rfl (by omega) ?_; intro v1 w1 hv1 hU1)
  go_loopw [6, 16] (fun _ i wr => PutRel n size v1 w i wr) (fun _ i _ => size - (intOf i).toNat)
  case atStart => exact ⟨0, by omega, rfl, by simpa [putB] using hv1, hU1⟩
  case round =>
    obtain ⟨k, hk, rfl, hown, hU⟩ := hrel
    have hl : (List.replicate (size - k) (0 : UInt8) ++ putB n k).length = size := by simp [putB_length]; omega
    have Hl := Lib.hid hl; clear hl
    by_cases hlt : k < size
    · have h1 : (k : Int) < (size : Int) := by omega
      go_wp2_with ((with_reducible show wpList _ _ _ (⟨_, .indexAddr _ _ _, _, _, _, _⟩ :: _) _ _); refine wpl_indexAddr_own elU8 rfl rfl hown rfl rfl ?_ ?_ ?_; rotate_right; intro ad hc hf hst)
      case roundEnd =>
        refine ⟨⟨k + 1, by omega, by go_num, ?_⟩, by simp [intOf]; omega⟩
        rw [put_byte]
        have h2 := hst (UInt8.ofNat (n / 256 ^ k % 256))
        rw [show ((size : Int) - 1 - (k : Int)).toNat = size - 1 - k from by omega, putB_step n size k hlt _ rfl] at h2
        exact ⟨h2.1, hU.own hown h2.2⟩
      · omega
      · rw [Hl.out]; omega
    · obtain rfl : k = size := by omega
      have h2 : decide ((k : Int) < (k : Int)) = false := by simp
      go_wp2_with fail
      go_ret
      exact ⟨v1, rfl, by simpa using hown, hU⟩
theorem crc_xor {c : Nat} (h : U32 c) (b : UInt8) : bits .xor .u32 (c : Int) ((b.toNat : Int) % 4294967296) = ((c ^^^ b.toNat : Nat) : Int) := by
  have := b.toNat_lt
  rw [show ((b.toNat : Int) % 4294967296) = ((b.toNat : Nat) : Int) from by omega]
  exact u32_xor_nat _ _ h.lt (by omega)
theorem crc_bit {c : Nat} (h : U32 c) : bits .xor .u32 ((c : Int) / 2) (bits .and .u32 3988292384 (-bits .and .u32 (c : Int) 1 % 4294967296)) = ((crcBit c : Nat) : Int) := by
  have hl := h.lt
  have e1 : bits .and .u32 (c : Int) 1 = ((c % 2 : Nat) : Int) := by
    have := u32_and_nat c 1 hl (by omega)
    rw [Nat.and_one_is_mod] at this
    exact this
  rw [e1, show ((c : Int) / 2) = ((c / 2 : Nat) : Int) from by omega]
  unfold crcBit
  rcases Nat.mod_two_eq_zero_or_one c with h0 | h0
  · rw [h0, if_neg (by omega)]
    have e2 : bits .and .u32 3988292384 (-((0 : Nat) : Int) % 4294967296) = ((0 : Nat) : Int) := by decide +kernel
    rw [e2, u32_xor_nat _ _ (by omega) (by omega)]
    simp
  · rw [h0, if_pos rfl]
    have e2 : bits .and .u32 3988292384 (-((1 : Nat) : Int) % 4294967296) = ((3988292384 : Nat) : Int) := by decide +kernel
    rw [e2, u32_xor_nat _ _ (by omega) (by omega)]
theorem crc_not {c : Nat} (h : U32 c) : bits .xor .u32 IntKind.u32.max (c : Int) = ((4294967295 - c : Nat) : Int) := by
  have e : IntKind.u32.max = ((4294967295 : Nat) : Int) := by decide +kernel
  have hl := h.lt
  rw [e, u32_xor_nat _ _ (by omega) hl]
  have h1 := congrArg BitVec.toNat (BitVec.allOnes_xor (x := BitVec.ofNat 32 c))
  rw [BitVec.toNat_xor, BitVec.toNat_allOnes, BitVec.toNat_not, BitVec.toNat_ofNat, Nat.mod_eq_of_lt (by omega)] at h1
  rw [show (4294967295 : Nat) = 2 ^ 32 - 1 from by decide, h1]

def CrcIn (c0 : Nat) (c i : Value) : Prop := ∃ k : Nat, k ≤ 8 ∧ i = .int .i64 k ∧ c = .int .u32 (crcBits c0 k : Nat)
def CrcOut (l : List UInt8) (c i : Value) : Prop := ∃ k : Nat, k ≤ l.length ∧ i = .int .i64 k ∧ c = .int .u32 (crcC (l.take k) : Nat)

theorem octet_Crc (p : Value) (l : List UInt8) (w : World) (hp : By w p l) :
    Calls Try.prog 70 #[p] w fun e w' => e = .returned (.int .u32 (crcB l : Nat)) ∧ w = w' := by
  obtain ⟨ao, cap, rfl⟩ := hp.val
  have hlen : l.length ≤ maxLen := hp.2.1
  have hlen : l.length ≤ 9223372036854775807 := hlen
  go_enter Try.func70, Try.ntmps70
  go_wp2_with fail
  go_loop [3, 8] (fun c i => CrcOut l c i) (fun _ i => l.length - (intOf i).toNat)
  case atStart => exact ⟨0, by omega, rfl, rfl⟩
  case round =>
    obtain ⟨k, hk, rfl, rfl⟩ := hrel
    have hc32 := crcC_lt (l.take k)
    by_cases hlt : k < l.length
    · have h1 : (k : Int) < (l.length : Int) := by omega
      have hsnoc : l.take (k + 1) = l.take k ++ [l[k]] := List.take_succ_eq_append_getElem hlt
      have Hs := Lib.hid hsnoc; clear hsnoc
      go_wp2_with ((with_reducible show wpList _ _ _ (⟨_, .indexAddr _ _ _, _, _, _, _⟩ :: _) _ _); refine wpl_indexAddr1 elU8 rfl rfl hp (by rfl) (by rfl) ?_ ?_ (enc l[k]) ?_ ?_; rotate_right; intro ad hc)
      · go_loop [3, 16] (fun c i => CrcIn (crcC (l.take k) ^^^ l[k].toNat) c i) (fun _ i => 8 - (intOf i).toNat)
        case atStart => exact ⟨0, by omega, rfl, by rw [crc_xor hc32]; rfl⟩
        case round =>
          obtain ⟨j, hj, rfl, rfl⟩ := hrel
          have hb32 := crcBits_lt (crcXor_lt hc32 l[k]) j
          obtain ⟨c, hcd⟩ : ∃ c, c = crcBits (crcC (l.take k) ^^^ l[k].toNat) j := ⟨_, rfl⟩
          rw [← hcd] at hb32 ⊢
          have Hcd := Lib.hid hcd; clear hcd
          by_cases hj8 : j < 8
          · have h8 : (j : Int) < 8 := by omega
            go_wp2_with fail
            refine ⟨⟨j + 1, by omega, by go_num, ?_⟩, by simp [intOf]; omega⟩
            rw [crc_bit hb32, Hcd.out]
            rfl
          · obtain rfl : j = 8 := by omega
            go_wp2_with fail
            refine ⟨⟨k + 1, by omega, by go_num, ?_⟩, by simp [intOf]; omega⟩
            rw [Hs.out, crcC_snoc, Hcd.out]
            rfl
    · obtain rfl : k = l.length := by omega
      go_wp2_with fail
      go_ret
      rw [List.take_length] at hc32
      refine ⟨?_, rfl⟩
      unfold crcB
      rw [← crc_not hc32]
      rfl
end Go.Proofs.Ythfbfdkjgkkpcaa
