/-
  The walks of the document's small words: Twin, Same, Begins, Find.
-/
import Derived.Test.YthfbfdkjgkkpcaaPrs
namespace Go.Proofs.Ythfbfdkjgkkpcaa
open Go Go.RowKit

def TwinRel (w : World) (l : List UInt8) (x v : Value) (wr : World) : Prop := ∃ i : Nat, x = .int .i64 i ∧ i ≤ l.length ∧ OwnBy wr w.heap.size v (l.take i) ∧ Upd [] w wr
theorem ref_Twin (w : World) (p : Value) (l : List UInt8) (hp : ByX w p l) (hl : l.length ≤ 1000000000) :
    Calls Try.prog 33 #[p] w (RetBy w l) := by
  obtain ⟨ao, cap, rfl, _⟩ := hp.shape
  have HL := Lib.hid hl; clear hl
  go_enter Try.func33, Try.ntmps33
  go_wp2_with fail
  go_loopw [4, 3] (fun x v wr => TwinRel w l x v wr) (fun x _ _ => l.length - (intOf x).toNat)
  case atStart => exact ⟨0, rfl, Nat.zero_le _, World.ownsRow_nil _ _ _ _, Upd.refl _ _⟩
  case round =>
    obtain ⟨i, rfl, hi, hown, hU⟩ := hrel
    have hll := HL.out
    by_cases hlt : i < l.length
    · have htt : decide ((i : Int) < (l.length : Int)) = true := by simp; omega
      obtain ⟨b, hb⟩ : ∃ b, l[i]? = some b := ⟨_, List.getElem?_eq_getElem hlt⟩
      have hR : ByX wr (.slice ao l.length cap) l := hp.upd0 hU
      have hu : (l.map enc)[(i : Int).toNat]? = some (enc b) := by simp [hb]
      have htk : l.take (i + 1) = l.take i ++ [b] := by rw [List.take_add_one, hb]; rfl
      have HTK := Lib.hid htk
      clear htk
      go_wp2_with (first
        | ((with_reducible show wpList _ _ _ (⟨_, .indexAddr _ _ _, _, _, _, _⟩ :: _) _ _); refine wpl_indexAddr1X elU8 rfl rfl hR rfl rfl (by omega) (by omega) _ hu ?_; intro ad hcell)
        | ((with_reducible show wpList _ _ _ (⟨_, .buildSlice _ _ _, _, _, _, _⟩ :: _) _ _); refine wpl_lit_byte b elU8 rfl rfl rfl ?_; intro v1 w1 hv1 hU1 hb1)
        | ((with_reducible show wpList _ _ _ (⟨_, .call ⟨.builtin .append, _, _⟩, _, _, _, _⟩ :: _) _ _); refine wpl_append_by elU8 rfl rfl (hU.trans0 hU1) (Own.upd0 hown hU1) rfl hv1.by rfl (by have := HL.out; simp; omega) ?_; intro v2 w2 hv2 _ hU2 hb2))
      exact ⟨⟨i + 1, by simp, hlt, by rw [HTK.out]; exact hv2, hU2⟩, by simp [intOf]; omega⟩
    · have htt : decide ((i : Int) < (l.length : Int)) = false := by simp; omega
      have hie : i = l.length := by omega
      subst hie
      rw [List.take_length] at hown
      go_wp2_with fail
      go_ret
      exact ⟨_, rfl, hown, hU⟩

def SameRel (n : Nat) (a b : List UInt8) (w : World) (x : Value) (wr : World) : Prop := ∃ i : Nat, x = .int .i64 i ∧ i ≤ n ∧ Upd [] w wr ∧ a.take i = b.take i
theorem enc_ne (x y : UInt8) : ((x.toNat : Int) != (y.toNat : Int)) = decide (x ≠ y) := by
  rw [Bool.eq_iff_iff, bne_iff_ne, decide_eq_true_iff, ne_eq, ne_eq]
  constructor
  · intro h e; exact h (by rw [e])
  · intro h e; exact h (UInt8.toNat_inj.1 (by omega))
theorem ref_Same (w : World) (p q : Value) (a b : List UInt8) (hp : ByX w p a) (hq : ByX w q b) (hl : a.length ≤ 1000000000) :
    Calls Try.prog 17 #[p, q] w fun e w' => e = .returned (.bool (decide (a = b))) ∧ Upd [] w w' := by
  obtain ⟨ao, cap, rfl, _⟩ := hp.shape
  obtain ⟨bo, cap2, rfl, _⟩ := hq.shape
  by_cases hlen : a.length = b.length
  · go_enter Try.func17, Try.ntmps17
    have h1 : ((a.length : Int) != (b.length : Int)) = false := by simp [hlen]
    have HL := Lib.hid hl
    have HLE := Lib.hid hlen
    clear hlen hl
    go_wp2_with fail
    go_loopw [5] (fun x wr => SameRel a.length a b w x wr) (fun x _ => a.length - (intOf x).toNat)
    case atStart => exact ⟨0, rfl, Nat.zero_le _, Upd.refl _ _, by simp⟩
    case round =>
      obtain ⟨i, rfl, hi, hU, htk⟩ := hrel
      have hp := hp.upd0 hU
      have hq := hq.upd0 hU
      have hlen := HLE.out
      have hll := HL.out
      by_cases hlt : i < a.length
      · have htt : decide ((i : Int) < (a.length : Int)) = true := by simp; omega
        obtain ⟨x, hx⟩ : ∃ x, a[i]? = some x := ⟨_, List.getElem?_eq_getElem hlt⟩
        obtain ⟨y, hy⟩ : ∃ y, b[i]? = some y := ⟨_, List.getElem?_eq_getElem (by omega)⟩
        obtain ⟨b1, o1, rfl, hc1⟩ := hp.at (by simp; omega)
        obtain ⟨b2, o2, rfl, hc2⟩ := hq.at (by simp; omega)
        have k1 := hc1 i (enc x) (by simp [hx])
        have k2 := hc2 i (enc y) (by simp [hy])
        have i0 : (0 : Int) ≤ (i : Int) := by omega
        have i1 : (i : Int) < (a.length : Int) := by omega
        have i2 : (i : Int) < (b.length : Int) := by omega
        have HTK := Lib.hid htk
        clear hlen hc1 hc2 htk
        by_cases hxy : x = y
        · have hne : ((x.toNat : Int) != (y.toNat : Int)) = false := by rw [enc_ne]; simpa using hxy
          have HR := Lib.hid (show SameRel a.length a b w (.int .i64 ((i : Int) + 1)) wr.drew from ⟨i + 1, by simp, hlt, hU.trans0 (Upd.drew [] _), by rw [List.take_add_one, List.take_add_one, HTK.out, hx, hy, hxy]⟩)
          clear hxy hx hy
          go_wp2_with fail
          go_region_held3 (fun W => W.cell? ⟨b1, o1 + i, none⟩ = some (enc x) ∧ W.cell? ⟨b2, o2 + i, none⟩ = some (enc y)) (first | exact ⟨k1, k2⟩ | go_keep) (fail)
          go_wp2_with fail
          exact ⟨HR.out, by simp [intOf]; omega⟩
        · have hne : ((x.toNat : Int) != (y.toNat : Int)) = true := by rw [enc_ne]; simpa using hxy
          have hab : decide (a = b) = false := by simp; intro e; subst e; rw [hx] at hy; exact hxy (by injection hy)
          clear hxy hx hy
          go_wp2_with fail
          go_region_held3 (fun W => W.cell? ⟨b1, o1 + i, none⟩ = some (enc x) ∧ W.cell? ⟨b2, o2 + i, none⟩ = some (enc y)) (first | exact ⟨k1, k2⟩ | go_keep) (fail)
          go_wp2_with fail
          go_ret
          exact ⟨by rw [hab]; rfl, hU.trans0 (Upd.drew [] _)⟩
      · have htt : decide ((i : Int) < (a.length : Int)) = false := by simp; omega
        have hie : i = a.length := by omega
        go_wp2_with fail
        go_ret
        rw [hie, List.take_length, hlen, List.take_length] at htk
        exact ⟨by rw [decide_eq_true htk]; rfl, hU⟩
  · have h1 : ((a.length : Int) != (b.length : Int)) = true := by simp; omega
    have h2 : decide (a = b) = false := by simp; intro h; exact hlen (by rw [h])
    go_enter Try.func17, Try.ntmps17
    go_wp2_with fail
    go_ret
    exact ⟨by rw [h2]; rfl, Upd.refl _ _⟩

theorem ext_yes {head k : List UInt8} (h1 : head.length ≤ k.length) (h2 : ((⟨k.toArray⟩ : ByteArray).extract 0 head.length).toList = head) : head.isPrefixOf k = true := prefix_take.2 ⟨h1, by rw [← ext_take]; exact h2⟩
theorem ext_no {head k : List UInt8} (h2 : ¬ ((⟨k.toArray⟩ : ByteArray).extract 0 head.length).toList = head) : head.isPrefixOf k = false := by
  cases hc : head.isPrefixOf k with
  | false => rfl
  | true => exact absurd (by rw [ext_take]; exact (prefix_take.1 hc).2) h2
theorem ext_no1 {head k : List UInt8} (h2 : ¬ head.length ≤ k.length) : head.isPrefixOf k = false := by
  cases hc : head.isPrefixOf k with
  | false => rfl
  | true => exact absurd (prefix_take.1 hc).1 h2
theorem ext_beq {head k : List UInt8} (h1 : head.length ≤ k.length) : ((((⟨k.toArray⟩ : ByteArray).extract 0 head.length).toList) == head) = head.isPrefixOf k := by
  by_cases h : ((⟨k.toArray⟩ : ByteArray).extract 0 head.length).toList = head
  · rw [ext_yes h1 h, beq_iff_eq]; exact h
  · rw [ext_no h, beq_eq_false_iff_ne]; exact h
theorem ref_Begins (w : World) (k head : List UInt8) : Calls Try.prog 36 #[encS k, encS head] w fun e w' => e = .returned (.bool (head.isPrefixOf k)) ∧ w = w' := by
  by_cases h1 : head.length ≤ k.length
  · have ht : decide ((head.length : Int) ≤ (k.length : Int)) = true := by simpa using h1
    have HE1 := Lib.hid (ext_beq h1)
    go_enter Try.func36, Try.ntmps36
    go_wp2_with fail
    go_ret
    exact ⟨congrArg (fun b => Ending.returned (.bool b)) HE1.out, rfl⟩
  · have ht : decide ((head.length : Int) ≤ (k.length : Int)) = false := by simpa using h1
    rw [ext_no1 h1]
    go_enter Try.func36, Try.ntmps36
    go_wp2_with fail
    go_ret
    exact ⟨rfl, rfl⟩
def FindRel (w : World) (k : List UInt8) (l : List (List UInt8 × List UInt8)) (x : Value) (wr : World) : Prop := ∃ i : Nat, x = .int .i64 i ∧ i ≤ pfind k l ∧ wr = w
theorem ref_Find (w : World) (v : Value) (l : List (List UInt8 × List UInt8)) (hl : Prs w v l) (k : List UInt8) (hn : l.length ≤ 1000000000) : Calls Try.prog 16 #[v, encS k] w fun e w' => e = .returned (.int .i64 (pfind k l)) ∧ w = w' := by
  obtain ⟨cells, hR, hC⟩ := hl
  obtain ⟨ao, cap, rfl, _⟩ := hR.shape
  have HP := Lib.hid (pfind_le k l)
  have HN9 := Lib.hid hn; clear hn
  go_enter Try.func16, Try.ntmps16
  go_wp2_with fail
  go_loopw [5] (fun x wr => FindRel w k l x wr) (fun x _ => l.length - (intOf x).toNat)
  case atStart => exact ⟨0, rfl, Nat.zero_le _, rfl⟩
  case round =>
    obtain ⟨i, rfl, hi, rfl⟩ := hrel
    have hle := HP.out
    have hll := HN9.out
    by_cases hlt : i < l.length
    · have htt : decide ((i : Int) < (l.length : Int)) = true := by simp; omega
      obtain ⟨p, hp⟩ : ∃ p, l[i]? = some p := ⟨_, List.getElem?_eq_getElem hlt⟩
      obtain ⟨pv, g0, g1, hpv⟩ := hC.get hp
      by_cases hk : p.1 < k
      · have hb : Op.bytesLess p.1 k = true := by rw [bytesLess_eq]; simpa using hk
        have HN := Lib.hid (pfind_next hi hp hk)
        clear hk hle hi hp
        go_wp2_with ((with_reducible show wpList _ _ _ (⟨_, .indexAddr _ _ _, _, _, _, _⟩ :: _) _ _); refine wpl_indexAddr elPair rfl rfl hR rfl rfl (by omega) (by omega) ?_; intro ad hcell hspot; (have k0 := hcell 0 (by omega)); (have k1 := hcell 1 (by omega)); rw [Int.toNat_natCast, g0] at k0; rw [Int.toNat_natCast, g1] at k1; clear hcell; obtain ⟨gb, gof, gs⟩ := ad; cases hspot; simp only [Addr.add_lit, Nat.add_zero] at k0 k1)
        exact ⟨⟨i + 1, by simp, HN.out, rfl⟩, by simp [intOf]; omega⟩
      · have hb : Op.bytesLess p.1 k = false := by rw [bytesLess_eq]; simpa using hk
        have HN := Lib.hid (pfind_stop hi hp hk)
        clear hk hle hi hp
        go_wp2_with ((with_reducible show wpList _ _ _ (⟨_, .indexAddr _ _ _, _, _, _, _⟩ :: _) _ _); refine wpl_indexAddr elPair rfl rfl hR rfl rfl (by omega) (by omega) ?_; intro ad hcell hspot; (have k0 := hcell 0 (by omega)); (have k1 := hcell 1 (by omega)); rw [Int.toNat_natCast, g0] at k0; rw [Int.toNat_natCast, g1] at k1; clear hcell; obtain ⟨gb, gof, gs⟩ := ad; cases hspot; simp only [Addr.add_lit, Nat.add_zero] at k0 k1)
        go_ret
        exact ⟨by rw [← HN.out]; rfl, rfl⟩
    · have htt : decide ((i : Int) < (l.length : Int)) = false := by simp; omega
      have hie : i = pfind k l := by omega
      clear hle hi
      go_wp2_with fail
      go_ret
      exact ⟨by rw [← hie]; rfl, rfl⟩
end Go.Proofs.Ythfbfdkjgkkpcaa
