/-
  The walk of the statement TableNil.
-/
import Derived.Test.YthfbfdkjgkkpcaaNilW
import Derived.Test.YthfbfdkjgkkpcaaMk
namespace Go.Proofs.Ythfbfdkjgkkpcaa
open Go Go.RowKit

theorem zeroTChg : ∀ i, Try.prog.info? 51 = some i → i.zero = some (.agg #[.string ⟨#[]⟩, .bool false, .slice none 0 0]) := by
  intro i hi
  obtain ⟨j, h1, h2, _⟩ := info_parts (P := Try.prog) (e := 51) (z := .agg #[.string ⟨#[]⟩, .bool false, .slice none 0 0]) (size := 3) (bytes := 48) (by kernel_rfl)
  rw [hi] at h1
  cases h1
  exact h2
def MkRel (w1 : World) (v x : Value) (wr : World) : Prop := ∃ i : Nat, x = .int .i64 i ∧ i ≤ 257 ∧ Upd [] w1 wr ∧ wr.ownsRow w1.heap.size 51 3 v 257 (mkc 257 i)

set_option maxRecDepth 100000 in
set_option maxHeartbeats 2000000 in
theorem law11_tableNil (w : World) (key : List UInt8) : Calls Try.prog 4 #[encS key] w fun e w' => e = .returned (.bool true) ∧ Upd [] w w' := by
  have hg := table_get_nil w key
  go_enter Try.func4, Try.ntmps4
  go_wp2_with (first
    | (go_at_call 15; refine hg.mono ?_; rintro e w1 ⟨rfl, rfl⟩)
    | ((with_reducible show wpList _ _ _ (⟨_, .makeSlice _ _ _, _, _, _, _⟩ :: _) _ _); refine wpl_make_el elTChg _ zeroTChg rfl rfl rfl rfl (by decide) (by decide) ?_; intro v1 w1 hv1 hU1; obtain ⟨ao1, cap1, hs1, _⟩ := (Rd.of_own hv1).shape; subst hs1))
  have hv1' : w1.ownsRow w.heap.size 51 3 (.slice ao1 257 cap1) 257 (mkc 257 0) := by rw [← mkc_start]; exact hv1
  go_loopw [24] (fun x wr => MkRel w (.slice ao1 257 cap1) x wr) (fun x _ => 257 - (intOf x).toNat)
  case atStart => exact ⟨0, rfl, by omega, hU1, hv1'⟩
  case round =>
    obtain ⟨i, rfl, hi, hU, hown⟩ := hrel
    by_cases hlt : i < 257
    · have htt : decide ((i : Int) < 257) = true := by simp; omega
      have hset := mkc_set 257 i hlt
      have hget : (mkc 257 i)[i * 3]? = some (encS []) := by
        unfold mkc
        rw [List.getElem?_append_right (by simp), show 257 - i = (257 - i - 1) + 1 from by omega, List.replicate_succ]
        simp
      have HSET := Lib.hid hset
      clear hset
      go_wp2_with ((with_reducible show wpList _ _ _ (⟨_, .indexAddr _ _ _, _, _, _, _⟩ :: _) _ _); refine wpl_indexAddr_el elTChg rfl rfl hown rfl rfl (by omega) (by omega) ?_; intro g hg1 hcell hfr hst; rw [Int.toNat_natCast, hget] at hcell; rw [Int.toNat_natCast] at hfr hst ⊢; have hst1 := hst (encS [107]); rw [HSET.out] at hst1; clear hst)
      exact ⟨⟨i + 1, by simp, hlt, hU.own hown hst1.2, hst1.1⟩, by simp [intOf]; omega⟩
    · have htt : decide ((i : Int) < 257) = false := by simp; omega
      have hie : i = 257 := by omega
      subst hie
      have hC : Chgs wr (.slice ao1 257 cap1) (List.replicate 257 chK) := ⟨mkc 257 257, by rw [List.length_replicate]; exact Rd.of_own hown, mkc_cells wr 257⟩
      have hE1 := encB_many 257 (by omega)
      have hL1 : (List.replicate 257 chK).length ≤ 1000000000 := by rw [List.length_replicate]; omega
      have hRd := Rd.of_own hown
      have htake : (mkc 257 257).take (256 * 3) = mkc 256 256 := by
        unfold mkc
        rw [Nat.sub_self, List.replicate_succ' (n := 256)]
        simp only [List.replicate_zero, List.flatten_nil, List.append_nil, List.flatten_append]
        rw [List.take_append_of_le_length (by simp), List.take_of_length_le (by simp)]
      have hE2 := encB_rep 256 (by omega)
      have hL2 : (List.replicate 256 chK).length ≤ 1000000000 := by rw [List.length_replicate]; omega
      have hn2 : (List.replicate 256 chK).length = 256 := List.length_replicate
      have hcells2 := mkc_cells wr 256
      generalize hl1 : List.replicate 257 chK = l1 at *
      have hk2 : TCells wr (mkc 256 256) (List.replicate 256 chK) := hcells2
      generalize hl2 : List.replicate 256 chK = l2 at *
      have h1 := table_encode wr _ l1 hC hL1
      unfold EncPost at h1
      rw [hE1] at h1
      clear hl1 hl2 hcells2 hL1 hC
      generalize hm2 : mkc 256 256 = m2 at *
      generalize hm1 : mkc 257 257 = m1 at *
      clear hm1 hm2
      have HL2 := Lib.hid hL2; clear hL2
      go_wp2_with fail
      refine h1.mono ?_
      rintro e w3 ⟨v3, rfl, _, hU3⟩
      go_wp2_with ((with_reducible show wpList _ _ _ (⟨_, .slice _ _ _ _ _, _, _, _, _⟩ :: _) _ _); refine wpl_cut_to elTChg rfl rfl (hRd.upd0 hU3) rfl rfl (by omega) (by omega) ?_; intro v4 hR4 _)
      have hC2 : Chgs w3 v4 l2 := ⟨m2, by rw [hn2, ← htake]; exact hR4, hk2.upd hU3 (Off.nil _ _)⟩
      have h2 := table_encode w3 _ l2 hC2 HL2.out
      unfold EncPost at h2
      rw [hE2] at h2
      refine h2.mono ?_
      rintro e w5 ⟨v5, rfl, _, hU5⟩
      go_wp2_with ((with_reducible show wpList _ _ _ (⟨_, .makeSlice _ _ _, _, _, _, _⟩ :: _) _ _); refine wpl_make_zs elU8 zeroU8 rfl rfl 262144 rfl rfl (by omega) ?_; intro v6 w6 zs hz hv6 hU6; obtain ⟨ao6, cap6, hs6⟩ := By.val hv6.by; rw [hz] at hs6; subst hs6)
      have hb6 : By w6 (.slice ao6 262144 cap6) zs := hv6.by
      have hU7 : Upd [] w6 (w6.alloc (Obj.cells #[encS [107], Value.bool false, Value.slice ao6 262144 cap6] 51)) := Upd.alloc [] _ _
      have hs7 : (w6.alloc (Obj.cells #[encS [107], Value.bool false, Value.slice ao6 262144 cap6] 51)).heap.size = w6.heap.size + 1 := by simp
      have hE3 := encB_big zs hz
      have hC3 : Chgs ((w6.alloc (Obj.cells #[encS [107], Value.bool false, Value.slice ao6 262144 cap6] 51)).alloc (Obj.cells #[encS [107], Value.bool false, Value.slice ao6 262144 cap6, encS [107], Value.bool false, Value.slice ao6 262144 cap6, encS [107], Value.bool false, Value.slice ao6 262144 cap6, encS [107], Value.bool false, Value.slice ao6 262144 cap6] 51)) (Value.slice (some { block := w6.heap.size + 1, off := 0 }) 4 4) [chBig zs, chBig zs, chBig zs, chBig zs] := by
        have hb8 := (hb6.upd0 hU7).upd0 (Upd.alloc [] (w6.alloc (Obj.cells #[encS [107], Value.bool false, Value.slice ao6 262144 cap6] 51)) (Obj.cells #[encS [107], Value.bool false, Value.slice ao6 262144 cap6, encS [107], Value.bool false, Value.slice ao6 262144 cap6, encS [107], Value.bool false, Value.slice ao6 262144 cap6, encS [107], Value.bool false, Value.slice ao6 262144 cap6] 51))
        have hr := Rd.new (w := w6.alloc (Obj.cells #[encS [107], Value.bool false, Value.slice ao6 262144 cap6] 51)) (e := 51) (sz := 3) (n := 4) (cap := 4) (cur := #[encS [107], Value.bool false, Value.slice ao6 262144 cap6, encS [107], Value.bool false, Value.slice ao6 262144 cap6, encS [107], Value.bool false, Value.slice ao6 262144 cap6, encS [107], Value.bool false, Value.slice ao6 262144 cap6]) (xs := [encS [107], Value.bool false, Value.slice ao6 262144 cap6, encS [107], Value.bool false, Value.slice ao6 262144 cap6, encS [107], Value.bool false, Value.slice ao6 262144 cap6, encS [107], Value.bool false, Value.slice ao6 262144 cap6]) rfl (Nat.le_refl _) (by decide) rfl rfl
        rw [hs7] at hr
        exact ⟨_, hr, rfl, rfl, hb8, rfl, rfl, hb8, rfl, rfl, hb8, rfl, rfl, hb8, trivial⟩
      have h3 := table_encode _ _ [chBig zs, chBig zs, chBig zs, chBig zs] hC3 (by simp)
      unfold EncPost at h3
      rw [hE3] at h3
      have hU8 := hU7.trans0 (Upd.alloc [] (w6.alloc (Obj.cells #[encS [107], Value.bool false, Value.slice ao6 262144 cap6] 51)) (Obj.cells #[encS [107], Value.bool false, Value.slice ao6 262144 cap6, encS [107], Value.bool false, Value.slice ao6 262144 cap6, encS [107], Value.bool false, Value.slice ao6 262144 cap6, encS [107], Value.bool false, Value.slice ao6 262144 cap6] 51))
      refine h3.mono ?_
      rintro e w9 ⟨v9, rfl, _, hU9⟩
      have hUall : Upd [] w w9 := ((((hU.trans0 hU3).trans0 hU5).trans0 hU6).trans0 hU8).trans0 hU9
      have HUA := Lib.hid hUall
      clear h3 hC3 hE3 hs7 hb6 hUall
      go_wp2_with fail
      refine (law11_awake w9).mono ?_
      rintro e w10 ⟨rfl, hU10⟩
      go_wp2_with (first
        | (go_at_call 10; refine (table_apply_nil w10 _).mono ?_; rintro e w11 ⟨rfl, rfl⟩)
        | (go_at_call 20; refine (table_fold_nil w10).mono ?_; rintro e w11 ⟨rfl, rfl⟩)
        | (go_at_call 13; refine (table_keys_nil w10 [] [] 9).mono ?_; rintro e w11 ⟨rfl, rfl⟩)
        | (go_at_call 21; refine (table_len_nil w10).mono ?_; rintro e w11 ⟨rfl, rfl⟩)
        | (go_at_call 22; refine (table_size_nil w10).mono ?_; rintro e w11 ⟨rfl, rfl⟩))
      go_ret
      exact ⟨rfl, HUA.out.trans0 hU10⟩
end Go.Proofs.Ythfbfdkjgkkpcaa
