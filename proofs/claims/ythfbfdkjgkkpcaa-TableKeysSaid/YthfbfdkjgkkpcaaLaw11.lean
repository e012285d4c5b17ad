/-
  The walks of the law's small, Pairs and Is.
-/
import Derived.Test.YthfbfdkjgkkpcaaRefKeys
import Derived.Test.YthfbfdkjgkkpcaaRefDo
namespace Go.Proofs.Ythfbfdkjgkkpcaa
open Go Go.RowKit

/-- Changes that aren't too many, or too long. -/
def smallB (l : List TChg) : Bool := decide (l.length ≤ 40) && l.all (fun c => decide (c.key.length ≤ 400) && decide (c.val.length ≤ 500))
def SmRel (w : World) (l : List TChg) (x : Value) (wr : World) : Prop := ∃ i : Nat, x = .int .i64 i ∧ i ≤ l.length ∧ Upd [] w wr ∧ (l.take i).all (fun c => decide (c.key.length ≤ 400) && decide (c.val.length ≤ 500)) = true
set_option maxRecDepth 100000 in
theorem law_small (w : World) (lv : Value) (l : List TChg) (hl : RChgs w lv l) : Calls Try.prog 9 #[lv] w fun e w' => e = .returned (.bool (smallB l)) ∧ Upd [] w w' := by
  obtain ⟨cells, hR, hC⟩ := hl
  obtain ⟨ao, cap, rfl, _⟩ := hR.shape
  by_cases h40 : l.length ≤ 40
  · have ht : decide ((40 : Int) < (l.length : Int)) = false := by simp; omega
    have H40 := Lib.hid h40
    clear h40
    go_enter Try.func9, Try.ntmps9
    go_wp2_with fail
    go_loopw [10] (fun x wr => SmRel w l x wr) (fun x _ => l.length - (intOf x).toNat)
    case atStart => exact ⟨0, rfl, Nat.zero_le _, Upd.refl _ _, by simp⟩
    case round =>
      obtain ⟨i, rfl, hi, hU, hall⟩ := hrel
      have hll := H40.out
      by_cases hlt : i < l.length
      · have htt : decide ((i : Int) < (l.length : Int)) = true := by simp; omega
        obtain ⟨c, hc⟩ : ∃ c, l[i]? = some c := ⟨_, List.getElem?_eq_getElem hlt⟩
        obtain ⟨pv, c0, c1, c2, hpv⟩ := hC.get hc
        have hRr := hR.upd0 hU
        obtain ⟨ap, cp, hsp, _⟩ := hpv.shape
        subst hsp
        have hUa : Upd [] wr (wr.alloc (Obj.cells #[encS c.key, .bool c.gone, Value.slice ap c.val.length cp] 82)) := Upd.alloc [] _ _
        have hba := heap_alloc_new wr (Obj.cells #[encS c.key, .bool c.gone, Value.slice ap c.val.length cp] 82)
        have b0 : (wr.alloc (Obj.cells #[encS c.key, .bool c.gone, Value.slice ap c.val.length cp] 82)).cell? ⟨wr.heap.size, 0, none⟩ = some (encS c.key) := by rw [cell_lit _ _ 0 _ _ _ hba]; rfl
        have b2 : (wr.alloc (Obj.cells #[encS c.key, .bool c.gone, Value.slice ap c.val.length cp] 82)).cell? ⟨wr.heap.size, 2, none⟩ = some (.slice ap c.val.length cp) := by rw [cell_lit _ _ 2 _ _ _ hba]; rfl
        have HTK := Lib.hid (show l.take (i + 1) = l.take i ++ [c] by rw [List.take_add_one, hc]; rfl)
        have hmem := List.mem_of_getElem? hc
        have hU2 := hU.trans0 hUa
        have HALL := Lib.hid hall
        clear hba hall hc hi hUa
        by_cases hk : c.key.length ≤ 400
        · have hk1 : decide ((400 : Int) < (c.key.length : Int)) = false := by simp; omega
          by_cases hv : c.val.length ≤ 500
          · have hv1 : decide ((500 : Int) < (c.val.length : Int)) = false := by simp; omega
            have HR := Lib.hid (show SmRel w l (.int .i64 ((i : Int) + 1)) (wr.alloc (Obj.cells #[encS c.key, .bool c.gone, Value.slice ap c.val.length cp] 82)) from ⟨i + 1, by simp, hlt, hU2, by rw [HTK.out, List.all_append, HALL.out]; simp [hk, hv]⟩)
            clear hk hv
            go_wp2_with ((with_reducible show wpList _ _ _ (⟨_, .indexAddr _ _ _, _, _, _, _⟩ :: _) _ _); refine wpl_indexAddrX elRChg rfl rfl hRr rfl rfl (by omega) (by omega) ?_; intro ad hcell hspot; (have k0 := hcell 0 (by omega)); (have k1 := hcell 1 (by omega)); (have k2 := hcell 2 (by omega)); rw [Int.toNat_natCast, c0] at k0; rw [Int.toNat_natCast, c1] at k1; rw [Int.toNat_natCast, c2] at k2; clear hcell; obtain ⟨gb, gof, gs⟩ := ad; cases hspot; simp only [Addr.add_lit, Nat.add_zero] at k0 k1 k2)
            exact ⟨HR.out, by simp [intOf]; omega⟩
          · have hv1 : decide ((500 : Int) < (c.val.length : Int)) = true := by simp; omega
            have HR := Lib.hid (show smallB l = false from by unfold smallB; rw [Bool.and_eq_false_iff]; right; rw [List.all_eq_false]; exact ⟨c, hmem, by simp [hv]⟩)
            clear hk hv
            go_wp2_with ((with_reducible show wpList _ _ _ (⟨_, .indexAddr _ _ _, _, _, _, _⟩ :: _) _ _); refine wpl_indexAddrX elRChg rfl rfl hRr rfl rfl (by omega) (by omega) ?_; intro ad hcell hspot; (have k0 := hcell 0 (by omega)); (have k1 := hcell 1 (by omega)); (have k2 := hcell 2 (by omega)); rw [Int.toNat_natCast, c0] at k0; rw [Int.toNat_natCast, c1] at k1; rw [Int.toNat_natCast, c2] at k2; clear hcell; obtain ⟨gb, gof, gs⟩ := ad; cases hspot; simp only [Addr.add_lit, Nat.add_zero] at k0 k1 k2)
            go_ret
            exact ⟨by rw [HR.out]; rfl, hU2⟩
        · have hk1 : decide ((400 : Int) < (c.key.length : Int)) = true := by simp; omega
          have HR := Lib.hid (show smallB l = false from by unfold smallB; rw [Bool.and_eq_false_iff]; right; rw [List.all_eq_false]; exact ⟨c, hmem, by simp [hk]⟩)
          clear hk
          go_wp2_with ((with_reducible show wpList _ _ _ (⟨_, .indexAddr _ _ _, _, _, _, _⟩ :: _) _ _); refine wpl_indexAddrX elRChg rfl rfl hRr rfl rfl (by omega) (by omega) ?_; intro ad hcell hspot; (have k0 := hcell 0 (by omega)); (have k1 := hcell 1 (by omega)); (have k2 := hcell 2 (by omega)); rw [Int.toNat_natCast, c0] at k0; rw [Int.toNat_natCast, c1] at k1; rw [Int.toNat_natCast, c2] at k2; clear hcell; obtain ⟨gb, gof, gs⟩ := ad; cases hspot; simp only [Addr.add_lit, Nat.add_zero] at k0 k1 k2)
          go_ret
          exact ⟨by rw [HR.out]; rfl, hU2⟩
      · have htt : decide ((i : Int) < (l.length : Int)) = false := by simp; omega
        have hie : i = l.length := by omega
        have HR := Lib.hid (show smallB l = true from by unfold smallB; rw [hie, List.take_length] at hall; rw [hall]; simpa using hll)
        clear hall
        go_wp2_with fail
        go_ret
        exact ⟨by rw [HR.out]; rfl, hU⟩
  · have ht : decide ((40 : Int) < (l.length : Int)) = true := by simp; omega
    have HR := Lib.hid (show smallB l = false from by unfold smallB; rw [Bool.and_eq_false_iff]; left; simpa using h40)
    clear h40
    go_enter Try.func9, Try.ntmps9
    go_wp2_with fail
    go_ret
    exact ⟨by rw [HR.out]; rfl, Upd.refl _ _⟩

/-- A table whose keys are in order, none empty, all within bounds. -/
structure TOk (T : TSt) : Prop where
  srt : Srt T.m
  keys : ∀ p ∈ T.m, p.1 ≠ [] ∧ p.1.length ≤ 1000000000 ∧ p.2.length ≤ 1000000000
  len : T.m.length ≤ 1000000000
def PairsRel (w : World) (m : List (List UInt8 × List UInt8)) (x v : Value) (wr : World) : Prop := ∃ i : Nat, x = .int .i64 i ∧ i ≤ m.length ∧ OwnPrs wr w.heap.size v (m.take i) ∧ Upd [] w wr
set_option maxRecDepth 100000 in
set_option maxHeartbeats 1000000 in
theorem law_Pairs (w : World) (d tb : Nat) (S : List Nat) (T : TSt) (h : TAt w d tb S T) (hok : TOk T) :
    Calls Try.prog 26 #[.pointer (some ⟨tb, 0, none⟩)] w fun e w' => ∃ v, e = .returned (.tuple #[v, .bool true]) ∧ Prs w' v T.m ∧ Upd [] w w' := by
  have hlen := table_len w d tb S T h
  have hkeys := table_keys w d tb S T h [] [] T.m.length (fun p hp => by have := (hok.keys p hp).2.1; unfold maxLen; omega) hok.len (by simp) (by have := hok.len; omega)
  rw [sortK_srt hok.srt, keysGo_all _ [] _ (by intro k hk; obtain ⟨p, hp, rfl⟩ := List.mem_map.1 hk; exact (hok.keys p hp).1) (by simp), List.nil_append] at hkeys
  have hml : (T.m.map (·.1)).length = T.m.length := by simp
  have HKI := Lib.hid (fun (i : Nat) (p : List UInt8 × List UInt8) (h : T.m[i]? = some p) => show (T.m.map (·.1))[i]? = some p.1 from by simp [h])
  generalize hks : T.m.map (·.1) = ks at *
  have HML := Lib.hid hml; have HOK := Lib.hid hok; have HT := Lib.hid h
  clear hml hks hok h
  go_enter Try.func26, Try.ntmps26
  go_wp2_with (first
    | (go_at_call 21; refine hlen.mono ?_; rintro e w1 ⟨rfl, rfl⟩)
    | (go_at_call 13; refine hkeys.mono ?_; rintro e w1 ⟨v1, rfl, hv1, hU1⟩; obtain ⟨ao1, cap1, hs1, _⟩ := (Rd.of_own hv1).shape; subst hs1; rw [HML.out] at hv1 ⊢))
  go_loopw [16, 4] (fun x v W => PairsRel w1 T.m x v W) (fun x _ _ => T.m.length - (intOf x).toNat)
  case atStart => exact ⟨0, rfl, Nat.zero_le _, OwnPrs.nil _ _, Upd.refl _ _⟩
  case round =>
    obtain ⟨i, rfl, hi, hown, hU⟩ := hrel
    have hok := HOK.out
    have hll := hok.len
    have hTr := (HT.out.upd0 hU1).upd0 hU
    by_cases hlt : i < T.m.length
    · have htt : decide ((i : Int) < (T.m.length : Int)) = true := by simp; omega
      obtain ⟨p, hp⟩ : ∃ p, T.m[i]? = some p := ⟨_, List.getElem?_eq_getElem hlt⟩
      have hki := HKI.out i p hp
      have hR : Rd wr 9 1 (.slice ao1 T.m.length cap1) T.m.length (ks.map encS) := (Rd.of_own hv1).upd0 hU
      have hku : (ks.map encS)[(i : Int).toNat]? = some (encS p.1) := by simp [hki]
      have hag : aget p.1 T.m = some p.2 := (aget_some hok.srt.nodup).2 (List.mem_of_getElem? hp)
      have hpl := (hok.keys p (List.mem_of_getElem? hp)).2.2
      have hget := table_get wr d tb S T hTr p.1 (by rw [hag]; show p.2.length ≤ _; omega)
      rw [hag] at hget
      have HTK := Lib.hid (show T.m.take (i + 1) = T.m.take i ++ [p] by rw [List.take_add_one, hp]; rfl)
      have hlk : (T.m.take i).length + 1 ≤ 1000000001 := by simp; omega
      have HLK := Lib.hid hlk
      clear hlk hag hpl hok hki hTr
      go_wp2_with (first
        | ((with_reducible show wpList _ _ _ (⟨_, .indexAddr _ _ _, _, _, _, _⟩ :: _) _ _); refine wpl_indexAddr1 elStr rfl rfl hR rfl rfl (by omega) (by omega) _ hku ?_; intro ad hcell)
        | (go_at_call 15; refine hget.mono ?_; rintro e w3 ⟨v3, rfl, hv3, hU3⟩; (have hb3 : By w3 v3 p.2 := hv3.by); obtain ⟨ao3, cap3, hs3⟩ := By.val hb3; subst hs3; (have hU03 := hU.trans0 hU3))
        | ((with_reducible show wpList _ _ _ (⟨_, .buildSlice _ _ _, _, _, _, _⟩ :: _) _ _); refine wpl_lit elPair rfl rfl rfl (cs := [encS p.1, .slice ao3 p.2.length cap3]) rfl rfl (by omega) ?_; intro v5 w5 hv5 hU5 _)
        | ((with_reducible show wpList _ _ _ (⟨_, .call ⟨.builtin .append, _, _⟩, _, _, _, _⟩ :: _) _ _); refine wpl_append_pr rfl rfl (hU03.trans0 hU5) ((hown.upd0 hU3).upd0 hU5) rfl (Rd.of_own hv5) rfl (hb3.upd0 hU5) HLK.out ?_; intro v6 w6 hv6 hU6))
      exact ⟨⟨i + 1, by simp, hlt, by rw [HTK.out]; exact hv6, hU6⟩, by simp [intOf]; omega⟩
    · have htt : decide ((i : Int) < (T.m.length : Int)) = false := by simp; omega
      have hie : i = T.m.length := by omega
      subst hie
      have hown' : OwnPrs wr w1.heap.size u4 T.m := by rw [List.take_length] at hown; exact hown
      have hlen2 := table_len wr d tb S T hTr
      have HP := Lib.hid (show Prs wr u4 T.m ∧ Upd [] w wr from ⟨hown'.prs, hU1.trans0 hU⟩)
      obtain ⟨ao4, cap4, hs4⟩ := hown'.prs.shape
      subst hs4
      clear hown hown' hok hTr hv1
      go_wp2_with (first
        | (go_at_call 21; refine hlen2.mono ?_; rintro e w3 ⟨rfl, rfl⟩))
      go_ret2
      exact ⟨_, by simp, HP.out.1, HP.out.2⟩
theorem law_Is (w : World) (d tb : Nat) (S : List Nat) (T : TSt) (h : TAt w d tb S T) (hok : TOk T) (lv : Value) (l : List (List UInt8 × List UInt8)) (hl : Prs w lv l) :
    Calls Try.prog 18 #[.pointer (some ⟨tb, 0, none⟩), lv] w fun e w' => e = .returned (.bool (decide (T.m = l))) ∧ Upd [] w w' := by
  have hp := law_Pairs w d tb S T h hok
  have hs := fun (w1 : World) (v1 : Value) (hU : Upd [] w w1) (h1 : Prs w1 v1 T.m) => ref_SameP w1 v1 lv T.m l h1 (hl.upd0 hU) hok.len (fun p hp => (hok.keys p hp).2.2)
  clear h hok
  go_enter Try.func18, Try.ntmps18
  go_wp2_with (first
    | (go_at_call 26; refine hp.mono ?_; rintro e w1 ⟨v1, rfl, hv1, hU1⟩)
    | (go_at_call 38; refine (hs w1 v1 hU1 hv1).mono ?_; rintro e w2 ⟨rfl, hU2⟩))
  go_ret
  exact ⟨rfl, hU1.trans0 hU2⟩
end Go.Proofs.Ythfbfdkjgkkpcaa
