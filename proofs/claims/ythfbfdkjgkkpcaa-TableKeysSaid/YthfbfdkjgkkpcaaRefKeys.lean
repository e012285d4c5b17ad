/-
  The walks of the document's Keys and Same.
-/
import Derived.Test.YthfbfdkjgkkpcaaToDo
import Derived.Test.YthfbfdkjgkkpcaaHeld
namespace Go.Proofs.Ythfbfdkjgkkpcaa
open Go Go.RowKit

theorem okKey_eq (head after k : List UInt8) : okKey head after k = (head.isPrefixOf k && (!Op.bytesLess k after && !k == after)) := by
  unfold okKey
  congr 1
  rw [Bool.eq_iff_iff, decide_eq_true_iff, Bool.and_eq_true, gt_lex]
set_option maxRecDepth 100000 in
set_option maxHeartbeats 1000000 in
theorem ref_Keys (w : World) (lv : Value) (l : List (List UInt8 × List UInt8)) (hl : Prs w lv l) (head after : List UInt8) (most : Int) (hn : l.length ≤ 1000000000) :
    Calls Try.prog 14 #[lv, encS head, encS after, .int .i64 most] w (KeysPost w (keysGo head after most [] (l.map (·.1)))) := by
  obtain ⟨cells, hR, hC⟩ := hl
  obtain ⟨ao, cap, rfl, _⟩ := hR.shape
  have hlen : (l.map (·.1)).length = l.length := by simp
  have hkey : ∀ (i : Nat) (p : List UInt8 × List UInt8), l[i]? = some p → (l.map (·.1))[i]? = some p.1 := fun i p h => by simp [h]
  generalize hks : l.map (·.1) = ks at *
  have HN := Lib.hid hn; have HLEN := Lib.hid hlen
  clear hn hks hlen
  go_enter Try.func14, Try.ntmps14
  go_wp2_with fail
  go_loopw [10, 9] (fun x v wr => KeysRel w ks head after most x v wr) (fun x _ _ => l.length - (intOf x).toNat)
  case atStart => exact ⟨0, [], rfl, Nat.zero_le _, Nat.zero_le _, Upd.refl _ _, World.ownsRow_nil _ _ _ _, rfl⟩
  case round =>
    obtain ⟨i, o, rfl, hi, ho, hU, hown, hkg⟩ := hrel
    have hll := HN.out
    have hlen := HLEN.out
    by_cases hlt : i < l.length
    · have htt : decide ((i : Int) < (l.length : Int)) = true := by simp; omega
      obtain ⟨p, hp⟩ : ∃ p, l[i]? = some p := ⟨_, List.getElem?_eq_getElem hlt⟩
      have hki := hkey i p hp
      obtain ⟨pv, g0, g1, hpv⟩ := hC.get hp
      have hRr := hR.upd0 hU
      obtain ⟨ao9, cap9, hs9, _⟩ := (Rd.of_own hown).shape
      subst hs9
      have hlt2 : i < ks.length := by omega
      have hstep : keysGo head after most o (ks.drop i) = if most ≤ o.length then o else if okKey head after p.1 then keysGo head after most (o ++ [p.1]) (ks.drop (i + 1)) else keysGo head after most o (ks.drop (i + 1)) := by
        rw [List.drop_eq_getElem_cons hlt2, (List.getElem?_eq_some_iff.1 hki).2]
        rfl
      rw [hstep] at hkg
      have HKG := Lib.hid hkg; have HO := Lib.hid hown
      clear hkg hown hstep hki hp
      by_cases hmo : most ≤ o.length
      · have hmt : decide ((o.length : Int) < most) = false := by simpa using hmo
        have HF := Lib.hid (show KeysPost w (keysGo head after most [] ks) (.returned (.slice ao9 o.length cap9)) wr from by
          rw [HKG.out, if_pos hmo]
          exact ⟨_, rfl, HO.out, hU⟩)
        clear hmo hlen
        go_wp2_with fail
        go_ret
        exact HF.out
      · have hmt : decide ((o.length : Int) < most) = true := by simpa using hmo
        have HMO' := Lib.hid hmo
        clear hmo
        have HNO := Lib.hid (fun (hok : okKey head after p.1 = false) => show KeysRel w ks head after most (.int .i64 ((i : Int) + 1)) (.slice ao9 o.length cap9) wr from ⟨i + 1, o, by simp, hlt2, by omega, hU, HO.out, by rw [HKG.out, if_neg HMO'.out, hok]; rfl⟩)
        have HYES := Lib.hid (fun (hok : okKey head after p.1 = true) (v' : Value) (w' : World) (ho' : w'.ownsRow w.heap.size 9 1 v' (o.length + 1) (o.map encS ++ [encS p.1])) (hU' : Upd [] w w') => show KeysRel w ks head after most (.int .i64 ((i : Int) + 1)) v' w' from ⟨i + 1, o ++ [p.1], by simp, hlt2, by simp; omega, hU', by simpa using ho', by rw [HKG.out, if_neg HMO'.out, hok]; rfl⟩)
        have hol : o.length + 1 ≤ 1000000001 := by omega
        have HOL := Lib.hid hol
        have hbg := ref_Begins wr p.1 head
        have HOK := Lib.hid (okKey_eq head after p.1)
        clear hol hlen
        cases hb : head.isPrefixOf p.1 with
        | false =>
          rw [hb] at hbg
          have hok := HNO.out (by rw [HOK.out, hb]; rfl)
          go_wp2_with (first
            | ((with_reducible show wpList _ _ _ (⟨_, .indexAddr _ _ _, _, _, _, _⟩ :: _) _ _); refine wpl_indexAddr elPair rfl rfl hRr rfl rfl (by omega) (by omega) ?_; intro ad hcell hspot; (have k0 := hcell 0 (by omega)); (have k1 := hcell 1 (by omega)); rw [Int.toNat_natCast, g0] at k0; rw [Int.toNat_natCast, g1] at k1; clear hcell; obtain ⟨gb, gof, gs⟩ := ad; cases hspot; simp only [Addr.add_lit, Nat.add_zero] at k0 k1)
            | (go_at_call 36; refine hbg.mono ?_; rintro e w9 ⟨rfl, rfl⟩))
          exact ⟨hok, by simp [intOf]; omega⟩
        | true =>
          rw [hb] at hbg
          cases h1 : Op.bytesLess p.1 after with
          | true =>
            have hok := HNO.out (by rw [HOK.out, hb, h1]; rfl)
            go_wp2_with (first
              | ((with_reducible show wpList _ _ _ (⟨_, .indexAddr _ _ _, _, _, _, _⟩ :: _) _ _); refine wpl_indexAddr elPair rfl rfl hRr rfl rfl (by omega) (by omega) ?_; intro ad hcell hspot; (have k0 := hcell 0 (by omega)); (have k1 := hcell 1 (by omega)); rw [Int.toNat_natCast, g0] at k0; rw [Int.toNat_natCast, g1] at k1; clear hcell; obtain ⟨gb, gof, gs⟩ := ad; cases hspot; simp only [Addr.add_lit, Nat.add_zero] at k0 k1)
              | (go_at_call 36; refine hbg.mono ?_; rintro e w9 ⟨rfl, rfl⟩))
            all_goals exact ⟨hok, by simp [intOf]; omega⟩
          | false =>
            cases h2 : (p.1 == after) with
            | true =>
              have hok := HNO.out (by rw [HOK.out, hb, h1, h2]; rfl)
              go_wp2_with (first
                | ((with_reducible show wpList _ _ _ (⟨_, .indexAddr _ _ _, _, _, _, _⟩ :: _) _ _); refine wpl_indexAddr elPair rfl rfl hRr rfl rfl (by omega) (by omega) ?_; intro ad hcell hspot; (have k0 := hcell 0 (by omega)); (have k1 := hcell 1 (by omega)); rw [Int.toNat_natCast, g0] at k0; rw [Int.toNat_natCast, g1] at k1; clear hcell; obtain ⟨gb, gof, gs⟩ := ad; cases hspot; simp only [Addr.add_lit, Nat.add_zero] at k0 k1)
                | (go_at_call 36; refine hbg.mono ?_; rintro e w9 ⟨rfl, rfl⟩))
              all_goals exact ⟨hok, by simp [intOf]; omega⟩
            | false =>
              have hok : okKey head after p.1 = true := by rw [HOK.out, hb, h1, h2]; rfl
              go_wp2_with (first
                | ((with_reducible show wpList _ _ _ (⟨_, .indexAddr _ _ _, _, _, _, _⟩ :: _) _ _); refine wpl_indexAddr elPair rfl rfl hRr rfl rfl (by omega) (by omega) ?_; intro ad hcell hspot; (have k0 := hcell 0 (by omega)); (have k1 := hcell 1 (by omega)); rw [Int.toNat_natCast, g0] at k0; rw [Int.toNat_natCast, g1] at k1; clear hcell; obtain ⟨gb, gof, gs⟩ := ad; cases hspot; simp only [Addr.add_lit, Nat.add_zero] at k0 k1)
                | (go_at_call 36; refine hbg.mono ?_; rintro e w9 ⟨rfl, rfl⟩)
                | ((with_reducible show wpList _ _ _ (⟨_, .buildSlice _ _ _, _, _, _, _⟩ :: _) _ _); refine wpl_lit elStr rfl rfl rfl (cs := [encS p.1]) rfl rfl (by omega) ?_; intro v5 w5 hv5 hU5 _)
                | ((with_reducible show wpList _ _ _ (⟨_, .call ⟨.builtin .append, _, _⟩, _, _, _, _⟩ :: _) _ _); refine wpl_append elStr rfl rfl (Own.upd0 HO.out hU5) rfl (Rd.of_own hv5) rfl (by intro u hu; simp at hu; subst hu; rfl) (by have := HOL.out; unfold maxLen; omega) (by have := HOL.out; omega) (hU.trans0 hU5).size ?_; intro v6 w6 hv6 hg6 _))
              exact ⟨HYES.out hok v6 w6 hv6 ((hU.trans0 hU5).own (Own.upd0 HO.out hU5) hg6), by simp [intOf]; omega⟩
    · have htt : decide ((i : Int) < (l.length : Int)) = false := by simp; omega
      have hie : i = ks.length := by omega
      have HF := Lib.hid (show KeysPost w (keysGo head after most [] ks) (.returned u9) wr from by
        rw [hkg, hie, List.drop_length]
        exact ⟨_, rfl, hown, hU⟩)
      clear hkg hown hlen
      go_wp2_with fail
      go_ret
      exact HF.out

def SamePRel (n : Nat) (a b : List (List UInt8 × List UInt8)) (w : World) (x : Value) (wr : World) : Prop := ∃ i : Nat, x = .int .i64 i ∧ i ≤ n ∧ Upd [] w wr ∧ a.take i = b.take i
set_option maxRecDepth 100000 in
set_option maxHeartbeats 1000000 in
theorem ref_SameP (w : World) (av bv : Value) (a b : List (List UInt8 × List UInt8)) (ha : Prs w av a) (hb : Prs w bv b) (hn : a.length ≤ 1000000000) (hv : ∀ p ∈ a, p.2.length ≤ 1000000000) :
    Calls Try.prog 38 #[av, bv] w fun e w' => e = .returned (.bool (decide (a = b))) ∧ Upd [] w w' := by
  obtain ⟨cells, hR, hC⟩ := ha
  obtain ⟨cells2, hR2, hC2⟩ := hb
  obtain ⟨ao, cap, rfl, _⟩ := hR.shape
  obtain ⟨bo, cap2, rfl, _⟩ := hR2.shape
  by_cases hlen : a.length = b.length
  · have h1 : ((a.length : Int) != (b.length : Int)) = false := by simp [hlen]
    have HL := Lib.hid hn; have HLE := Lib.hid hlen; have HV := Lib.hid hv
    clear hlen hn hv
    go_enter Try.func38, Try.ntmps38
    go_wp2_with fail
    go_loopw [5] (fun x wr => SamePRel a.length a b w x wr) (fun x _ => a.length - (intOf x).toNat)
    case atStart => exact ⟨0, rfl, Nat.zero_le _, Upd.refl _ _, by simp⟩
    case round =>
      obtain ⟨i, rfl, hi, hU, htk⟩ := hrel
      have hlen := HLE.out
      have hll := HL.out
      by_cases hlt : i < a.length
      · have htt : decide ((i : Int) < (a.length : Int)) = true := by simp; omega
        obtain ⟨p, hp⟩ : ∃ p, a[i]? = some p := ⟨_, List.getElem?_eq_getElem hlt⟩
        obtain ⟨q, hq⟩ : ∃ q, b[i]? = some q := ⟨_, List.getElem?_eq_getElem (by omega)⟩
        obtain ⟨pv, g0, g1, hpv⟩ := hC.get hp
        obtain ⟨qv, k0, k1, hqv⟩ := hC2.get hq
        obtain ⟨b1, o1, rfl, hc1⟩ := hR.x.at (by have := hR.1; omega)
        obtain ⟨b2, o2, rfl, hc2⟩ := hR2.x.at (by have := hR2.1; omega)
        obtain ⟨aq, cq, hsq⟩ := By.val hpv
        subst hsq
        obtain ⟨aq2, cq2, hsq2⟩ := By.val hqv
        subst hsq2
        have d1 := hU.cell (hc1 (i * 2 + 0) _ g0) (by simp)
        have d2 := hU.cell (hc1 (i * 2 + 1) _ g1) (by simp)
        have d3 := hU.cell (hc2 (i * 2 + 0) _ k0) (by simp)
        have d4 := hU.cell (hc2 (i * 2 + 1) _ k1) (by simp)
        rw [Nat.add_zero] at d1 d3
        rw [← Nat.add_assoc] at d2 d4
        have hUd := hU.trans0 (Upd.drew [] wr)
        have i0 : (0 : Int) ≤ (i : Int) := by omega
        have i1 : (i : Int) < (a.length : Int) := by omega
        have i2 : (i : Int) < (b.length : Int) := by omega
        have HTK := Lib.hid htk
        have hcall := ref_Same wr.drew _ _ p.2 q.2 (hpv.x.upd0 hUd) (hqv.x.upd0 hUd) (HV.out p (List.mem_of_getElem? hp))
        clear hlen hc1 hc2 htk
        by_cases hpq : p.1 = q.1
        · have hne : (!p.1 == q.1) = false := by simp [hpq]
          by_cases hpq2 : p.2 = q.2
          · rw [decide_eq_true hpq2] at hcall
            have HR := Lib.hid (fun w2 (h : Upd [] wr.drew w2) => show SamePRel a.length a b w (.int .i64 ((i : Int) + 1)) w2 from ⟨i + 1, by simp, hlt, hUd.trans0 h, by
              rw [List.take_add_one, List.take_add_one, HTK.out, hp, hq, show p = q from Prod.ext hpq hpq2]⟩)
            clear hpq hpq2 hp hq
            go_wp2_with fail
            go_region_held3 (fun W => W.cell? ⟨b1, o1 + i * 2, none⟩ = some (encS p.1) ∧ W.cell? ⟨b1, o1 + i * 2 + 1, none⟩ = some (.slice aq p.2.length cq) ∧ W.cell? ⟨b2, o2 + i * 2, none⟩ = some (encS q.1) ∧ W.cell? ⟨b2, o2 + i * 2 + 1, none⟩ = some (.slice aq2 q.2.length cq2))
              (first | exact ⟨d1, d2, d3, d4⟩ | exact ⟨hU9.cell d1 (by simp), hU9.cell d2 (by simp), hU9.cell d3 (by simp), hU9.cell d4 (by simp)⟩ | go_keep)
              ((go_at_call 17; refine hcall.mono ?_; rintro e w9 ⟨rfl, hU9⟩))
            go_wp2_with fail
            exact ⟨HR.out _ hU9, by simp [intOf]; omega⟩
          · rw [decide_eq_false hpq2] at hcall
            have hab : decide (a = b) = false := by simp; intro e; subst e; rw [hp] at hq; exact hpq2 (by injection hq with h; rw [h])
            clear hpq hpq2 hp hq
            go_wp2_with fail
            go_region_held3 (fun W => W.cell? ⟨b1, o1 + i * 2, none⟩ = some (encS p.1) ∧ W.cell? ⟨b1, o1 + i * 2 + 1, none⟩ = some (.slice aq p.2.length cq) ∧ W.cell? ⟨b2, o2 + i * 2, none⟩ = some (encS q.1) ∧ W.cell? ⟨b2, o2 + i * 2 + 1, none⟩ = some (.slice aq2 q.2.length cq2))
              (first | exact ⟨d1, d2, d3, d4⟩ | exact ⟨hU9.cell d1 (by simp), hU9.cell d2 (by simp), hU9.cell d3 (by simp), hU9.cell d4 (by simp)⟩ | go_keep)
              ((go_at_call 17; refine hcall.mono ?_; rintro e w9 ⟨rfl, hU9⟩))
            go_wp2_with fail
            go_ret
            exact ⟨by rw [hab]; rfl, hUd.trans0 hU9⟩
        · have hne : (!p.1 == q.1) = true := by simp [hpq]
          have hab : decide (a = b) = false := by simp; intro e; subst e; rw [hp] at hq; exact hpq (by injection hq with h; rw [h])
          have hS0 : wr.drew.cell? ⟨b1, o1 + i * 2, none⟩ = some (encS p.1) ∧ wr.drew.cell? ⟨b2, o2 + i * 2, none⟩ = some (encS q.1) := ⟨d1, d3⟩
          clear hpq hp hq
          go_wp2_with fail
          refine wp_region_H (fun W => W.cell? ⟨b1, o1 + i * 2, none⟩ = some (encS p.1) ∧ W.cell? ⟨b2, o2 + i * 2, none⟩ = some (encS q.1)) (by kernel_rfl) ?_
          (refine wpAnyH_takeO (i := 0) (dst := (some 17)) (op := (Go.Op.move (Go.Operand.tmp 0))) (v := ?_) (by rfl) (by kernel_rfl) (by kernel_rfl) (by kernel_rfl) (fun _ _ _ h => h) ?_ hS0 ?_; rotate_left; (focus (intro _ _ _ W HW; (try dsimp only at HW); go_simp; (try with_reducible rfl))); (try simp only [Act.put, List.setIfInBounds_toArray, List.set_cons_zero, List.set_cons_succ]))
          (refine wpAnyH_takeO (i := 1) (dst := (some 18)) (op := (Go.Op.move (Go.Operand.tmp 5))) (v := ?_) (by rfl) (by kernel_rfl) (by kernel_rfl) (by kernel_rfl) (fun _ _ _ h => h) ?_ hS0 ?_; rotate_left; (focus (intro _ _ _ W HW; (try dsimp only at HW); go_simp; (try with_reducible rfl))); (try simp only [Act.put, List.setIfInBounds_toArray, List.set_cons_zero, List.set_cons_succ]))
          (refine wpAnyH_takeO (i := 2) (dst := (some 19)) (op := (Go.Op.indexAddr 33 (Go.Operand.tmp 17) (Go.Operand.tmp 18))) (v := ?_) (by rfl) (by kernel_rfl) (by kernel_rfl) (by kernel_rfl) (fun _ _ _ h => h) ?_ hS0 ?_; rotate_left; (focus (intro _ _ _ W HW; (try dsimp only at HW); go_simp; (try with_reducible rfl))); (try simp only [Act.put, List.setIfInBounds_toArray, List.set_cons_zero, List.set_cons_succ]))
          (refine wpAnyH_takeO (i := 3) (dst := (some 20)) (op := (Go.Op.fieldAddr 46 (Go.Operand.tmp 19) 0)) (v := ?_) (by rfl) (by kernel_rfl) (by kernel_rfl) (by kernel_rfl) (fun _ _ _ h => h) ?_ hS0 ?_; rotate_left; (focus (intro _ _ _ W HW; (try dsimp only at HW); go_simp; (try with_reducible rfl))); (try simp only [Act.put, List.setIfInBounds_toArray, List.set_cons_zero, List.set_cons_succ]))
          (refine wpAnyH_takeO (i := 4) (dst := (some 21)) (op := (Go.Op.load 9 (Go.Operand.tmp 20))) (v := ?_) (by rfl) (by kernel_rfl) (by kernel_rfl) (by kernel_rfl) (fun _ _ _ h => h) ?_ hS0 ?_; rotate_left; (focus (intro _ _ _ W HW; (try dsimp only at HW); go_simp; (try with_reducible rfl))); (try simp only [Act.put, List.setIfInBounds_toArray, List.set_cons_zero, List.set_cons_succ]))
          (refine wpAnyH_takeO (i := 5) (dst := (some 22)) (op := (Go.Op.move (Go.Operand.tmp 1))) (v := ?_) (by rfl) (by kernel_rfl) (by kernel_rfl) (by kernel_rfl) (fun _ _ _ h => h) ?_ hS0 ?_; rotate_left; (focus (intro _ _ _ W HW; (try dsimp only at HW); go_simp; (try with_reducible rfl))); (try simp only [Act.put, List.setIfInBounds_toArray, List.set_cons_zero, List.set_cons_succ]))
          (refine wpAnyH_takeO (i := 6) (dst := (some 23)) (op := (Go.Op.move (Go.Operand.tmp 5))) (v := ?_) (by rfl) (by kernel_rfl) (by kernel_rfl) (by kernel_rfl) (fun _ _ _ h => h) ?_ hS0 ?_; rotate_left; (focus (intro _ _ _ W HW; (try dsimp only at HW); go_simp; (try with_reducible rfl))); (try simp only [Act.put, List.setIfInBounds_toArray, List.set_cons_zero, List.set_cons_succ]))
          (refine wpAnyH_takeO (i := 7) (dst := (some 24)) (op := (Go.Op.indexAddr 33 (Go.Operand.tmp 22) (Go.Operand.tmp 23))) (v := ?_) (by rfl) (by kernel_rfl) (by kernel_rfl) (by kernel_rfl) (fun _ _ _ h => h) ?_ hS0 ?_; rotate_left; (focus (intro _ _ _ W HW; (try dsimp only at HW); go_simp; (try with_reducible rfl))); (try simp only [Act.put, List.setIfInBounds_toArray, List.set_cons_zero, List.set_cons_succ]))
          (refine wpAnyH_takeO (i := 8) (dst := (some 25)) (op := (Go.Op.fieldAddr 46 (Go.Operand.tmp 24) 0)) (v := ?_) (by rfl) (by kernel_rfl) (by kernel_rfl) (by kernel_rfl) (fun _ _ _ h => h) ?_ hS0 ?_; rotate_left; (focus (intro _ _ _ W HW; (try dsimp only at HW); go_simp; (try with_reducible rfl))); (try simp only [Act.put, List.setIfInBounds_toArray, List.set_cons_zero, List.set_cons_succ]))
          (refine wpAnyH_takeO (i := 9) (dst := (some 26)) (op := (Go.Op.load 9 (Go.Operand.tmp 25))) (v := ?_) (by rfl) (by kernel_rfl) (by kernel_rfl) (by kernel_rfl) (fun _ _ _ h => h) ?_ hS0 ?_; rotate_left; (focus (intro _ _ _ W HW; (try dsimp only at HW); go_simp; (try with_reducible rfl))); (try simp only [Act.put, List.setIfInBounds_toArray, List.set_cons_zero, List.set_cons_succ]))
          (refine wpAnyH_takeO (i := 10) (dst := (some 27)) (op := (Go.Op.binOp Go.BinOp.neq 9 (Go.Operand.tmp 21) (Go.Operand.tmp 26) 9)) (v := ?_) (by rfl) (by kernel_rfl) (by kernel_rfl) (by kernel_rfl) (fun _ _ _ h => h) ?_ hS0 ?_; rotate_left; (focus (intro _ _ _ W HW; (try dsimp only at HW); go_simp; (try with_reducible rfl))); (try simp only [Act.put, List.setIfInBounds_toArray, List.set_cons_zero, List.set_cons_succ]))
          (refine wpAnyH_takeO (i := 11) (dst := (some 28)) (op := (Go.Op.move (Go.Operand.tmp 27))) (v := ?_) (by rfl) (by kernel_rfl) (by kernel_rfl) (by kernel_rfl) (fun _ _ _ h => h) ?_ hS0 ?_; rotate_left; (focus (intro _ _ _ W HW; (try dsimp only at HW); go_simp; (try with_reducible rfl))); (try simp only [Act.put, List.setIfInBounds_toArray, List.set_cons_zero, List.set_cons_succ]))
          (refine wpAnyH_takeU (i := 12) (dst := (some 29)) (op := (Go.Op.move (Go.Operand.tmp 0))) (by rfl) (by kernel_rfl) (by kernel_rfl) (by kernel_rfl) (b' := true) (by rfl) (by rfl) (fun _ _ _ h => h) hS0 ?_; (try simp only [Act.put, List.setIfInBounds_toArray, List.set_cons_zero, List.set_cons_succ]))
          (refine wpAnyH_takeU (i := 13) (dst := (some 30)) (op := (Go.Op.move (Go.Operand.tmp 5))) (by rfl) (by kernel_rfl) (by kernel_rfl) (by kernel_rfl) (b' := true) (by rfl) (by rfl) (fun _ _ _ h => h) hS0 ?_; (try simp only [Act.put, List.setIfInBounds_toArray, List.set_cons_zero, List.set_cons_succ]))
          (refine wpAnyH_takeU (i := 14) (dst := (some 31)) (op := (Go.Op.indexAddr 33 (Go.Operand.tmp 29) (Go.Operand.tmp 30))) (by rfl) (by kernel_rfl) (by kernel_rfl) (by kernel_rfl) (b' := true) (by rfl) (by rfl) (fun _ _ _ h => h) hS0 ?_; (try simp only [Act.put, List.setIfInBounds_toArray, List.set_cons_zero, List.set_cons_succ]))
          (refine wpAnyH_takeU (i := 15) (dst := (some 32)) (op := (Go.Op.fieldAddr 46 (Go.Operand.tmp 31) 1)) (by rfl) (by kernel_rfl) (by kernel_rfl) (by kernel_rfl) (b' := true) (by rfl) (by rfl) (fun _ _ _ h => h) hS0 ?_; (try simp only [Act.put, List.setIfInBounds_toArray, List.set_cons_zero, List.set_cons_succ]))
          (refine wpAnyH_takeU (i := 16) (dst := (some 33)) (op := (Go.Op.load 41 (Go.Operand.tmp 32))) (by rfl) (by kernel_rfl) (by kernel_rfl) (by kernel_rfl) (b' := true) (by rfl) (by rfl) (fun _ _ _ h => h) hS0 ?_; (try simp only [Act.put, List.setIfInBounds_toArray, List.set_cons_zero, List.set_cons_succ]))
          (refine wpAnyH_takeU (i := 17) (dst := (some 34)) (op := (Go.Op.move (Go.Operand.tmp 1))) (by rfl) (by kernel_rfl) (by kernel_rfl) (by kernel_rfl) (b' := true) (by rfl) (by rfl) (fun _ _ _ h => h) hS0 ?_; (try simp only [Act.put, List.setIfInBounds_toArray, List.set_cons_zero, List.set_cons_succ]))
          (refine wpAnyH_takeU (i := 18) (dst := (some 35)) (op := (Go.Op.move (Go.Operand.tmp 5))) (by rfl) (by kernel_rfl) (by kernel_rfl) (by kernel_rfl) (b' := true) (by rfl) (by rfl) (fun _ _ _ h => h) hS0 ?_; (try simp only [Act.put, List.setIfInBounds_toArray, List.set_cons_zero, List.set_cons_succ]))
          (refine wpAnyH_takeU (i := 19) (dst := (some 36)) (op := (Go.Op.indexAddr 33 (Go.Operand.tmp 34) (Go.Operand.tmp 35))) (by rfl) (by kernel_rfl) (by kernel_rfl) (by kernel_rfl) (b' := true) (by rfl) (by rfl) (fun _ _ _ h => h) hS0 ?_; (try simp only [Act.put, List.setIfInBounds_toArray, List.set_cons_zero, List.set_cons_succ]))
          (refine wpAnyH_takeU (i := 20) (dst := (some 37)) (op := (Go.Op.fieldAddr 46 (Go.Operand.tmp 36) 1)) (by rfl) (by kernel_rfl) (by kernel_rfl) (by kernel_rfl) (b' := true) (by rfl) (by rfl) (fun _ _ _ h => h) hS0 ?_; (try simp only [Act.put, List.setIfInBounds_toArray, List.set_cons_zero, List.set_cons_succ]))
          (refine wpAnyH_takeU (i := 21) (dst := (some 38)) (op := (Go.Op.load 41 (Go.Operand.tmp 37))) (by rfl) (by kernel_rfl) (by kernel_rfl) (by kernel_rfl) (b' := true) (by rfl) (by rfl) (fun _ _ _ h => h) hS0 ?_; (try simp only [Act.put, List.setIfInBounds_toArray, List.set_cons_zero, List.set_cons_succ]))
          (refine wpAnyH_takeU (i := 22) (dst := (some 39)) (op := (Go.Op.call { callee := (Go.Callee.value (Go.Operand.func 17)), args := #[(Go.Operand.tmp 33), (Go.Operand.tmp 38)], argTypes := #[41, 41] })) (by rfl) (by kernel_rfl) (by kernel_rfl) (by kernel_rfl) (b' := true) (by rfl) (by rfl) (fun _ _ _ h => h) hS0 ?_; (try simp only [Act.put, List.setIfInBounds_toArray, List.set_cons_zero, List.set_cons_succ]))
          (refine wpAnyH_takeU (i := 23) (dst := (some 40)) (op := (Go.Op.unOp Go.UnOp.not 4 (Go.Operand.tmp 39))) (by rfl) (by kernel_rfl) (by kernel_rfl) (by kernel_rfl) (b' := true) (by rfl) (by rfl) (fun _ _ _ h => h) hS0 ?_; (try simp only [Act.put, List.setIfInBounds_toArray, List.set_cons_zero, List.set_cons_succ]))
          (refine wpAnyH_takeO (i := 24) (dst := (some 41)) (op := (Go.Op.pick (Go.Operand.tmp 28) (Go.Operand.const (Go.Value.bool true)) (Go.Operand.tmp 40))) (v := ?_) (by rfl) (by kernel_rfl) (by kernel_rfl) (by kernel_rfl) (fun _ _ _ h => h) ?_ hS0 ?_; rotate_left; (focus (intro _ _ _ W HW; (try dsimp only at HW); go_simp; (try with_reducible rfl))); (try simp only [Act.put, List.setIfInBounds_toArray, List.set_cons_zero, List.set_cons_succ]))
          refine wpAnyH_done (by kernel_rfl) ?_ _
          go_wp2_with fail
          go_ret
          exact ⟨by rw [hab]; rfl, hUd⟩
      · have htt : decide ((i : Int) < (a.length : Int)) = false := by simp; omega
        have hie : i = a.length := by omega
        go_wp2_with fail
        go_ret
        rw [hie, List.take_length, hlen, List.take_length] at htk
        exact ⟨by rw [decide_eq_true htk]; rfl, hU⟩
  · have h1 : ((a.length : Int) != (b.length : Int)) = true := by simp; omega
    have h2 : decide (a = b) = false := by simp; intro h; exact hlen (by rw [h])
    go_enter Try.func38, Try.ntmps38
    go_wp2_with fail
    go_ret
    exact ⟨by rw [h2]; rfl, Upd.refl _ _⟩
end Go.Proofs.Ythfbfdkjgkkpcaa
