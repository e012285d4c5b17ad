/-
  The walk of the document's Do.
-/
import Derived.Test.YthfbfdkjgkkpcaaToDo
namespace Go.Proofs.Ythfbfdkjgkkpcaa
open Go Go.RowKit

section
variable {ops : Array Oper} {Q : Exit → Act → World → Prop} {a : Act} {w : World} {rest : List Oper} {o : Oper}
theorem wpl_append_pr (hw : Region.wanted o (yielded ops a.tmps) = true) {s x : Operand} (ho : o.op = .call { callee := .builtin .append, args := #[s, x], argTypes := #[33, 33] })
    {w0 : World} (hU : Upd [] w0 w) {v y pv : Value} {l : List (List UInt8 × List UInt8)} {p : List UInt8 × List UInt8} (hown : OwnPrs w w0.heap.size v l) (hs : a.eval s = v) (hR : Rd w 46 2 y 1 [encS p.1, pv]) (hx : a.eval x = y) (hpv : By w pv p.2) (hb : l.length + 1 ≤ 1000000001)
    (hK : ∀ v' w', OwnPrs w' w0.heap.size v' (l ++ [p]) → Upd [] w0 w' → wpList Try.prog ops Q rest (a.put o.dst v') w') : wpList Try.prog ops Q (o :: rest) a w := by
  obtain ⟨v', w', r1, r2, r3, r4⟩ := app_pr hU hown hR hpv hb o.type
  exact wpl_run hw (v := v') (w' := w') (by simp [execOp, ho, resolve, invoke, builtin, hs, hx, r1, Result.andThen]) (hK v' w' r2 r4)
end
theorem fdel_append {k : List UInt8} (a b : List (List UInt8 × List UInt8)) : fdel k (a ++ b) = fdel k a ++ fdel k b := by
  rw [fdel_eq_filter, fdel_eq_filter, fdel_eq_filter, List.filter_append]
theorem drop_take_snoc {m : List (List UInt8 × List UInt8)} {n k : Nat} {p : List UInt8 × List UInt8} (h : n ≤ k) (hp : m[k]? = some p) : (m.drop n).take (k + 1 - n) = (m.drop n).take (k - n) ++ [p] := by
  rw [show k + 1 - n = k - n + 1 from by omega, List.take_add_one, List.getElem?_drop, show n + (k - n) = k from by omega, hp]
  rfl
def DoRel (w : World) (l : List (List UInt8 × List UInt8)) (cs : List TChg) (x v : Value) (wr : World) : Prop := ∃ i : Nat, x = .int .i64 i ∧ i ≤ cs.length ∧ Prs wr v (tdo l (cs.take i)) ∧ Upd [] w wr
def CopyRel (w1 : World) (m : List (List UInt8 × List UInt8)) (n : Nat) (x v : Value) (wr : World) : Prop := ∃ k : Nat, x = .int .i64 k ∧ k ≤ n ∧ OwnPrs wr w1.heap.size v (m.take k) ∧ Upd [] w1 wr
def RestRel (w1 : World) (pre m : List (List UInt8 × List UInt8)) (key : List UInt8) (n : Nat) (x v : Value) (wr : World) : Prop :=
  ∃ k : Nat, x = .int .i64 k ∧ n ≤ k ∧ k ≤ m.length ∧ OwnPrs wr w1.heap.size v (pre ++ fdel key ((m.drop n).take (k - n))) ∧ Upd [] w1 wr
/-- What the second inner loop comes to. -/
theorem rest_done {m : List (List UInt8 × List UInt8)} (hS : Srt m) (c : TChg) : (m.take (pfind c.key m) ++ (if c.gone then [] else [(c.key, c.val)])) ++ fdel c.key ((m.drop (pfind c.key m)).take (m.length - pfind c.key m)) = tdo1 m c := by
  rw [← pdo1_eq hS, List.take_of_length_le (l := m.drop (pfind c.key m)) (by simp)]
  rfl

set_option maxRecDepth 100000 in
set_option maxHeartbeats 2000000 in
theorem ref_Do (w : World) (lv cv : Value) (l : List (List UInt8 × List UInt8)) (cs : List TChg) (hl : Prs w lv l) (hc : RChgs w cv cs) (hS : Srt l) (hn : l.length + cs.length ≤ 1000000000) (hv : ∀ c ∈ cs, c.val.length ≤ 1000000000) :
    Calls Try.prog 12 #[lv, cv] w fun e w' => ∃ v, e = .returned v ∧ Prs w' v (tdo l cs) ∧ Upd [] w w' := by
  obtain ⟨cells, hR, hC⟩ := hc
  obtain ⟨ao, cap, rfl, _⟩ := hR.shape
  have HV := Lib.hid hv; have HN := Lib.hid hn; have HS := Lib.hid hS; have HL := Lib.hid hl
  clear hv hn hS hl
  go_enter Try.func12, Try.ntmps12
  go_wp2_with fail
  go_loopw [5, 0] (fun x v wr => DoRel w l cs x v wr) (fun x _ _ => cs.length - (intOf x).toNat)
  case atStart => exact ⟨0, rfl, Nat.zero_le _, HL.out, Upd.refl _ _⟩
  case round =>
    obtain ⟨i, rfl, hi, hPm, hU⟩ := hrel
    obtain ⟨w1, rfl⟩ : ∃ w1, w1 = wr := ⟨wr, rfl⟩
    have hll := HN.out
    by_cases hlt : i < cs.length
    · have htt : decide ((i : Int) < (cs.length : Int)) = true := by simp; omega
      obtain ⟨c, hci⟩ : ∃ c, cs[i]? = some c := ⟨_, List.getElem?_eq_getElem hlt⟩
      obtain ⟨pv, c0, c1, c2, hpv⟩ := hC.get hci
      have hml : (tdo l (cs.take i)).length ≤ 1000000000 := by
        have := tdo_length (cs.take i) l
        simp at this; omega
      have hSm : Srt (tdo l (cs.take i)) := Srt.tdo HS.out _
      have hnext := tdo_take_succ l cs i c hci
      generalize hm : tdo l (cs.take i) = m at *
      have hcv := HV.out c (List.mem_of_getElem? hci)
      have hfind := ref_Find w1 u0 m hPm c.key hml
      have hRr : Rdx w1 3 (.slice ao cs.length cap) cs.length cells := hR.upd0 hU
      have hpr : ByX w1 pv c.val := hpv.upd0 hU
      have hple := pfind_le c.key m
      have HD := Lib.hid (rest_done hSm c)
      have HNX := Lib.hid hnext
      obtain ⟨mcells, hmR, hmC⟩ := hPm
      obtain ⟨mo, mcap, hms, _⟩ := hmR.shape
      subst hms
      obtain ⟨ap, cp, hsp, _⟩ := hpr.shape
      subst hsp
      generalize hat : pfind c.key m = n at *
      have HAT := Lib.hid hat
      clear hm hat hnext hSm hi
      go_wp2_with (first
        | ((with_reducible show wpList _ _ _ (⟨_, .indexAddr _ _ _, _, _, _, _⟩ :: _) _ _); refine wpl_indexAddrX elRChg rfl rfl hRr rfl rfl (by omega) (by omega) ?_; intro ad hcell hspot; (have k0 := hcell 0 (by omega)); (have k1 := hcell 1 (by omega)); (have k2 := hcell 2 (by omega)); rw [Int.toNat_natCast, c0] at k0; rw [Int.toNat_natCast, c1] at k1; rw [Int.toNat_natCast, c2] at k2; clear hcell; obtain ⟨gb, gof, gs⟩ := ad; cases hspot; simp only [Addr.add_lit, Nat.add_zero] at k0 k1 k2)
        | (go_at_call 16; refine hfind.mono ?_; rintro e w9 ⟨rfl, rfl⟩))
      go_loopw [8, 7] (fun x v W => CopyRel w1 m n x v W) (fun x _ _ => n - (intOf x).toNat)
      case atStart => exact ⟨0, rfl, Nat.zero_le _, OwnPrs.nil _ _, Upd.refl _ _⟩
      case round =>
        obtain ⟨k, rfl, hk, hown, hU1⟩ := hrel
        by_cases hkn : k < n
        · have htk : decide ((k : Int) < (n : Int)) = true := by simp; omega
          obtain ⟨p, hp⟩ : ∃ p, m[k]? = some p := ⟨_, List.getElem?_eq_getElem (by omega)⟩
          obtain ⟨qv, g0, g1, hqv⟩ := hmC.get hp
          have hmRr := hmR.upd0 hU1
          obtain ⟨aq, cq, hsq⟩ := By.val hqv
          subst hsq
          have HTK := Lib.hid (show m.take (k + 1) = m.take k ++ [p] by rw [List.take_add_one, hp]; rfl)
          have hlk : (m.take k).length + 1 ≤ 1000000001 := by simp; omega
          have HLK := Lib.hid hlk
          have hqr := hqv.upd0 hU1
          clear hlk
          go_wp2_with (first
            | ((with_reducible show wpList _ _ _ (⟨_, .indexAddr _ _ _, _, _, _, _⟩ :: _) _ _); refine wpl_indexAddr elPair rfl rfl hmRr rfl rfl (by omega) (by omega) ?_; intro ad hcell hspot; (have k0 := hcell 0 (by omega)); (have k1 := hcell 1 (by omega)); rw [Int.toNat_natCast, g0] at k0; rw [Int.toNat_natCast, g1] at k1; clear hcell; obtain ⟨gb, gof, gs⟩ := ad; cases hspot; simp only [Addr.add_lit, Nat.add_zero] at k0 k1)
            | ((with_reducible show wpList _ _ _ (⟨_, .buildSlice _ _ _, _, _, _, _⟩ :: _) _ _); refine wpl_lit elPair rfl rfl rfl (cs := [encS p.1, .slice aq p.2.length cq]) rfl rfl (by omega) ?_; intro v5 w5 hv5 hU5 _)
            | ((with_reducible show wpList _ _ _ (⟨_, .call ⟨.builtin .append, _, _⟩, _, _, _, _⟩ :: _) _ _); refine wpl_append_pr rfl rfl (hU1.trans0 hU5) (hown.upd0 hU5) rfl (Rd.of_own hv5) rfl (hqr.upd0 hU5) HLK.out ?_; intro v6 w6 hv6 hU6))
          exact ⟨⟨k + 1, by simp, hkn, by rw [HTK.out]; exact hv6, hU6⟩, by simp [intOf]; omega⟩
        · have htk : decide ((k : Int) < (n : Int)) = false := by simp; omega
          have hke : k = n := by omega
          subst hke
          obtain ⟨b2, o2, rfl, hc2⟩ := hR.at (by have := hR.1; omega)
          have j0 : (0 : Int) ≤ (i : Int) := by omega
          have j1 : (i : Int) < (cs.length : Int) := by omega
          have e0 := hc2 (i * 3 + 0) _ c0
          have e2 := hc2 (i * 3 + 2) _ c2
          rw [Nat.add_zero] at e0
          rw [← Nat.add_assoc] at e2
          cases hg : c.gone with
          | true =>
            have HPL := Lib.hid (show (m.take k ++ (if c.gone then [] else [(c.key, c.val)])).length ≤ k + 1 from by rw [hg]; simp; omega)
            rw [hg] at c1
            have HPRE := Lib.hid (show OwnPrs wr w1.heap.size u7 (m.take k ++ (if c.gone then [] else [(c.key, c.val)])) from by rw [hg]; simpa using hown)
            generalize hpre : m.take k ++ (if c.gone then [] else [(c.key, c.val)]) = pre at *
            obtain ⟨w2, rfl⟩ : ∃ w2, w2 = wr := ⟨wr, rfl⟩
            go_wp2_with ((with_reducible show wpList _ _ _ (⟨_, .indexAddr _ _ _, _, _, _, _⟩ :: _) _ _); refine wpl_indexAddrX elRChg rfl rfl (hRr.upd0 hU1) rfl rfl (by omega) (by omega) ?_; intro ad hcell hspot; (have k0 := hcell 0 (by omega)); (have k1 := hcell 1 (by omega)); (have k2 := hcell 2 (by omega)); rw [Int.toNat_natCast, c0] at k0; rw [Int.toNat_natCast, c1] at k1; rw [Int.toNat_natCast, c2] at k2; clear hcell; obtain ⟨gb, gof, gs⟩ := ad; cases hspot; simp only [Addr.add_lit, Nat.add_zero] at k0 k1 k2)
            go_loopw [9, 7] (fun x v W => RestRel w1 pre m c.key k x v W) (fun x _ _ => m.length - (intOf x).toNat)
            case atStart => exact ⟨k, rfl, Nat.le_refl _, hple, by rw [Nat.sub_self]; simpa [fdel] using HPRE.out, hU1⟩
            case round =>
              obtain ⟨j, rfl, hnj, hj, hown2, hU2⟩ := hrel
              have HU9 := Lib.hid (hU.trans0 hU2)
              by_cases hjl : j < m.length
              · have htj : decide ((j : Int) < (m.length : Int)) = true := by simp; omega
                obtain ⟨p, hp⟩ : ∃ p, m[j]? = some p := ⟨_, List.getElem?_eq_getElem hjl⟩
                obtain ⟨qv, g0, g1, hqv⟩ := hmC.get hp
                obtain ⟨b1, o1, rfl, hc1⟩ := hmR.x.at (by have := hmR.1; omega)
                have i0 : (0 : Int) ≤ (j : Int) := by omega
                have i1 : (j : Int) < (m.length : Int) := by omega
                have d1 := hU2.cell (hc1 (j * 2 + 0) _ g0) (by simp)
                have d2 := HU9.out.cell e0 (by simp)
                rw [Nat.add_zero] at d1
                have hsn := drop_take_snoc hnj hp
                by_cases hpk : p.1 = c.key
                · have hne : (!p.1 == c.key) = false := by simp [hpk]
                  have hR9 := Lib.hid (show RestRel w1 pre m c.key k (.int .i64 ((j : Int) + 1)) u7 wr.drew from ⟨j + 1, by simp, by omega, hjl, by
                    rw [hsn, fdel_append, show fdel c.key [p] = [] from by simp [fdel, hpk], List.append_nil]
                    exact hown2.upd0 (Upd.drew [] _), hU2.trans0 (Upd.drew [] _)⟩)
                  clear hpk hsn hc1 hc2 hp hown2
                  go_wp2_with fail
                  go_region_held3 (fun W => W.cell? ⟨b1, o1 + j * 2, none⟩ = some (encS p.1) ∧ W.cell? ⟨b2, o2 + i * 3, none⟩ = some (encS c.key)) (first | exact ⟨d1, d2⟩ | go_keep) (fail)
                  go_wp2_with fail
                  exact ⟨hR9.out, by simp [intOf]; omega⟩
                · have hne : (!p.1 == c.key) = true := by simp [hpk]
                  obtain ⟨aq, cq, hsq⟩ := By.val hqv
                  subst hsq
                  have hlk : (pre ++ fdel c.key ((m.drop k).take (j - k))).length + 1 ≤ 1000000001 := by
                    have h1 : (fdel c.key ((m.drop k).take (j - k))).length ≤ j - k := by
                      rw [fdel_eq_filter]
                      exact Nat.le_trans (List.length_filter_le _ _) (by simp; omega)
                    have h2 : pre.length ≤ k + 1 := HPL.out
                    rw [List.length_append]
                    omega
                  have HLK := Lib.hid hlk
                  have HSN := Lib.hid (show pre ++ fdel c.key ((m.drop k).take (j + 1 - k)) = pre ++ fdel c.key ((m.drop k).take (j - k)) ++ [p] from by
                    rw [hsn, fdel_append, show fdel c.key [p] = [p] from by simp [fdel, hpk], List.append_assoc])
                  have hmRr := hmR.upd0 (hU2.trans0 (Upd.drew [] wr))
                  have hqr := hqv.upd0 (hU2.trans0 (Upd.drew [] wr))
                  have hown3 := hown2.upd0 (Upd.drew [] wr)
                  have hU3 := hU2.trans0 (Upd.drew [] wr)
                  clear hlk hpk hsn hc1 hc2 hp hown2
                  go_wp2_with fail
                  go_region_held3 (fun W => W.cell? ⟨b1, o1 + j * 2, none⟩ = some (encS p.1) ∧ W.cell? ⟨b2, o2 + i * 3, none⟩ = some (encS c.key)) (first | exact ⟨d1, d2⟩ | go_keep) (fail)
                  go_wp2_with (first
                    | ((with_reducible show wpList _ _ _ (⟨_, .indexAddr _ _ _, _, _, _, _⟩ :: _) _ _); refine wpl_indexAddr elPair rfl rfl hmRr rfl rfl (by omega) (by omega) ?_; intro ad hcell hspot; (have k0 := hcell 0 (by omega)); (have k1 := hcell 1 (by omega)); rw [Int.toNat_natCast, g0] at k0; rw [Int.toNat_natCast, g1] at k1; clear hcell; obtain ⟨gb, gof, gs⟩ := ad; cases hspot; simp only [Addr.add_lit, Nat.add_zero] at k0 k1)
                    | ((with_reducible show wpList _ _ _ (⟨_, .buildSlice _ _ _, _, _, _, _⟩ :: _) _ _); refine wpl_lit elPair rfl rfl rfl (cs := [encS p.1, .slice aq p.2.length cq]) rfl rfl (by omega) ?_; intro v5 w5 hv5 hU5 _)
                    | ((with_reducible show wpList _ _ _ (⟨_, .call ⟨.builtin .append, _, _⟩, _, _, _, _⟩ :: _) _ _); refine wpl_append_pr rfl rfl (hU3.trans0 hU5) (hown3.upd0 hU5) rfl (Rd.of_own hv5) rfl (hqr.upd0 hU5) HLK.out ?_; intro v6 w6 hv6 hU6))
                  exact ⟨⟨j + 1, by simp, by omega, hjl, by rw [HSN.out]; exact hv6, hU6⟩, by simp [intOf]; omega⟩
              · have htj : decide ((j : Int) < (m.length : Int)) = false := by simp; omega
                have hje : j = m.length := by omega
                have hprs : Prs wr u7 (tdo l (cs.take (i + 1))) := by
                  rw [HNX.out, ← HD.out, ← hje]
                  exact hown2.prs
                have HP9 := Lib.hid hprs
                clear hprs hown2
                go_wp2_with fail
                exact ⟨⟨i + 1, by simp, hlt, HP9.out, HU9.out⟩, by simp [intOf]; omega⟩
          | false =>
            rw [hg] at c1
            have HPL := Lib.hid (show (m.take k ++ (if c.gone then [] else [(c.key, c.val)])).length ≤ k + 1 from by rw [hg]; simp; omega)
            have f0 := hU1.cell (hU.cell e0 (by simp)) (by simp)
            have f2 := hU1.cell (hU.cell e2 (by simp)) (by simp)
            have hlk : (m.take k).length + 1 ≤ 1000000001 := by simp; omega
            have HLK := Lib.hid hlk
            have hUd : Upd [] wr wr.drew := Upd.drew [] _
            have hS0 : wr.drew.cell? ⟨b2, o2 + i * 3, none⟩ = some (encS c.key) ∧ wr.drew.cell? ⟨b2, o2 + i * 3 + 2, none⟩ = some (.slice ap c.val.length cp) := ⟨f0, f2⟩
            clear hlk
            go_wp2_with ((with_reducible show wpList _ _ _ (⟨_, .indexAddr _ _ _, _, _, _, _⟩ :: _) _ _); refine wpl_indexAddrX elRChg rfl rfl (hRr.upd0 hU1) rfl rfl (by omega) (by omega) ?_; intro ad hcell hspot; (have k0 := hcell 0 (by omega)); (have k1 := hcell 1 (by omega)); (have k2 := hcell 2 (by omega)); rw [Int.toNat_natCast, c0] at k0; rw [Int.toNat_natCast, c1] at k1; rw [Int.toNat_natCast, c2] at k2; clear hcell; obtain ⟨gb, gof, gs⟩ := ad; cases hspot; simp only [Addr.add_lit, Nat.add_zero] at k0 k1 k2)
            refine wp_region_noPanic ?_
            refine wp_region_M 15 (fun W => W.cell? ⟨b2, o2 + i * 3, none⟩ = some (encS c.key) ∧ W.cell? ⟨b2, o2 + i * 3 + 2, none⟩ = some (.slice ap c.val.length cp)) (by kernel_rfl) ?_
            (refine wpAnyM_takeO (i := 0) (dst := (some 41)) (op := (Go.Op.move (Go.Operand.tmp 7))) (v := ?_) (by rfl) (by kernel_rfl) (by kernel_rfl) (by kernel_rfl) (by kernel_rfl) (by rfl) (fun _ _ _ h => h) ?_ hS0 ?_; rotate_left; (focus (intro _ _ _ W HW; (try dsimp only at HW); go_simp; (try with_reducible rfl))); (try simp only [Act.put, List.setIfInBounds_toArray, List.set_cons_zero, List.set_cons_succ]))
            (refine wpAnyM_takeO (i := 1) (dst := (some 42)) (op := (Go.Op.move (Go.Operand.tmp 1))) (v := ?_) (by rfl) (by kernel_rfl) (by kernel_rfl) (by kernel_rfl) (by kernel_rfl) (by rfl) (fun _ _ _ h => h) ?_ hS0 ?_; rotate_left; (focus (intro _ _ _ W HW; (try dsimp only at HW); go_simp; (try with_reducible rfl))); (try simp only [Act.put, List.setIfInBounds_toArray, List.set_cons_zero, List.set_cons_succ]))
            (refine wpAnyM_takeO (i := 2) (dst := (some 43)) (op := (Go.Op.move (Go.Operand.tmp 5))) (v := ?_) (by rfl) (by kernel_rfl) (by kernel_rfl) (by kernel_rfl) (by kernel_rfl) (by rfl) (fun _ _ _ h => h) ?_ hS0 ?_; rotate_left; (focus (intro _ _ _ W HW; (try dsimp only at HW); go_simp; (try with_reducible rfl))); (try simp only [Act.put, List.setIfInBounds_toArray, List.set_cons_zero, List.set_cons_succ]))
            (refine wpAnyM_takeO (i := 3) (dst := (some 44)) (op := (Go.Op.indexAddr 22 (Go.Operand.tmp 42) (Go.Operand.tmp 43))) (v := ?_) (by rfl) (by kernel_rfl) (by kernel_rfl) (by kernel_rfl) (by kernel_rfl) (by rfl) (fun _ _ _ h => h) ?_ hS0 ?_; rotate_left; (focus (intro _ _ _ W HW; (try dsimp only at HW); go_simp; (try with_reducible rfl))); (try simp only [Act.put, List.setIfInBounds_toArray, List.set_cons_zero, List.set_cons_succ]))
            (refine wpAnyM_takeO (i := 4) (dst := (some 45)) (op := (Go.Op.fieldAddr 82 (Go.Operand.tmp 44) 0)) (v := ?_) (by rfl) (by kernel_rfl) (by kernel_rfl) (by kernel_rfl) (by kernel_rfl) (by rfl) (fun _ _ _ h => h) ?_ hS0 ?_; rotate_left; (focus (intro _ _ _ W HW; (try dsimp only at HW); go_simp; (try with_reducible rfl))); (try simp only [Act.put, List.setIfInBounds_toArray, List.set_cons_zero, List.set_cons_succ]))
            (refine wpAnyM_takeO (i := 5) (dst := (some 46)) (op := (Go.Op.load 9 (Go.Operand.tmp 45))) (v := ?_) (by rfl) (by kernel_rfl) (by kernel_rfl) (by kernel_rfl) (by kernel_rfl) (by rfl) (fun _ _ _ h => h) ?_ hS0 ?_; rotate_left; (focus (intro _ _ _ W HW; (try dsimp only at HW); go_simp; (try with_reducible rfl))); (try simp only [Act.put, List.setIfInBounds_toArray, List.set_cons_zero, List.set_cons_succ]))
            (refine wpAnyM_takeO (i := 6) (dst := (some 47)) (op := (Go.Op.move (Go.Operand.tmp 1))) (v := ?_) (by rfl) (by kernel_rfl) (by kernel_rfl) (by kernel_rfl) (by kernel_rfl) (by rfl) (fun _ _ _ h => h) ?_ hS0 ?_; rotate_left; (focus (intro _ _ _ W HW; (try dsimp only at HW); go_simp; (try with_reducible rfl))); (try simp only [Act.put, List.setIfInBounds_toArray, List.set_cons_zero, List.set_cons_succ]))
            (refine wpAnyM_takeO (i := 7) (dst := (some 48)) (op := (Go.Op.move (Go.Operand.tmp 5))) (v := ?_) (by rfl) (by kernel_rfl) (by kernel_rfl) (by kernel_rfl) (by kernel_rfl) (by rfl) (fun _ _ _ h => h) ?_ hS0 ?_; rotate_left; (focus (intro _ _ _ W HW; (try dsimp only at HW); go_simp; (try with_reducible rfl))); (try simp only [Act.put, List.setIfInBounds_toArray, List.set_cons_zero, List.set_cons_succ]))
            (refine wpAnyM_takeO (i := 8) (dst := (some 49)) (op := (Go.Op.indexAddr 22 (Go.Operand.tmp 47) (Go.Operand.tmp 48))) (v := ?_) (by rfl) (by kernel_rfl) (by kernel_rfl) (by kernel_rfl) (by kernel_rfl) (by rfl) (fun _ _ _ h => h) ?_ hS0 ?_; rotate_left; (focus (intro _ _ _ W HW; (try dsimp only at HW); go_simp; (try with_reducible rfl))); (try simp only [Act.put, List.setIfInBounds_toArray, List.set_cons_zero, List.set_cons_succ]))
            (refine wpAnyM_takeO (i := 9) (dst := (some 50)) (op := (Go.Op.fieldAddr 82 (Go.Operand.tmp 49) 2)) (v := ?_) (by rfl) (by kernel_rfl) (by kernel_rfl) (by kernel_rfl) (by kernel_rfl) (by rfl) (fun _ _ _ h => h) ?_ hS0 ?_; rotate_left; (focus (intro _ _ _ W HW; (try dsimp only at HW); go_simp; (try with_reducible rfl))); (try simp only [Act.put, List.setIfInBounds_toArray, List.set_cons_zero, List.set_cons_succ]))
            (refine wpAnyM_takeO (i := 10) (dst := (some 51)) (op := (Go.Op.load 41 (Go.Operand.tmp 50))) (v := ?_) (by rfl) (by kernel_rfl) (by kernel_rfl) (by kernel_rfl) (by kernel_rfl) (by rfl) (fun _ _ _ h => h) ?_ hS0 ?_; rotate_left; (focus (intro _ _ _ W HW; (try dsimp only at HW); go_simp; (try with_reducible rfl))); (try simp only [Act.put, List.setIfInBounds_toArray, List.set_cons_zero, List.set_cons_succ]))
            refine wpAnyM_one (i := 11) (by kernel_rfl) ?_
            refine opM_call (i := 11) (dst := (some 52)) (op := (Go.Op.call { callee := (Go.Callee.value (Go.Operand.func 33)), args := #[(Go.Operand.tmp 51)], argTypes := #[41] })) (f := 33) (vs := #[.slice ap c.val.length cp]) (by rfl) (fun _ _ _ => by go_simp) ?_
            refine (ref_Twin _ _ c.val ((hpr.upd0 hU1).upd0 hUd) hcv).mono ?_
            rintro e w2 ⟨v2, rfl, hv2, hU2⟩
            have hS2 : w2.cell? ⟨b2, o2 + i * 3, none⟩ = some (encS c.key) ∧ w2.cell? ⟨b2, o2 + i * 3 + 2, none⟩ = some (.slice ap c.val.length cp) := ⟨hU2.cell hS0.1 (by simp), hU2.cell hS0.2 (by simp)⟩
            refine ⟨v2, rfl, .inr hS2, ?_⟩
            (try simp only [Act.put, List.setIfInBounds_toArray, List.set_cons_zero, List.set_cons_succ])
            obtain ⟨ao2, cap2, hs2⟩ := By.val hv2.by
            subst hs2
            obtain ⟨v3, w3, hr3, hv3, hU3⟩ := lit_row (P := Try.prog) elPair w2 (.agg #[encS c.key, .slice ao2 c.val.length cap2]) (cs := [encS c.key, .slice ao2 c.val.length cap2]) rfl rfl (by omega)
            have hS3 : w3.cell? ⟨b2, o2 + i * 3, none⟩ = some (encS c.key) ∧ w3.cell? ⟨b2, o2 + i * 3 + 2, none⟩ = some (.slice ap c.val.length cp) := ⟨hU3.cell hS2.1 (by simp), hU3.cell hS2.2 (by simp)⟩
            have hU13 := ((hU1.trans0 hUd).trans0 hU2).trans0 hU3
            obtain ⟨v4, w4, hr4, hv4, hU4, hU04⟩ := app_pr (p := (c.key, c.val)) hU13 (((hown.upd0 hUd).upd0 hU2).upd0 hU3) hv3 (hv2.by.upd0 hU3) HLK.out 0
            have hS4 : w4.cell? ⟨b2, o2 + i * 3, none⟩ = some (encS c.key) ∧ w4.cell? ⟨b2, o2 + i * 3 + 2, none⟩ = some (.slice ap c.val.length cp) := ⟨hU04.cell (hU.cell e0 (by simp)) (by simp), hU04.cell (hU.cell e2 (by simp)) (by simp)⟩
            (refine wpAnyM_val (i := 12) (dst := (some 53)) (op := (Go.Op.build 46 #[(0, (Go.Operand.tmp 46)), (1, (Go.Operand.tmp 52))])) (by rfl) (by kernel_rfl) (fun _ _ _ => by go_simp; rfl) (.inr hS2) ?_; (try simp only [Act.put, List.setIfInBounds_toArray, List.set_cons_zero, List.set_cons_succ]))
            (refine wpAnyM_val (i := 13) (dst := (some 54)) (op := (Go.Op.buildSlice 33 1 #[(0, (Go.Operand.tmp 53))])) (by rfl) (by kernel_rfl) (ex_lit hr3 (by rfl)) (.inr hS3) ?_; (try simp only [Act.put, List.setIfInBounds_toArray, List.set_cons_zero, List.set_cons_succ]))
            (refine wpAnyM_val (i := 14) (dst := (some 55)) (op := (Go.Op.call { callee := (Go.Callee.builtin Go.Builtin.append), args := #[(Go.Operand.tmp 41), (Go.Operand.tmp 54)], argTypes := #[33, 33] })) (by rfl) (by kernel_rfl) (ex_append hr4 (by rfl) (by rfl)) (.inr hS4) ?_; (try simp only [Act.put, List.setIfInBounds_toArray, List.set_cons_zero, List.set_cons_succ]))
            (refine wpAnyM_val (i := 15) (dst := (some 7)) (op := (Go.Op.assign (Go.Operand.tmp 55))) (by rfl) (by kernel_rfl) (fun _ _ _ => by go_simp; rfl) (.inr hS4) ?_; (try simp only [Act.put, List.setIfInBounds_toArray, List.set_cons_zero, List.set_cons_succ]))
            refine wpAnyM_done (by kernel_rfl) ?_ _
            refine NoPanic.normal ?_
            have HPRE := Lib.hid (show OwnPrs w4 w1.heap.size v4 (m.take k ++ (if c.gone then [] else [(c.key, c.val)])) from by rw [hg]; simpa using hv4)
            generalize hpre : m.take k ++ (if c.gone then [] else [(c.key, c.val)]) = pre at *
            clear hv4 hr4 hS4 hU4 hS3 hr3 hv3 hU3 hS2 hU2 hv2 hS0 f0 f2 hown
            go_wp2_with fail
            go_loopw [9, 7] (fun x v W => RestRel w1 pre m c.key k x v W) (fun x _ _ => m.length - (intOf x).toNat)
            case atStart => exact ⟨k, rfl, Nat.le_refl _, hple, by rw [Nat.sub_self]; simpa [fdel] using HPRE.out, hU04⟩
            case round =>
              obtain ⟨j, rfl, hnj, hj, hown2, hU2⟩ := hrel
              have HU9 := Lib.hid (hU.trans0 hU2)
              by_cases hjl : j < m.length
              · have htj : decide ((j : Int) < (m.length : Int)) = true := by simp; omega
                obtain ⟨p, hp⟩ : ∃ p, m[j]? = some p := ⟨_, List.getElem?_eq_getElem hjl⟩
                obtain ⟨qv, g0, g1, hqv⟩ := hmC.get hp
                obtain ⟨b1, o1, rfl, hc1⟩ := hmR.x.at (by have := hmR.1; omega)
                have i0 : (0 : Int) ≤ (j : Int) := by omega
                have i1 : (j : Int) < (m.length : Int) := by omega
                have d1 := hU2.cell (hc1 (j * 2 + 0) _ g0) (by simp)
                have d2 := HU9.out.cell e0 (by simp)
                rw [Nat.add_zero] at d1
                have hsn := drop_take_snoc hnj hp
                by_cases hpk : p.1 = c.key
                · have hne : (!p.1 == c.key) = false := by simp [hpk]
                  have hR9 := Lib.hid (show RestRel w1 pre m c.key k (.int .i64 ((j : Int) + 1)) u7 wr.drew from ⟨j + 1, by simp, by omega, hjl, by
                    rw [hsn, fdel_append, show fdel c.key [p] = [] from by simp [fdel, hpk], List.append_nil]
                    exact hown2.upd0 (Upd.drew [] _), hU2.trans0 (Upd.drew [] _)⟩)
                  clear hpk hsn hc1 hc2 hp hown2
                  go_wp2_with fail
                  go_region_held3 (fun W => W.cell? ⟨b1, o1 + j * 2, none⟩ = some (encS p.1) ∧ W.cell? ⟨b2, o2 + i * 3, none⟩ = some (encS c.key)) (first | exact ⟨d1, d2⟩ | go_keep) (fail)
                  go_wp2_with fail
                  exact ⟨hR9.out, by simp [intOf]; omega⟩
                · have hne : (!p.1 == c.key) = true := by simp [hpk]
                  obtain ⟨aq, cq, hsq⟩ := By.val hqv
                  subst hsq
                  have hlk : (pre ++ fdel c.key ((m.drop k).take (j - k))).length + 1 ≤ 1000000001 := by
                    have h1 : (fdel c.key ((m.drop k).take (j - k))).length ≤ j - k := by
                      rw [fdel_eq_filter]
                      exact Nat.le_trans (List.length_filter_le _ _) (by simp; omega)
                    have h2 : pre.length ≤ k + 1 := HPL.out
                    rw [List.length_append]
                    omega
                  have HLK := Lib.hid hlk
                  have HSN := Lib.hid (show pre ++ fdel c.key ((m.drop k).take (j + 1 - k)) = pre ++ fdel c.key ((m.drop k).take (j - k)) ++ [p] from by
                    rw [hsn, fdel_append, show fdel c.key [p] = [p] from by simp [fdel, hpk], List.append_assoc])
                  have hmRr := hmR.upd0 (hU2.trans0 (Upd.drew [] wr))
                  have hqr := hqv.upd0 (hU2.trans0 (Upd.drew [] wr))
                  have hown3 := hown2.upd0 (Upd.drew [] wr)
                  have hU3 := hU2.trans0 (Upd.drew [] wr)
                  clear hlk hpk hsn hc1 hc2 hp hown2
                  go_wp2_with fail
                  go_region_held3 (fun W => W.cell? ⟨b1, o1 + j * 2, none⟩ = some (encS p.1) ∧ W.cell? ⟨b2, o2 + i * 3, none⟩ = some (encS c.key)) (first | exact ⟨d1, d2⟩ | go_keep) (fail)
                  go_wp2_with (first
                    | ((with_reducible show wpList _ _ _ (⟨_, .indexAddr _ _ _, _, _, _, _⟩ :: _) _ _); refine wpl_indexAddr elPair rfl rfl hmRr rfl rfl (by omega) (by omega) ?_; intro ad hcell hspot; (have k0 := hcell 0 (by omega)); (have k1 := hcell 1 (by omega)); rw [Int.toNat_natCast, g0] at k0; rw [Int.toNat_natCast, g1] at k1; clear hcell; obtain ⟨gb, gof, gs⟩ := ad; cases hspot; simp only [Addr.add_lit, Nat.add_zero] at k0 k1)
                    | ((with_reducible show wpList _ _ _ (⟨_, .buildSlice _ _ _, _, _, _, _⟩ :: _) _ _); refine wpl_lit elPair rfl rfl rfl (cs := [encS p.1, .slice aq p.2.length cq]) rfl rfl (by omega) ?_; intro v5 w5 hv5 hU5 _)
                    | ((with_reducible show wpList _ _ _ (⟨_, .call ⟨.builtin .append, _, _⟩, _, _, _, _⟩ :: _) _ _); refine wpl_append_pr rfl rfl (hU3.trans0 hU5) (hown3.upd0 hU5) rfl (Rd.of_own hv5) rfl (hqr.upd0 hU5) HLK.out ?_; intro v6 w6 hv6 hU6))
                  exact ⟨⟨j + 1, by simp, by omega, hjl, by rw [HSN.out]; exact hv6, hU6⟩, by simp [intOf]; omega⟩
              · have htj : decide ((j : Int) < (m.length : Int)) = false := by simp; omega
                have hje : j = m.length := by omega
                have hprs : Prs wr u7 (tdo l (cs.take (i + 1))) := by
                  rw [HNX.out, ← HD.out, ← hje]
                  exact hown2.prs
                have HP9 := Lib.hid hprs
                clear hprs hown2
                go_wp2_with fail
                exact ⟨⟨i + 1, by simp, hlt, HP9.out, HU9.out⟩, by simp [intOf]; omega⟩
    · have htt : decide ((i : Int) < (cs.length : Int)) = false := by simp; omega
      have hie : i = cs.length := by omega
      subst hie
      rw [List.take_length] at hPm
      go_wp2_with fail
      go_ret
      exact ⟨_, rfl, hPm, hU⟩
end Go.Proofs.Ythfbfdkjgkkpcaa
