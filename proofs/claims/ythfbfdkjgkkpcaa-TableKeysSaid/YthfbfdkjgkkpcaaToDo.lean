/-
  The walks of the document's Do, and of the law's to.
-/
import Derived.Test.YthfbfdkjgkkpcaaRef
import Derived.Test.YthfbfdkjgkkpcaaEnc
namespace Go.Proofs.Ythfbfdkjgkkpcaa
open Go Go.RowKit

theorem app_row {T e sz b : Nat} {P : Program} (hE : Elem P T e sz b) {w0 w : World} (hU : Upd [] w0 w) {v : Value} {n : Nat} {xs : List Value} (hown : w.ownsRow w0.heap.size e sz v n xs) {y : Value} {m : Nat} {ys : List Value} (hR : Rd w e sz y m ys)
    (h1 : ∀ u ∈ ys, u.oneCell' = true) (h63 : n + m ≤ maxLen) (hb : (n + m) * b ≤ 140737488355328) (ty : Nat) :
    ∃ v' w', (Builtin.append_ #[T, T] ty #[v, y]).run P w = .ok v' w' ∧ w'.ownsRow w0.heap.size e sz v' (n + m) (xs ++ ys) ∧ Upd v.ownBlock.toList w w' ∧ Upd [] w0 w' := by
  obtain ⟨v', w', r1, r2, r3, _⟩ := run_append_rd (P := P) (ty := ty) hE hown hR h1 h63 hb hU.size
  have hg : Upd v.ownBlock.toList w w' := Upd.grown r3 (fun k hk => by rw [hk]; simp)
  exact ⟨v', w', r1, r2, hg, hU.own hown hg⟩
theorem app_pr {w0 w : World} (hU : Upd [] w0 w) {v y pv : Value} {l : List (List UInt8 × List UInt8)} {p : List UInt8 × List UInt8} (hown : OwnPrs w w0.heap.size v l) (hR : Rd w 46 2 y 1 [encS p.1, pv]) (hpv : By w pv p.2) (hb : l.length + 1 ≤ 1000000001) (ty : Nat) :
    ∃ v' w', (Builtin.append_ #[33, 33] ty #[v, y]).run Try.prog w = .ok v' w' ∧ OwnPrs w' w0.heap.size v' (l ++ [p]) ∧ Upd v.ownBlock.toList w w' ∧ Upd [] w0 w' := by
  obtain ⟨cells, ho, hC⟩ := hown
  obtain ⟨ao, cap, rfl⟩ := By.val hpv
  obtain ⟨v', w', r1, r2, r3, r4⟩ := app_row (P := Try.prog) elPair hU ho hR (by intro u hu; simp at hu; rcases hu with rfl | rfl <;> rfl) (by unfold maxLen; omega) (by omega) ty
  have hoff : Off w 5 v.ownBlock.toList := Own.off ho (by decide)
  have hd : PCells w' [encS p.1, .slice ao p.2.length cap] [p] := ⟨rfl, hpv.upd r3 hoff, trivial⟩
  exact ⟨v', w', r1, ⟨cells ++ [encS p.1, .slice ao p.2.length cap], by rw [List.length_append]; exact r2, hd.append (hC.upd r3 hoff)⟩, r3, r4⟩
def OwnChgs (w : World) (B : Nat) (v : Value) (l : List TChg) : Prop := ∃ cells, w.ownsRow B 51 3 v l.length cells ∧ TCells w cells l
theorem OwnChgs.chgs {w : World} {B : Nat} {v : Value} {l : List TChg} (h : OwnChgs w B v l) : Chgs w v l := by
  obtain ⟨cells, h1, h2⟩ := h
  exact ⟨cells, Rd.of_own h1, h2⟩
theorem OwnChgs.upd0 {w w' : World} {B : Nat} {v : Value} {l : List TChg} (h : OwnChgs w B v l) (hU : Upd [] w w') : OwnChgs w' B v l := by
  obtain ⟨cells, h1, h2⟩ := h
  exact ⟨cells, Own.upd0 h1 hU, h2.upd hU (Off.nil _ _)⟩
theorem app_chg {w0 w : World} (hU : Upd [] w0 w) {v y pv : Value} {l : List TChg} {c : TChg} (hown : OwnChgs w w0.heap.size v l) (hR : Rd w 51 3 y 1 [encS c.key, .bool c.gone, pv]) (hpv : By w pv c.val) (hb : l.length + 1 ≤ 1000000001) (ty : Nat) :
    ∃ v' w', (Builtin.append_ #[35, 35] ty #[v, y]).run Try.prog w = .ok v' w' ∧ OwnChgs w' w0.heap.size v' (l ++ [c]) ∧ Upd v.ownBlock.toList w w' ∧ Upd [] w0 w' := by
  obtain ⟨cells, ho, hC⟩ := hown
  obtain ⟨ao, cap, rfl⟩ := By.val hpv
  obtain ⟨v', w', r1, r2, r3, r4⟩ := app_row (P := Try.prog) elTChg hU ho hR (by intro u hu; simp at hu; rcases hu with rfl | rfl | rfl <;> rfl) (by unfold maxLen; omega) (by omega) ty
  have hoff : Off w 5 v.ownBlock.toList := Own.off ho (by decide)
  have hd : TCells w' [encS c.key, .bool c.gone, .slice ao c.val.length cap] [c] := ⟨rfl, rfl, hpv.upd r3 hoff, trivial⟩
  exact ⟨v', w', r1, ⟨cells ++ [encS c.key, .bool c.gone, .slice ao c.val.length cap], by rw [List.length_append]; exact r2, hd.append (hC.upd r3 hoff)⟩, r3, r4⟩
theorem not_mem_own {w : World} {B e sz n : Nat} {v : Value} {xs : List Value} (h : w.ownsRow B e sz v n xs) {k : Nat} (hk : w.heap.size ≤ k ∨ k < B) : k ∉ v.ownBlock.toList := by
  intro hm
  cases hv : v.ownBlock with
  | none => rw [hv] at hm; cases hm
  | some g =>
    rw [hv] at hm
    simp at hm
    have := h.lt g hv
    omega
theorem OwnChgs.not_mem {w : World} {B : Nat} {v : Value} {l : List TChg} (h : OwnChgs w B v l) {k : Nat} (hk : w.heap.size ≤ k ∨ k < B) : k ∉ v.ownBlock.toList := by
  obtain ⟨cells, h1, _⟩ := h
  exact not_mem_own h1 hk
theorem lit_row {T e sz b : Nat} {P : Program} (hE : Elem P T e sz b) (w : World) (u : Value) {cs : List Value} (hc : u.cells = cs.toArray) (hn : cs.length = sz) (hs : sz ≤ 16777216) :
    ∃ v w', (Instr.buildSlice T 1 #[(0, u)]).run P w = .ok v w' ∧ Rd w' e sz v 1 cs ∧ Upd [] w w' := by
  have hr := run_lit (P := P) (w := w) hE u (by rw [hc]; simpa using hn) hs
  refine ⟨_, _, hr, ?_, Upd.alloc [] _ _⟩
  rw [hc]
  exact Rd.new (by simpa using hn) (Nat.le_refl _) (by decide) (by simp [← hn]) (by simpa using hn)

def ToRel (w : World) (l : List TChg) (x v : Value) (wr : World) : Prop := ∃ i : Nat, x = .int .i64 i ∧ i ≤ l.length ∧ OwnChgs wr w.heap.size v (l.take i) ∧ Upd [] w wr
set_option maxRecDepth 100000 in
set_option maxHeartbeats 1000000 in
theorem law_to (w : World) (lv : Value) (l : List TChg) (hl : RChgs w lv l) (hn : l.length ≤ 1000000000) (hv : ∀ c ∈ l, c.val.length ≤ 1000000000) :
    Calls Try.prog 11 #[lv] w fun e w' => ∃ v, e = .returned v ∧ OwnChgs w' w.heap.size v l ∧ Upd [] w w' := by
  obtain ⟨cells, hR, hC⟩ := hl
  obtain ⟨ao, cap, rfl, _⟩ := hR.shape
  have HV := Lib.hid hv; have HN := Lib.hid hn
  clear hv hn
  go_enter Try.func11, Try.ntmps11
  go_wp2_with fail
  go_loopw [8, 3] (fun x v wr => ToRel w l x v wr) (fun x _ _ => l.length - (intOf x).toNat)
  case atStart => exact ⟨0, rfl, Nat.zero_le _, ⟨[], World.ownsRow_nil _ _ _ _, trivial⟩, Upd.refl _ _⟩
  case round =>
    obtain ⟨i, rfl, hi, hown, hU⟩ := hrel
    by_cases hlt : i < l.length
    · have htt : decide ((i : Int) < (l.length : Int)) = true := by simp; omega
      obtain ⟨c, hc⟩ : ∃ c, l[i]? = some c := ⟨_, List.getElem?_eq_getElem hlt⟩
      obtain ⟨pv, c0, c1, c2, hpv⟩ := hC.get hc
      have hRr : Rdx wr 3 (.slice ao l.length cap) l.length cells := hR.upd0 hU
      have hpr : ByX wr pv c.val := hpv.upd0 hU
      have hcv := HV.out c (List.mem_of_getElem? hc)
      have htk : l.take (i + 1) = l.take i ++ [c] := by rw [List.take_add_one, hc]; rfl
      obtain ⟨ap, cp, hsp, _⟩ := hpr.shape
      subst hsp
      have hUa : Upd [] wr (wr.alloc (Obj.cells #[encS c.key, .bool c.gone, Value.slice ap c.val.length cp] 82)) := Upd.alloc [] _ _
      have hba := heap_alloc_new wr (Obj.cells #[encS c.key, .bool c.gone, Value.slice ap c.val.length cp] 82)
      generalize hwa : wr.alloc (Obj.cells #[encS c.key, .bool c.gone, Value.slice ap c.val.length cp] 82) = wa at hUa hba
      have HWA := Lib.hid hwa
      have hUd : Upd [] wr wa.drew := hUa.trans0 (Upd.drew [] _)
      have hnm := hown.not_mem (k := wr.heap.size) (.inl (Nat.le_refl _))
      have q0 : ∀ W : World, W.heap[wr.heap.size]? = some (Obj.cells #[encS c.key, .bool c.gone, Value.slice ap c.val.length cp] 82) →
          W.cell? ⟨wr.heap.size, 0, none⟩ = some (encS c.key) ∧ W.cell? ⟨wr.heap.size, 1, none⟩ = some (.bool c.gone) ∧ W.cell? ⟨wr.heap.size, 2, none⟩ = some (.slice ap c.val.length cp) := by
        intro W hW
        refine ⟨?_, ?_, ?_⟩
        all_goals
          rw [cell_lit W _ _ _ _ _ hW]
          rfl
      have hS0 := q0 wa.drew hba
      have hlt2 : (l.take i).length + 1 ≤ 1000000001 := by have := HN.out; simp; omega
      have HTK := Lib.hid htk; have HL2 := Lib.hid hlt2; have HB := Lib.hid hba; have HQ := Lib.hid q0
      clear htk hlt2 hba hwa hi q0
      go_wp2_with ((with_reducible show wpList _ _ _ (⟨_, .indexAddr _ _ _, _, _, _, _⟩ :: _) _ _); refine wpl_indexAddrX elRChg rfl rfl hRr rfl rfl (by omega) (by omega) ?_; intro ad hcell hspot; (have k0 := hcell 0 (by omega)); (have k1 := hcell 1 (by omega)); (have k2 := hcell 2 (by omega)); rw [Int.toNat_natCast, c0] at k0; rw [Int.toNat_natCast, c1] at k1; rw [Int.toNat_natCast, c2] at k2; clear hcell; obtain ⟨gb, gof, gs⟩ := ad; cases hspot; simp only [Addr.add_lit, Nat.add_zero] at k0 k1 k2)
      rw [HWA.out]
      refine wp_region_noPanic ?_
      refine wp_region_M 11 (fun W => W.cell? ⟨wr.heap.size, 0, none⟩ = some (encS c.key) ∧ W.cell? ⟨wr.heap.size, 1, none⟩ = some (.bool c.gone) ∧ W.cell? ⟨wr.heap.size, 2, none⟩ = some (.slice ap c.val.length cp)) (by kernel_rfl) ?_
      (refine wpAnyM_takeO (i := 0) (dst := (some 12)) (op := (Go.Op.move (Go.Operand.tmp 3))) (v := ?_) (by rfl) (by kernel_rfl) (by kernel_rfl) (by kernel_rfl) (by kernel_rfl) (by rfl) (fun _ _ _ h => h) ?_ hS0 ?_; rotate_left; (focus (intro _ _ _ W HW; (try dsimp only at HW); go_simp; (try with_reducible rfl))); (try simp only [Act.put, List.setIfInBounds_toArray, List.set_cons_zero, List.set_cons_succ]))
      (refine wpAnyM_takeO (i := 1) (dst := (some 13)) (op := (Go.Op.fieldAddr 82 (Go.Operand.tmp 5) 0)) (v := ?_) (by rfl) (by kernel_rfl) (by kernel_rfl) (by kernel_rfl) (by kernel_rfl) (by rfl) (fun _ _ _ h => h) ?_ hS0 ?_; rotate_left; (focus (intro _ _ _ W HW; (try dsimp only at HW); go_simp; (try with_reducible rfl))); (try simp only [Act.put, List.setIfInBounds_toArray, List.set_cons_zero, List.set_cons_succ]))
      (refine wpAnyM_takeO (i := 2) (dst := (some 14)) (op := (Go.Op.load 9 (Go.Operand.tmp 13))) (v := ?_) (by rfl) (by kernel_rfl) (by kernel_rfl) (by kernel_rfl) (by kernel_rfl) (by rfl) (fun _ _ _ h => h) ?_ hS0 ?_; rotate_left; (focus (intro _ _ _ W HW; (try dsimp only at HW); go_simp; (try with_reducible rfl))); (try simp only [Act.put, List.setIfInBounds_toArray, List.set_cons_zero, List.set_cons_succ]))
      (refine wpAnyM_takeO (i := 3) (dst := (some 15)) (op := (Go.Op.fieldAddr 82 (Go.Operand.tmp 5) 1)) (v := ?_) (by rfl) (by kernel_rfl) (by kernel_rfl) (by kernel_rfl) (by kernel_rfl) (by rfl) (fun _ _ _ h => h) ?_ hS0 ?_; rotate_left; (focus (intro _ _ _ W HW; (try dsimp only at HW); go_simp; (try with_reducible rfl))); (try simp only [Act.put, List.setIfInBounds_toArray, List.set_cons_zero, List.set_cons_succ]))
      (refine wpAnyM_takeO (i := 4) (dst := (some 16)) (op := (Go.Op.load 4 (Go.Operand.tmp 15))) (v := ?_) (by rfl) (by kernel_rfl) (by kernel_rfl) (by kernel_rfl) (by kernel_rfl) (by rfl) (fun _ _ _ h => h) ?_ hS0 ?_; rotate_left; (focus (intro _ _ _ W HW; (try dsimp only at HW); go_simp; (try with_reducible rfl))); (try simp only [Act.put, List.setIfInBounds_toArray, List.set_cons_zero, List.set_cons_succ]))
      (refine wpAnyM_takeO (i := 5) (dst := (some 17)) (op := (Go.Op.fieldAddr 82 (Go.Operand.tmp 5) 2)) (v := ?_) (by rfl) (by kernel_rfl) (by kernel_rfl) (by kernel_rfl) (by kernel_rfl) (by rfl) (fun _ _ _ h => h) ?_ hS0 ?_; rotate_left; (focus (intro _ _ _ W HW; (try dsimp only at HW); go_simp; (try with_reducible rfl))); (try simp only [Act.put, List.setIfInBounds_toArray, List.set_cons_zero, List.set_cons_succ]))
      (refine wpAnyM_takeO (i := 6) (dst := (some 18)) (op := (Go.Op.load 41 (Go.Operand.tmp 17))) (v := ?_) (by rfl) (by kernel_rfl) (by kernel_rfl) (by kernel_rfl) (by kernel_rfl) (by rfl) (fun _ _ _ h => h) ?_ hS0 ?_; rotate_left; (focus (intro _ _ _ W HW; (try dsimp only at HW); go_simp; (try with_reducible rfl))); (try simp only [Act.put, List.setIfInBounds_toArray, List.set_cons_zero, List.set_cons_succ]))
      refine wpAnyM_one (i := 7) (by kernel_rfl) ?_
      refine opM_call (i := 7) (dst := (some 19)) (op := (Go.Op.call { callee := (Go.Callee.value (Go.Operand.func 33)), args := #[(Go.Operand.tmp 18)], argTypes := #[41] })) (f := 33) (vs := #[.slice ap c.val.length cp]) (by rfl) (fun _ _ _ => by go_simp) ?_
      refine (ref_Twin _ _ c.val (hpr.upd0 hUd) hcv).mono ?_
      rintro e w2 ⟨v2, rfl, hv2, hU2⟩
      have hB2 := hU2.get (show wa.drew.heap[wr.heap.size]? = some _ from HB.out) (by simp)
      have hS2 := HQ.out w2 hB2
      refine ⟨v2, rfl, .inr hS2, ?_⟩
      (try simp only [Act.put, List.setIfInBounds_toArray, List.set_cons_zero, List.set_cons_succ])
      obtain ⟨ao2, cap2, hs2⟩ := By.val hv2.by
      subst hs2
      obtain ⟨v3, w3, hr3, hv3, hU3⟩ := lit_row (P := Try.prog) elTChg w2 (.agg #[encS c.key, .bool c.gone, .slice ao2 c.val.length cap2]) (cs := [encS c.key, .bool c.gone, .slice ao2 c.val.length cap2]) rfl rfl (by omega)
      have hB3 := hU3.get hB2 (by simp)
      have hS3 := HQ.out w3 hB3
      have hU03 := ((hU.trans0 hUd).trans0 hU2).trans0 hU3
      have hown3 := hown.upd0 ((hUd.trans0 hU2).trans0 hU3)
      obtain ⟨v4, w4, hr4, hv4, hU4, hU04⟩ := app_chg hU03 hown3 hv3 (hv2.by.upd0 hU3) HL2.out 0
      have hS4 := HQ.out w4 (hU4.get hB3 hnm)
      (refine wpAnyM_val (i := 8) (dst := (some 20)) (op := (Go.Op.build 51 #[(0, (Go.Operand.tmp 14)), (1, (Go.Operand.tmp 16)), (2, (Go.Operand.tmp 19))])) (by rfl) (by kernel_rfl) (fun _ _ _ => by go_simp; rfl) (.inr hS2) ?_; (try simp only [Act.put, List.setIfInBounds_toArray, List.set_cons_zero, List.set_cons_succ]))
      (refine wpAnyM_val (i := 9) (dst := (some 21)) (op := (Go.Op.buildSlice 35 1 #[(0, (Go.Operand.tmp 20))])) (by rfl) (by kernel_rfl) (ex_lit hr3 (by rfl)) (.inr hS3) ?_; (try simp only [Act.put, List.setIfInBounds_toArray, List.set_cons_zero, List.set_cons_succ]))
      (refine wpAnyM_val (i := 10) (dst := (some 22)) (op := (Go.Op.call { callee := (Go.Callee.builtin Go.Builtin.append), args := #[(Go.Operand.tmp 12), (Go.Operand.tmp 21)], argTypes := #[35, 35] })) (by rfl) (by kernel_rfl) (ex_append hr4 (by rfl) (by rfl)) (.inr hS4) ?_; (try simp only [Act.put, List.setIfInBounds_toArray, List.set_cons_zero, List.set_cons_succ]))
      (refine wpAnyM_val (i := 11) (dst := (some 3)) (op := (Go.Op.assign (Go.Operand.tmp 22))) (by rfl) (by kernel_rfl) (fun _ _ _ => by go_simp; rfl) (.inr hS4) ?_; (try simp only [Act.put, List.setIfInBounds_toArray, List.set_cons_zero, List.set_cons_succ]))
      refine wpAnyM_done (by kernel_rfl) ?_ _
      refine NoPanic.normal ?_
      have hll := HN.out
      go_wp2_with fail
      exact ⟨⟨i + 1, by simp, hlt, by rw [HTK.out]; exact hv4, hU04⟩, by simp [intOf]; omega⟩
    · have htt : decide ((i : Int) < (l.length : Int)) = false := by simp; omega
      have hie : i = l.length := by omega
      subst hie
      rw [List.take_length] at hown
      go_wp2_with fail
      go_ret
      exact ⟨_, rfl, hown, hU⟩
end Go.Proofs.Ythfbfdkjgkkpcaa
