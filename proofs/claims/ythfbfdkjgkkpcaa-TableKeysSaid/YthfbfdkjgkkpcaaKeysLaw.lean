/-
  The walk of the statement TableKeys.
-/
import Derived.Test.YthfbfdkjgkkpcaaLaw11
import Derived.Test.YthfbfdkjgkkpcaaAwake
import Derived.Test.YthfbfdkjgkkpcaaMk
namespace Go.Proofs.Ythfbfdkjgkkpcaa
open Go Go.RowKit

theorem tok_nil (J : JSt) : TOk ⟨J, [], false⟩ := ⟨Srt.nil, fun p hp => (by cases hp), by show 0 ≤ 1000000000; omega⟩
theorem tok_do (J : JSt) (l : List TChg) (he : (encB l).2 = 0) (hs : smallB l = true) : TOk ⟨J, tdo [] l, false⟩ := by
  unfold smallB at hs
  rw [Bool.and_eq_true, decide_eq_true_iff, List.all_eq_true] at hs
  have hk := encB_keys he
  refine ⟨Srt.nil.tdo l, ?_, ?_⟩
  · refine tdo_keys (fun p => p.1 ≠ [] ∧ p.1.length ≤ 1000000000 ∧ p.2.length ≤ 1000000000) (fun p hp => by cases hp) ?_
    intro c hc
    have := hs.2 c hc
    simp at this
    exact ⟨hk c hc, by show c.key.length ≤ _; omega, by show c.val.length ≤ _; omega⟩
  · have := tdo_length l []
    show (tdo [] l).length ≤ 1000000000
    simp at this; omega
theorem small_parts {l : List TChg} (hs : smallB l = true) : l.length ≤ 40 ∧ ∀ c ∈ l, c.key.length ≤ 400 ∧ c.val.length ≤ 500 := by
  unfold smallB at hs
  rw [Bool.and_eq_true, decide_eq_true_iff, List.all_eq_true] at hs
  exact ⟨hs.1, fun c hc => by have := hs.2 c hc; simpa using this⟩

def KLoop (w : World) (n : Nat) (x : Value) (wr : World) : Prop := ∃ i : Nat, x = .int .i64 i ∧ i ≤ n ∧ Upd [] w wr
def XorRel (wb : World) (v : Value) (ll : List UInt8) (x : Value) (W : World) : Prop :=
  ∃ (i : Nat) (xs : List Value), x = .int .i64 i ∧ i ≤ ll.length ∧ W.ownsRow wb.heap.size 5 1 v ll.length xs ∧ (∀ j, i ≤ j → xs[j]? = (ll.map enc)[j]?) ∧ Upd [] wb W
theorem keysGo_len (head after : List UInt8) (most : Int) : ∀ (ks o : List (List UInt8)), (keysGo head after most o ks).length ≤ o.length + ks.length
  | [], o => by simp [keysGo]
  | k :: r, o => by
    unfold keysGo
    split
    · simp
    · split
      · have := keysGo_len head after most r (o ++ [k]); simp at this ⊢; omega
      · have := keysGo_len head after most r o; simp at this ⊢; omega
set_option maxRecDepth 100000 in
set_option maxHeartbeats 4000000 in
theorem law11_tableKeys (w : World) (lv : Value) (l : List TChg) (hl : RChgs w lv l) (w0 w1 : List UInt8) (hw0 : w0.length ≤ maxLen) (most : Int) (hm : most ≤ 9223372036854775807) :
    Calls Try.prog 3 #[lv, .agg #[encS w0, encS w1], .int .i64 most] w fun e w' => e = .returned (.bool true) ∧ Upd [] w w' := by
  have hi1 : isName [116] = true := by decide
  have hi2 : isName ([116] ++ [43]) = true := by decide
  have HW0 := Lib.hid hw0; have HM := Lib.hid hm
  clear hw0 hm
  go_enter Try.func3, Try.ntmps3
  go_wp2_with fail
  have hUx : Upd [] w (w.alloc (Obj.cells #[encS w0, encS w1] 23)) := Upd.alloc [] _ _
  have hbx := heap_alloc_new w (Obj.cells #[encS w0, encS w1] 23)
  generalize hwx : (w.alloc (Obj.cells #[encS w0, encS w1] 23)) = wx at *
  have x0 : wx.cell? ⟨w.heap.size, 0, none⟩ = some (encS w0) := by rw [cell_lit wx _ 0 _ _ _ hbx]; rfl
  have x1 : wx.cell? ⟨w.heap.size, 1, none⟩ = some (encS w1) := by rw [cell_lit wx _ 1 _ _ _ hbx]; rfl
  clear hbx
  refine (disk_new wx 1048576 (by omega)).mono ?_
  rintro e w2 ⟨d, S, rfl, hD2, hU2, hS2⟩
  go_wp2_with fail
  refine (table_open_first w2 d S 1048576 [116] hD2 hi1 hi2).mono ?_
  rintro e w3 ⟨tb, S3, rfl, hT3, hU3, hS3⟩
  have hn3 := hS2.sub hS3 hU2.size
  have hU3x : Upd [] wx w3 := hU2.new hS2 hU3
  have hU03 : Upd [] w w3 := hUx.trans0 hU3x
  clear hD2 hU2 hS2 hS3 hU3
  go_wp2_with fail
  refine (law11_awake w3).mono ?_
  rintro e w4 ⟨rfl, hU4⟩
  go_wp2_with fail
  refine (law_small w4 lv l (hl.upd0 (hU03.trans0 hU4))).mono ?_
  rintro e w5 ⟨rfl, hU5⟩
  have hU45 := hU4.trans0 hU5
  cases hsm : smallB l with
  | false =>
    go_wp2_with fail
    refine (law11_awake w5).mono ?_
    rintro e w6 ⟨rfl, hU6⟩
    go_wp2_with fail
    go_ret
    exact ⟨rfl, (hU03.trans0 hU45).trans0 hU6⟩
  | true =>
    have hsp := small_parts hsm
    go_wp2_with fail
    refine (law_to w5 lv l (hl.upd0 (hU03.trans0 hU45)) (by have := hsp.1; omega) (fun c hc => by have := (hsp.2 c hc).2; omega)).mono ?_
    rintro e w6 ⟨v6, rfl, hv6, hU6⟩
    have hT6 := (hT3.upd0 hU45).upd0 hU6
    have hap := table_apply w6 d tb S3 (T1 1048576 [116]) hT6 v6 l hv6.chgs (by have := hsp.1; omega) (fun c hc => by have := (hsp.2 c hc).2; omega) (by decide) (by decide)
    have hU36 := hU45.trans0 hU6
    by_cases he : (encB l).2 = 0
    · have hfit := apply_fine (T1 1048576 [116]) l (fine_T1 _ _) he (by
        have := encB_small hsp.1 hsp.2
        show used [([116], [])] + ((encB l).1.length + 8) ≤ 1048576
        simp [used]; omega)
      rw [hfit.1] at hap
      have HOK := Lib.hid (tok_do ((T1 1048576 [116]).J.then (encB l).1) l he hsm)
      have hmeq : tdo (T1 1048576 [116]).m l = tdo [] l := rfl
      rw [hmeq] at hap
      have hdo := fun (W : World) (hU : Upd [] w W) => ref_Do W (.slice none 0 0) lv [] l (Prs.nil W) (hl.upd0 hU) Srt.nil (by have := hsp.1; simp; omega) (fun c hc => by have := (hsp.2 c hc).2; omega)
      generalize tdo [] l = m at *
      generalize hJ : (T1 1048576 [116]).J.then (encB l).1 = J at *
      clear hfit hJ hmeq
      go_wp2_with fail
      refine hap.mono ?_
      rintro e w7 ⟨rfl, S7, hT7, hU7, hS7⟩
      have hU07 : Upd [] w w7 := hUx.trans0 ((hU3x.trans0 hU36).new hn3 hU7)
      go_wp2_with fail
      refine (hdo w7 hU07).mono ?_
      rintro e w8 ⟨v8, rfl, hv8, hU8⟩
      have hUx8 : Upd [] wx w8 := ((hU3x.trans0 hU36).new hn3 hU7).trans0 hU8
      have hT8 := hT7.upd0 hU8
      obtain ⟨ao8, cap8, hs8⟩ := hv8.shape
      subst hs8
      have bx0 := hUx8.cell x0 (by simp)
      have bx1 := hUx8.cell x1 (by simp)
      have hUd8 : Upd [] w8 w8.drew := Upd.drew [] _
      have hS0 : w8.drew.cell? ⟨w.heap.size, 0, none⟩ = some (encS w0) ∧ w8.drew.cell? ⟨w.heap.size, 1, none⟩ = some (encS w1) := ⟨bx0, bx1⟩
      have hkeys := table_keys w8.drew d tb S7 _ (hT8.upd0 hUd8) w0 w1 most (fun p hp => by have := (HOK.out.keys p hp).2.1; unfold maxLen; omega) HOK.out.len HW0.out HM.out
      have hrk := fun (W : World) (hU : Upd [] w8 W) => ref_Keys W (.slice ao8 m.length cap8) m (hv8.upd0 hU) w0 w1 most HOK.out.len
      rw [sortK_srt HOK.out.srt] at hkeys
      have hkl : (keysGo w0 w1 most [] (m.map (·.1))).length ≤ 1000000000 := by
        have := keysGo_len w0 w1 most (m.map (·.1)) []
        have := HOK.out.len
        simp at this; simp at *; omega
      generalize keysGo w0 w1 most [] (m.map (·.1)) = kk at *
      have HKL := Lib.hid hkl
      clear hkl
      go_wp2_with fail
      refine wp_region_H (fun W => W.cell? ⟨w.heap.size, 0, none⟩ = some (encS w0) ∧ W.cell? ⟨w.heap.size, 1, none⟩ = some (encS w1)) (by kernel_rfl) ?_
      (refine wpAnyH_takeO (i := 0) (dst := (some 48)) (op := (Go.Op.move (Go.Operand.tmp 9))) (v := ?_) (by rfl) (by kernel_rfl) (by kernel_rfl) (by kernel_rfl) (fun _ _ _ h => h) ?_ hS0 ?_; rotate_left; (focus (intro _ _ _ W HW; (try dsimp only at HW); go_simp; (try with_reducible rfl))); (try simp only [Act.put, List.setIfInBounds_toArray, List.set_cons_zero, List.set_cons_succ]))
      (refine wpAnyH_takeO (i := 1) (dst := (some 49)) (op := (Go.Op.indexAddr 23 (Go.Operand.tmp 4) (Go.Operand.const (Go.Value.int Go.IntKind.i64 0)))) (v := ?_) (by rfl) (by kernel_rfl) (by kernel_rfl) (by kernel_rfl) (fun _ _ _ h => h) ?_ hS0 ?_; rotate_left; (focus (intro _ _ _ W HW; (try dsimp only at HW); go_simp; (try with_reducible rfl))); (try simp only [Act.put, List.setIfInBounds_toArray, List.set_cons_zero, List.set_cons_succ]))
      (refine wpAnyH_takeO (i := 2) (dst := (some 50)) (op := (Go.Op.load 9 (Go.Operand.tmp 49))) (v := ?_) (by rfl) (by kernel_rfl) (by kernel_rfl) (by kernel_rfl) (fun _ _ _ h => h) ?_ hS0 ?_; rotate_left; (focus (intro _ _ _ W HW; (try dsimp only at HW); go_simp; (try with_reducible rfl))); (try simp only [Act.put, List.setIfInBounds_toArray, List.set_cons_zero, List.set_cons_succ]))
      (refine wpAnyH_takeO (i := 3) (dst := (some 51)) (op := (Go.Op.indexAddr 23 (Go.Operand.tmp 4) (Go.Operand.const (Go.Value.int Go.IntKind.i64 1)))) (v := ?_) (by rfl) (by kernel_rfl) (by kernel_rfl) (by kernel_rfl) (fun _ _ _ h => h) ?_ hS0 ?_; rotate_left; (focus (intro _ _ _ W HW; (try dsimp only at HW); go_simp; (try with_reducible rfl))); (try simp only [Act.put, List.setIfInBounds_toArray, List.set_cons_zero, List.set_cons_succ]))
      (refine wpAnyH_takeO (i := 4) (dst := (some 52)) (op := (Go.Op.load 9 (Go.Operand.tmp 51))) (v := ?_) (by rfl) (by kernel_rfl) (by kernel_rfl) (by kernel_rfl) (fun _ _ _ h => h) ?_ hS0 ?_; rotate_left; (focus (intro _ _ _ W HW; (try dsimp only at HW); go_simp; (try with_reducible rfl))); (try simp only [Act.put, List.setIfInBounds_toArray, List.set_cons_zero, List.set_cons_succ]))
      (refine wpAnyH_takeO (i := 5) (dst := (some 53)) (op := (Go.Op.move (Go.Operand.tmp 2))) (v := ?_) (by rfl) (by kernel_rfl) (by kernel_rfl) (by kernel_rfl) (fun _ _ _ h => h) ?_ hS0 ?_; rotate_left; (focus (intro _ _ _ W HW; (try dsimp only at HW); go_simp; (try with_reducible rfl))); (try simp only [Act.put, List.setIfInBounds_toArray, List.set_cons_zero, List.set_cons_succ]))
      (refine wpAnyH_takeO (i := 7) (dst := (some 55)) (op := (Go.Op.move (Go.Operand.tmp 11))) (v := ?_) (by rfl) (by kernel_rfl) (by kernel_rfl) (by kernel_rfl) (fun _ _ _ h => h) ?_ hS0 ?_; rotate_left; (focus (intro _ _ _ W HW; (try dsimp only at HW); go_simp; (try with_reducible rfl))); (try simp only [Act.put, List.setIfInBounds_toArray, List.set_cons_zero, List.set_cons_succ]))
      (refine wpAnyH_takeO (i := 8) (dst := (some 56)) (op := (Go.Op.indexAddr 23 (Go.Operand.tmp 4) (Go.Operand.const (Go.Value.int Go.IntKind.i64 0)))) (v := ?_) (by rfl) (by kernel_rfl) (by kernel_rfl) (by kernel_rfl) (fun _ _ _ h => h) ?_ hS0 ?_; rotate_left; (focus (intro _ _ _ W HW; (try dsimp only at HW); go_simp; (try with_reducible rfl))); (try simp only [Act.put, List.setIfInBounds_toArray, List.set_cons_zero, List.set_cons_succ]))
      (refine wpAnyH_takeO (i := 9) (dst := (some 57)) (op := (Go.Op.load 9 (Go.Operand.tmp 56))) (v := ?_) (by rfl) (by kernel_rfl) (by kernel_rfl) (by kernel_rfl) (fun _ _ _ h => h) ?_ hS0 ?_; rotate_left; (focus (intro _ _ _ W HW; (try dsimp only at HW); go_simp; (try with_reducible rfl))); (try simp only [Act.put, List.setIfInBounds_toArray, List.set_cons_zero, List.set_cons_succ]))
      (refine wpAnyH_takeO (i := 10) (dst := (some 58)) (op := (Go.Op.indexAddr 23 (Go.Operand.tmp 4) (Go.Operand.const (Go.Value.int Go.IntKind.i64 1)))) (v := ?_) (by rfl) (by kernel_rfl) (by kernel_rfl) (by kernel_rfl) (fun _ _ _ h => h) ?_ hS0 ?_; rotate_left; (focus (intro _ _ _ W HW; (try dsimp only at HW); go_simp; (try with_reducible rfl))); (try simp only [Act.put, List.setIfInBounds_toArray, List.set_cons_zero, List.set_cons_succ]))
      (refine wpAnyH_takeO (i := 11) (dst := (some 59)) (op := (Go.Op.load 9 (Go.Operand.tmp 58))) (v := ?_) (by rfl) (by kernel_rfl) (by kernel_rfl) (by kernel_rfl) (fun _ _ _ h => h) ?_ hS0 ?_; rotate_left; (focus (intro _ _ _ W HW; (try dsimp only at HW); go_simp; (try with_reducible rfl))); (try simp only [Act.put, List.setIfInBounds_toArray, List.set_cons_zero, List.set_cons_succ]))
      (refine wpAnyH_takeO (i := 12) (dst := (some 60)) (op := (Go.Op.move (Go.Operand.tmp 2))) (v := ?_) (by rfl) (by kernel_rfl) (by kernel_rfl) (by kernel_rfl) (fun _ _ _ h => h) ?_ hS0 ?_; rotate_left; (focus (intro _ _ _ W HW; (try dsimp only at HW); go_simp; (try with_reducible rfl))); (try simp only [Act.put, List.setIfInBounds_toArray, List.set_cons_zero, List.set_cons_succ]))
      refine wpAnyH_call (i := 6) (dst := (some 54)) (op := (Go.Op.call { callee := (Go.Callee.value (Go.Operand.func 13)), args := #[(Go.Operand.tmp 48), (Go.Operand.tmp 50), (Go.Operand.tmp 52), (Go.Operand.tmp 53)], argTypes := #[28, 9, 9, 3] })) (f := 13) (vs := #[.pointer (some ⟨tb, 0, none⟩), encS w0, encS w1, .int .i64 most]) (by kernel_rfl) (by rfl) (fun _ _ _ => by go_simp) ?_
      refine hkeys.mono ?_
      rintro e w9 ⟨v9, rfl, hv9, hU9⟩
      have hS9 : w9.cell? ⟨w.heap.size, 0, none⟩ = some (encS w0) ∧ w9.cell? ⟨w.heap.size, 1, none⟩ = some (encS w1) := ⟨hU9.cell hS0.1 (by simp), hU9.cell hS0.2 (by simp)⟩
      refine ⟨v9, rfl, hS9, ?_⟩
      (try simp only [Act.put, List.setIfInBounds_toArray, List.set_cons_zero, List.set_cons_succ])
      refine wpAnyH_call (i := 13) (dst := (some 61)) (op := (Go.Op.call { callee := (Go.Callee.value (Go.Operand.func 14)), args := #[(Go.Operand.tmp 55), (Go.Operand.tmp 57), (Go.Operand.tmp 59), (Go.Operand.tmp 60)], argTypes := #[33, 9, 9, 3] })) (f := 14) (vs := #[(.slice ao8 m.length cap8), encS w0, encS w1, .int .i64 most]) (by kernel_rfl) (by rfl) (fun _ _ _ => by go_simp) ?_
      refine (hrk w9 (hUd8.trans0 hU9)).mono ?_
      rintro e w10 ⟨v10, rfl, hv10, hU10⟩
      have hS10 : w10.cell? ⟨w.heap.size, 0, none⟩ = some (encS w0) ∧ w10.cell? ⟨w.heap.size, 1, none⟩ = some (encS w1) := ⟨hU10.cell hS9.1 (by simp), hU10.cell hS9.2 (by simp)⟩
      refine ⟨v10, rfl, hS10, ?_⟩
      (try simp only [Act.put, List.setIfInBounds_toArray, List.set_cons_zero, List.set_cons_succ])
      (refine wpAnyH_takeO (i := 14) (dst := (some 12)) (op := (Go.Op.assign (Go.Operand.tmp 54))) (v := ?_) (by rfl) (by kernel_rfl) (by kernel_rfl) (by kernel_rfl) (fun _ _ _ h => h) ?_ hS10 ?_; rotate_left; (focus (intro _ _ _ W HW; (try dsimp only at HW); go_simp; (try with_reducible rfl))); (try simp only [Act.put, List.setIfInBounds_toArray, List.set_cons_zero, List.set_cons_succ]))
      (refine wpAnyH_takeO (i := 15) (dst := (some 13)) (op := (Go.Op.assign (Go.Operand.tmp 61))) (v := ?_) (by rfl) (by kernel_rfl) (by kernel_rfl) (by kernel_rfl) (fun _ _ _ h => h) ?_ hS10 ?_; rotate_left; (focus (intro _ _ _ W HW; (try dsimp only at HW); go_simp; (try with_reducible rfl))); (try simp only [Act.put, List.setIfInBounds_toArray, List.set_cons_zero, List.set_cons_succ]))
      refine wpAnyH_done (by kernel_rfl) ?_ _
      have hR9 : Rd w10 9 1 v9 kk.length (kk.map encS) := (Rd.of_own hv9).upd0 hU10
      have hR10 := Rd.of_own hv10
      obtain ⟨ao9, cap9, hs9, _⟩ := hR9.shape
      subst hs9
      obtain ⟨ao10, cap10, hs10, _⟩ := hR10.shape
      subst hs10
      have hU810 := (hUd8.trans0 hU9).trans0 hU10
      have hfind := fun (W : World) (hU : Upd [] w8 W) => ref_Find W (.slice ao8 m.length cap8) m (hv8.upd0 hU) w0 HOK.out.len
      have hgetb : ((aget w0 m).getD []).length ≤ 1073741824 := by
        cases hc : aget w0 m with
        | none => simp
        | some u => have := (HOK.out.keys _ ((aget_some HOK.out.srt.nodup).1 hc)).2.2; simp; simp at this; omega
      have hget := fun (W : World) (hU : Upd [] w8 W) => table_get W d tb S7 _ (hT8.upd0 hU) w0 hgetb
      have hvb : ((aget w0 m).getD []).length ≤ 1000000000 := by
        cases hc : aget w0 m with
        | none => simp
        | some u => have := (HOK.out.keys _ ((aget_some HOK.out.srt.nodup).1 hc)).2.2; simpa using this
      have hpf := pfind_aget HOK.out.srt w0
      have hpl := pfind_le w0 m
      have HIS := Lib.hid (fun (W : World) (hU : Upd [] w8 W) => law_Is W d tb S7 _ (hT8.upd0 hU) HOK.out (.slice ao8 m.length cap8) m (hv8.upd0 hU))
      have HU08 := Lib.hid (hUx.trans0 hUx8)
      clear hkeys hrk hdo hap hT8 hT7 hT6 hT3 hv6 hS0 hS9 hUd8 hU9 hU10
      go_wp2_with fail
      go_loopw [69] (fun x W => KLoop w10 kk.length x W) (fun x _ => kk.length - (intOf x).toNat)
      case atStart => exact ⟨0, rfl, Nat.zero_le _, Upd.refl _ _⟩
      case round =>
        obtain ⟨i, rfl, hi, hUr⟩ := hrel
        obtain ⟨wb, rfl⟩ : ∃ wb, wb = wr := ⟨wr, rfl⟩
        have hll := HKL.out
        by_cases hlt : i < kk.length
        · have htt : decide ((i : Int) < (kk.length : Int)) = true := by simp; omega
          obtain ⟨k, hk⟩ : ∃ k, kk[i]? = some k := ⟨_, List.getElem?_eq_getElem hlt⟩
          obtain ⟨b1, o1, rfl, hc1⟩ := hR9.x.at (by simp; omega)
          obtain ⟨b2, o2, rfl, hc2⟩ := hR10.x.at (by simp; omega)
          have d1 := hUr.cell (hc1 i (encS k) (by simp [hk])) (by simp)
          have d2 := hUr.cell (hc2 i (encS k) (by simp [hk])) (by simp)
          have hkk : (!k == k) = false := by simp
          have i0 : (0 : Int) ≤ (i : Int) := by omega
          have i1 : (i : Int) < (kk.length : Int) := by omega
          have hS1 : wb.drew.cell? ⟨b1, o1 + i, none⟩ = some (encS k) ∧ wb.drew.cell? ⟨b2, o2 + i, none⟩ = some (encS k) := ⟨d1, d2⟩
          clear hc1 hc2 hk
          go_wp2_with fail
          refine wp_region_H (fun W => W.cell? ⟨b1, o1 + i, none⟩ = some (encS k) ∧ W.cell? ⟨b2, o2 + i, none⟩ = some (encS k)) (by kernel_rfl) ?_
          (refine wpAnyH_takeO (i := 0) (dst := (some 72)) (op := (Go.Op.move (Go.Operand.tmp 12))) (v := ?_) (by rfl) (by kernel_rfl) (by kernel_rfl) (by kernel_rfl) (fun _ _ _ h => h) ?_ hS1 ?_; rotate_left; (focus (intro _ _ _ W HW; (try dsimp only at HW); go_simp; (try with_reducible rfl))); (try simp only [Act.put, List.setIfInBounds_toArray, List.set_cons_zero, List.set_cons_succ]))
          (refine wpAnyH_takeO (i := 1) (dst := (some 73)) (op := (Go.Op.move (Go.Operand.tmp 14))) (v := ?_) (by rfl) (by kernel_rfl) (by kernel_rfl) (by kernel_rfl) (fun _ _ _ h => h) ?_ hS1 ?_; rotate_left; (focus (intro _ _ _ W HW; (try dsimp only at HW); go_simp; (try with_reducible rfl))); (try simp only [Act.put, List.setIfInBounds_toArray, List.set_cons_zero, List.set_cons_succ]))
          (refine wpAnyH_takeO (i := 2) (dst := (some 74)) (op := (Go.Op.indexAddr 38 (Go.Operand.tmp 72) (Go.Operand.tmp 73))) (v := ?_) (by rfl) (by kernel_rfl) (by kernel_rfl) (by kernel_rfl) (fun _ _ _ h => h) ?_ hS1 ?_; rotate_left; (focus (intro _ _ _ W HW; (try dsimp only at HW); go_simp; (try with_reducible rfl))); (try simp only [Act.put, List.setIfInBounds_toArray, List.set_cons_zero, List.set_cons_succ]))
          (refine wpAnyH_takeO (i := 3) (dst := (some 75)) (op := (Go.Op.load 9 (Go.Operand.tmp 74))) (v := ?_) (by rfl) (by kernel_rfl) (by kernel_rfl) (by kernel_rfl) (fun _ _ _ h => h) ?_ hS1 ?_; rotate_left; (focus (intro _ _ _ W HW; (try dsimp only at HW); go_simp; (try with_reducible rfl))); (try simp only [Act.put, List.setIfInBounds_toArray, List.set_cons_zero, List.set_cons_succ]))
          (refine wpAnyH_takeO (i := 4) (dst := (some 76)) (op := (Go.Op.move (Go.Operand.tmp 13))) (v := ?_) (by rfl) (by kernel_rfl) (by kernel_rfl) (by kernel_rfl) (fun _ _ _ h => h) ?_ hS1 ?_; rotate_left; (focus (intro _ _ _ W HW; (try dsimp only at HW); go_simp; (try with_reducible rfl))); (try simp only [Act.put, List.setIfInBounds_toArray, List.set_cons_zero, List.set_cons_succ]))
          (refine wpAnyH_takeO (i := 5) (dst := (some 77)) (op := (Go.Op.move (Go.Operand.tmp 14))) (v := ?_) (by rfl) (by kernel_rfl) (by kernel_rfl) (by kernel_rfl) (fun _ _ _ h => h) ?_ hS1 ?_; rotate_left; (focus (intro _ _ _ W HW; (try dsimp only at HW); go_simp; (try with_reducible rfl))); (try simp only [Act.put, List.setIfInBounds_toArray, List.set_cons_zero, List.set_cons_succ]))
          (refine wpAnyH_takeO (i := 6) (dst := (some 78)) (op := (Go.Op.indexAddr 38 (Go.Operand.tmp 76) (Go.Operand.tmp 77))) (v := ?_) (by rfl) (by kernel_rfl) (by kernel_rfl) (by kernel_rfl) (fun _ _ _ h => h) ?_ hS1 ?_; rotate_left; (focus (intro _ _ _ W HW; (try dsimp only at HW); go_simp; (try with_reducible rfl))); (try simp only [Act.put, List.setIfInBounds_toArray, List.set_cons_zero, List.set_cons_succ]))
          (refine wpAnyH_takeO (i := 7) (dst := (some 79)) (op := (Go.Op.load 9 (Go.Operand.tmp 78))) (v := ?_) (by rfl) (by kernel_rfl) (by kernel_rfl) (by kernel_rfl) (fun _ _ _ h => h) ?_ hS1 ?_; rotate_left; (focus (intro _ _ _ W HW; (try dsimp only at HW); go_simp; (try with_reducible rfl))); (try simp only [Act.put, List.setIfInBounds_toArray, List.set_cons_zero, List.set_cons_succ]))
          (refine wpAnyH_takeO (i := 8) (dst := (some 80)) (op := (Go.Op.binOp Go.BinOp.neq 9 (Go.Operand.tmp 75) (Go.Operand.tmp 79) 9)) (v := ?_) (by rfl) (by kernel_rfl) (by kernel_rfl) (by kernel_rfl) (fun _ _ _ h => h) ?_ hS1 ?_; rotate_left; (focus (intro _ _ _ W HW; (try dsimp only at HW); go_simp; (try with_reducible rfl))); (try simp only [Act.put, List.setIfInBounds_toArray, List.set_cons_zero, List.set_cons_succ]))
          refine wpAnyH_done (by kernel_rfl) ?_ _
          go_wp2_with fail
          exact ⟨⟨i + 1, by simp, hlt, hUr.trans0 (Upd.drew [] _)⟩, by simp [intOf]; omega⟩
        · have htt : decide ((i : Int) < (kk.length : Int)) = false := by simp; omega
          have hU8b := hU810.trans0 hUr
          have y0 := hUr.cell hS10.1 (by simp)
          obtain ⟨ll, hlv, hvb2, hgetw⟩ : ∃ ll : List UInt8, ll = (aget w0 m).getD [] ∧ ll.length ≤ 1000000000 ∧ Calls Try.prog 15 #[.pointer (some ⟨tb, 0, none⟩), encS w0] wb (fun e w' => ∃ x, e = .returned (.tuple #[x, .bool (aget w0 m).isSome]) ∧ OwnBy w' wb.heap.size x ll ∧ Upd [] wb w') := ⟨_, rfl, hvb, hget wb hU8b⟩
          have HLV := Lib.hid hlv
          clear hlv
          obtain ⟨mcells, hmR, hmC⟩ := hv8
          have HML := Lib.hid HOK.out.len
          have HVB := Lib.hid hvb2
          clear hgetb hget hll hvb hvb2
          generalize hn : pfind w0 m = n at *
          clear hn
          cases hat : m[n]? with
          | none =>
            rw [hat] at hpf
            have htl : decide ((n : Int) < (m.length : Int)) = false := by rw [List.getElem?_eq_none_iff] at hat; simp; omega
            have hnl : ¬ n < m.length := by rw [List.getElem?_eq_none_iff] at hat; omega
            have hn0 : ¬ ((n : Int) < 0) := by omega
            have hn1 : decide ((n : Int) < 0) = false := by simp
            rw [hpf] at hgetw
            clear hat hpl hpf
            go_wp2_with (first
              | (go_at_call 15; refine hgetw.mono ?_; rintro e w12 ⟨v12, rfl, hv12, hU12⟩; (have y12 := hU12.cell y0 (by simp)); (have hb12 := hv12.by); obtain ⟨ao12, cap12, hs12⟩ := By.val hb12; subst hs12)
              | (go_at_call 16; refine (hfind w12 (hU8b.trans0 hU12)).mono ?_; rintro e w13 ⟨rfl, rfl⟩))
            have hS12 : w12.drew.cell? ⟨w.heap.size, 0, none⟩ = some (encS w0) := y12
            refine wp_region_H (fun W => W.cell? ⟨w.heap.size, 0, none⟩ = some (encS w0)) (by kernel_rfl) ?_
            (refine wpAnyH_takeO (i := 0) (dst := (some 93)) (op := (Go.Op.move (Go.Operand.tmp 17))) (v := ?_) (by rfl) (by kernel_rfl) (by kernel_rfl) (by kernel_rfl) (fun _ _ _ h => h) ?_ hS12 ?_; rotate_left; (focus (intro _ _ _ W HW; (try dsimp only at HW); go_simp; (try with_reducible rfl))); (try simp only [Act.put, List.setIfInBounds_toArray, List.set_cons_zero, List.set_cons_succ]))
            (refine wpAnyH_takeO (i := 1) (dst := (some 94)) (op := (Go.Op.move (Go.Operand.tmp 11))) (v := ?_) (by rfl) (by kernel_rfl) (by kernel_rfl) (by kernel_rfl) (fun _ _ _ h => h) ?_ hS12 ?_; rotate_left; (focus (intro _ _ _ W HW; (try dsimp only at HW); go_simp; (try with_reducible rfl))); (try simp only [Act.put, List.setIfInBounds_toArray, List.set_cons_zero, List.set_cons_succ]))
            (refine wpAnyH_takeO (i := 2) (dst := (some 95)) (op := (Go.Op.call { callee := (Go.Callee.builtin Go.Builtin.len), args := #[(Go.Operand.tmp 94)], argTypes := #[33] })) (v := ?_) (by rfl) (by kernel_rfl) (by kernel_rfl) (by kernel_rfl) (fun _ _ _ h => h) ?_ hS12 ?_; rotate_left; (focus (intro _ _ _ W HW; (try dsimp only at HW); go_simp; (try with_reducible rfl))); (try simp only [Act.put, List.setIfInBounds_toArray, List.set_cons_zero, List.set_cons_succ]))
            (refine wpAnyH_takeO (i := 3) (dst := (some 96)) (op := (Go.Op.binOp Go.BinOp.lss 3 (Go.Operand.tmp 93) (Go.Operand.tmp 95) 3)) (v := ?_) (by rfl) (by kernel_rfl) (by kernel_rfl) (by kernel_rfl) (fun _ _ _ h => h) ?_ hS12 ?_; rotate_left; (focus (intro _ _ _ W HW; (try dsimp only at HW); go_simp; (try with_reducible rfl))); (try simp only [Act.put, List.setIfInBounds_toArray, List.set_cons_zero, List.set_cons_succ]))
            (refine wpAnyH_takeO (i := 4) (dst := (some 97)) (op := (Go.Op.move (Go.Operand.tmp 96))) (v := ?_) (by rfl) (by kernel_rfl) (by kernel_rfl) (by kernel_rfl) (fun _ _ _ h => h) ?_ hS12 ?_; rotate_left; (focus (intro _ _ _ W HW; (try dsimp only at HW); go_simp; (try with_reducible rfl))); (try simp only [Act.put, List.setIfInBounds_toArray, List.set_cons_zero, List.set_cons_succ]))
            (refine wpAnyH_takeU (i := 5) (dst := (some 98)) (op := (Go.Op.move (Go.Operand.tmp 11))) (by rfl) (by kernel_rfl) (by kernel_rfl) (by kernel_rfl) (b' := false) (by rfl) (by rfl) (fun _ _ _ h => h) hS12 ?_; (try simp only [Act.put, List.setIfInBounds_toArray, List.set_cons_zero, List.set_cons_succ]))
            (refine wpAnyH_takeU (i := 6) (dst := (some 99)) (op := (Go.Op.move (Go.Operand.tmp 17))) (by rfl) (by kernel_rfl) (by kernel_rfl) (by kernel_rfl) (b' := false) (by rfl) (by rfl) (fun _ _ _ h => h) hS12 ?_; (try simp only [Act.put, List.setIfInBounds_toArray, List.set_cons_zero, List.set_cons_succ]))
            (refine wpAnyH_takeU (i := 7) (dst := (some 100)) (op := (Go.Op.indexAddr 33 (Go.Operand.tmp 98) (Go.Operand.tmp 99))) (by rfl) (by kernel_rfl) (by kernel_rfl) (by kernel_rfl) (b' := false) (by rfl) (by rfl) (fun _ _ _ h => h) hS12 ?_; (try simp only [Act.put, List.setIfInBounds_toArray, List.set_cons_zero, List.set_cons_succ]))
            (refine wpAnyH_takeU (i := 8) (dst := (some 101)) (op := (Go.Op.fieldAddr 46 (Go.Operand.tmp 100) 0)) (by rfl) (by kernel_rfl) (by kernel_rfl) (by kernel_rfl) (b' := false) (by rfl) (by rfl) (fun _ _ _ h => h) hS12 ?_; (try simp only [Act.put, List.setIfInBounds_toArray, List.set_cons_zero, List.set_cons_succ]))
            (refine wpAnyH_takeU (i := 9) (dst := (some 102)) (op := (Go.Op.load 9 (Go.Operand.tmp 101))) (by rfl) (by kernel_rfl) (by kernel_rfl) (by kernel_rfl) (b' := false) (by rfl) (by rfl) (fun _ _ _ h => h) hS12 ?_; (try simp only [Act.put, List.setIfInBounds_toArray, List.set_cons_zero, List.set_cons_succ]))
            (refine wpAnyH_takeU (i := 10) (dst := (some 103)) (op := (Go.Op.indexAddr 23 (Go.Operand.tmp 4) (Go.Operand.const (Go.Value.int Go.IntKind.i64 0)))) (by rfl) (by kernel_rfl) (by kernel_rfl) (by kernel_rfl) (b' := false) (by rfl) (by rfl) (fun _ _ _ h => h) hS12 ?_; (try simp only [Act.put, List.setIfInBounds_toArray, List.set_cons_zero, List.set_cons_succ]))
            (refine wpAnyH_takeU (i := 11) (dst := (some 104)) (op := (Go.Op.load 9 (Go.Operand.tmp 103))) (by rfl) (by kernel_rfl) (by kernel_rfl) (by kernel_rfl) (b' := false) (by rfl) (by rfl) (fun _ _ _ h => h) hS12 ?_; (try simp only [Act.put, List.setIfInBounds_toArray, List.set_cons_zero, List.set_cons_succ]))
            (refine wpAnyH_takeU (i := 12) (dst := (some 105)) (op := (Go.Op.binOp Go.BinOp.eql 9 (Go.Operand.tmp 102) (Go.Operand.tmp 104) 9)) (by rfl) (by kernel_rfl) (by kernel_rfl) (by kernel_rfl) (b' := false) (by rfl) (by rfl) (fun _ _ _ h => h) hS12 ?_; (try simp only [Act.put, List.setIfInBounds_toArray, List.set_cons_zero, List.set_cons_succ]))
            (refine wpAnyH_takeO (i := 13) (dst := (some 106)) (op := (Go.Op.pick (Go.Operand.tmp 97) (Go.Operand.tmp 105) (Go.Operand.const (Go.Value.bool false)))) (v := ?_) (by rfl) (by kernel_rfl) (by kernel_rfl) (by kernel_rfl) (fun _ _ _ h => h) ?_ hS12 ?_; rotate_left; (focus (intro _ _ _ W HW; (try dsimp only at HW); go_simp; (try with_reducible rfl))); (try simp only [Act.put, List.setIfInBounds_toArray, List.set_cons_zero, List.set_cons_succ]))
            (refine wpAnyH_takeO (i := 14) (dst := (some 18)) (op := (Go.Op.assign (Go.Operand.tmp 106))) (v := ?_) (by rfl) (by kernel_rfl) (by kernel_rfl) (by kernel_rfl) (fun _ _ _ h => h) ?_ hS12 ?_; rotate_left; (focus (intro _ _ _ W HW; (try dsimp only at HW); go_simp; (try with_reducible rfl))); (try simp only [Act.put, List.setIfInBounds_toArray, List.set_cons_zero, List.set_cons_succ]))
            refine wpAnyH_done (by kernel_rfl) ?_ _
            have hU14 : Upd [] w12 w12.drew := Upd.drew [] _
            generalize hw14 : w12.drew = w14 at *
            have HX := Lib.hid (show OwnBy w14 wb.heap.size _ _ ∧ Upd [] wb w14 from ⟨Own.upd0 hv12 hU14, hU12.trans0 hU14⟩)
            clear hv12 hb12 hw14
            go_wp2_with fail
            go_loopw [125] (fun x W => XorRel wb (.slice ao12 ll.length cap12) ll x W) (fun x _ => ll.length - (intOf x).toNat)
            case atStart => exact ⟨0, ll.map enc, rfl, Nat.zero_le _, HX.out.1, fun _ _ => rfl, HX.out.2⟩
            case round =>
              obtain ⟨i, xs, rfl, hi, hown, hxs, hUw⟩ := hrel
              have hll9 := HVB.out
              by_cases hlt : i < ll.length
              · have htt : decide ((i : Int) < (ll.length : Int)) = true := by simp; omega
                obtain ⟨b, hb⟩ : ∃ b, ll[i]? = some b := ⟨_, List.getElem?_eq_getElem hlt⟩
                have hxi : xs[i]? = some (enc b) := by rw [hxs i (Nat.le_refl _)]; simp [hb]
                have HXS := Lib.hid hxs
                clear hxs hb
                go_wp2_with ((with_reducible show wpList _ _ _ (⟨_, .indexAddr _ _ _, _, _, _, _⟩ :: _) _ _); refine wpl_indexAddr_el elU8 rfl rfl hown rfl rfl (by omega) (by omega) ?_; intro g hg1 hcell hfr hst; rw [Int.toNat_natCast, Nat.mul_one, hxi] at hcell; rw [Int.toNat_natCast, Nat.mul_one] at hfr hst ⊢)
                exact ⟨⟨i + 1, xs.set i _, by simp, hlt, (hst _).1, fun j hj => by rw [List.getElem?_set_ne (by omega)]; exact HXS.out j (by omega), hUw.own hown (hst _).2⟩, by simp [intOf]; omega⟩
              · have htt : decide ((i : Int) < (ll.length : Int)) = false := by simp; omega
                have his := HIS.out wr (hU8b.trans0 hUw)
                clear hxs
                go_wp2_with (go_at_call 18; refine his.mono ?_; rintro e w15 ⟨rfl, hU15⟩)
                go_ret
                exact ⟨by simp, ((HU08.out.trans0 hU8b).trans0 hUw).trans0 hU15⟩
          | some p =>
            have hpm := List.mem_of_getElem? hat
            obtain ⟨pv, g0, g1, hpv⟩ := hmC.get hat
            have hnl : n < m.length := (List.getElem?_eq_some_iff.1 hat).1
            have htl : decide ((n : Int) < (m.length : Int)) = true := by simp; omega
            obtain ⟨b1, o1, rfl, hc1⟩ := hmR.x.at (by have := hmR.1; omega)
            have z0 := hU8b.cell (hc1 (n * 2 + 0) _ g0) (by simp)
            rw [Nat.add_zero] at z0
            have i0 : (0 : Int) ≤ (n : Int) := by omega
            have i1 : (n : Int) < (m.length : Int) := by omega
            rw [hat] at hpf
            by_cases hpk : p.1 = w0
            · simp only [if_pos hpk] at hpf
              have hne : (p.1 == w0) = true := by simpa using hpk
              rw [hpf] at hgetw
              have hlp : ll = p.2 := by rw [HLV.out, hpf]; rfl
              obtain ⟨aq, cq, hsq⟩ := By.val hpv
              subst hsq
              have HSM := Lib.hid (fun (W : World) (v : Value) (hU : Upd [] wb W) (hv : By W v ll) => show Calls Try.prog 17 #[v, .slice aq p.2.length cq] W (fun e w' => e = .returned (.bool true) ∧ Upd [] W w') from by
                have h := ref_Same W v (.slice aq p.2.length cq) ll p.2 hv.x ((hpv.upd0 (hU8b.trans0 hU)).x) HVB.out
                rwa [decide_eq_true hlp] at h)
              have HRM := Lib.hid (fun (W : World) (hU : Upd [] wb W) => hmR.upd0 (hU8b.trans0 hU))
              clear hat hpl hpf hc1 hpk hlp
              go_wp2_with (first
                | (go_at_call 15; refine hgetw.mono ?_; rintro e w12 ⟨v12, rfl, hv12, hU12⟩; (have y12 := hU12.cell y0 (by simp)); (have z12 := hU12.cell z0 (by simp)); (have hb12 := hv12.by); obtain ⟨ao12, cap12, hs12⟩ := By.val hb12; subst hs12)
                | (go_at_call 16; refine (hfind w12 (hU8b.trans0 hU12)).mono ?_; rintro e w13 ⟨rfl, rfl⟩))
              have hS12 : w12.drew.cell? ⟨w.heap.size, 0, none⟩ = some (encS w0) ∧ w12.drew.cell? ⟨b1, o1 + n * 2, none⟩ = some (encS p.1) := ⟨y12, z12⟩
              refine wp_region_H (fun W => W.cell? ⟨w.heap.size, 0, none⟩ = some (encS w0) ∧ W.cell? ⟨b1, o1 + n * 2, none⟩ = some (encS p.1)) (by kernel_rfl) ?_
              (refine wpAnyH_takeO (i := 0) (dst := (some 93)) (op := (Go.Op.move (Go.Operand.tmp 17))) (v := ?_) (by rfl) (by kernel_rfl) (by kernel_rfl) (by kernel_rfl) (fun _ _ _ h => h) ?_ hS12 ?_; rotate_left; (focus (intro _ _ _ W HW; (try dsimp only at HW); go_simp; (try with_reducible rfl))); (try simp only [Act.put, List.setIfInBounds_toArray, List.set_cons_zero, List.set_cons_succ]))
              (refine wpAnyH_takeO (i := 1) (dst := (some 94)) (op := (Go.Op.move (Go.Operand.tmp 11))) (v := ?_) (by rfl) (by kernel_rfl) (by kernel_rfl) (by kernel_rfl) (fun _ _ _ h => h) ?_ hS12 ?_; rotate_left; (focus (intro _ _ _ W HW; (try dsimp only at HW); go_simp; (try with_reducible rfl))); (try simp only [Act.put, List.setIfInBounds_toArray, List.set_cons_zero, List.set_cons_succ]))
              (refine wpAnyH_takeO (i := 2) (dst := (some 95)) (op := (Go.Op.call { callee := (Go.Callee.builtin Go.Builtin.len), args := #[(Go.Operand.tmp 94)], argTypes := #[33] })) (v := ?_) (by rfl) (by kernel_rfl) (by kernel_rfl) (by kernel_rfl) (fun _ _ _ h => h) ?_ hS12 ?_; rotate_left; (focus (intro _ _ _ W HW; (try dsimp only at HW); go_simp; (try with_reducible rfl))); (try simp only [Act.put, List.setIfInBounds_toArray, List.set_cons_zero, List.set_cons_succ]))
              (refine wpAnyH_takeO (i := 3) (dst := (some 96)) (op := (Go.Op.binOp Go.BinOp.lss 3 (Go.Operand.tmp 93) (Go.Operand.tmp 95) 3)) (v := ?_) (by rfl) (by kernel_rfl) (by kernel_rfl) (by kernel_rfl) (fun _ _ _ h => h) ?_ hS12 ?_; rotate_left; (focus (intro _ _ _ W HW; (try dsimp only at HW); go_simp; (try with_reducible rfl))); (try simp only [Act.put, List.setIfInBounds_toArray, List.set_cons_zero, List.set_cons_succ]))
              (refine wpAnyH_takeO (i := 4) (dst := (some 97)) (op := (Go.Op.move (Go.Operand.tmp 96))) (v := ?_) (by rfl) (by kernel_rfl) (by kernel_rfl) (by kernel_rfl) (fun _ _ _ h => h) ?_ hS12 ?_; rotate_left; (focus (intro _ _ _ W HW; (try dsimp only at HW); go_simp; (try with_reducible rfl))); (try simp only [Act.put, List.setIfInBounds_toArray, List.set_cons_zero, List.set_cons_succ]))
              (refine wpAnyH_takeG (i := 5) (dst := (some 98)) (op := (Go.Op.move (Go.Operand.tmp 11))) (v := ?_) (by rfl) (by kernel_rfl) (by kernel_rfl) (by kernel_rfl) (by rfl) (fun _ _ _ h => h) ?_ hS12 ?_; rotate_left; (focus (intro _ _ _ W HW; (try dsimp only at HW); go_simp; (try with_reducible rfl))); (try simp only [Act.put, List.setIfInBounds_toArray, List.set_cons_zero, List.set_cons_succ]))
              (refine wpAnyH_takeG (i := 6) (dst := (some 99)) (op := (Go.Op.move (Go.Operand.tmp 17))) (v := ?_) (by rfl) (by kernel_rfl) (by kernel_rfl) (by kernel_rfl) (by rfl) (fun _ _ _ h => h) ?_ hS12 ?_; rotate_left; (focus (intro _ _ _ W HW; (try dsimp only at HW); go_simp; (try with_reducible rfl))); (try simp only [Act.put, List.setIfInBounds_toArray, List.set_cons_zero, List.set_cons_succ]))
              (refine wpAnyH_takeG (i := 7) (dst := (some 100)) (op := (Go.Op.indexAddr 33 (Go.Operand.tmp 98) (Go.Operand.tmp 99))) (v := ?_) (by rfl) (by kernel_rfl) (by kernel_rfl) (by kernel_rfl) (by rfl) (fun _ _ _ h => h) ?_ hS12 ?_; rotate_left; (focus (intro _ _ _ W HW; (try dsimp only at HW); go_simp; (try with_reducible rfl))); (try simp only [Act.put, List.setIfInBounds_toArray, List.set_cons_zero, List.set_cons_succ]))
              (refine wpAnyH_takeG (i := 8) (dst := (some 101)) (op := (Go.Op.fieldAddr 46 (Go.Operand.tmp 100) 0)) (v := ?_) (by rfl) (by kernel_rfl) (by kernel_rfl) (by kernel_rfl) (by rfl) (fun _ _ _ h => h) ?_ hS12 ?_; rotate_left; (focus (intro _ _ _ W HW; (try dsimp only at HW); go_simp; (try with_reducible rfl))); (try simp only [Act.put, List.setIfInBounds_toArray, List.set_cons_zero, List.set_cons_succ]))
              (refine wpAnyH_takeG (i := 9) (dst := (some 102)) (op := (Go.Op.load 9 (Go.Operand.tmp 101))) (v := ?_) (by rfl) (by kernel_rfl) (by kernel_rfl) (by kernel_rfl) (by rfl) (fun _ _ _ h => h) ?_ hS12 ?_; rotate_left; (focus (intro _ _ _ W HW; (try dsimp only at HW); go_simp; (try with_reducible rfl))); (try simp only [Act.put, List.setIfInBounds_toArray, List.set_cons_zero, List.set_cons_succ]))
              (refine wpAnyH_takeG (i := 10) (dst := (some 103)) (op := (Go.Op.indexAddr 23 (Go.Operand.tmp 4) (Go.Operand.const (Go.Value.int Go.IntKind.i64 0)))) (v := ?_) (by rfl) (by kernel_rfl) (by kernel_rfl) (by kernel_rfl) (by rfl) (fun _ _ _ h => h) ?_ hS12 ?_; rotate_left; (focus (intro _ _ _ W HW; (try dsimp only at HW); go_simp; (try with_reducible rfl))); (try simp only [Act.put, List.setIfInBounds_toArray, List.set_cons_zero, List.set_cons_succ]))
              (refine wpAnyH_takeG (i := 11) (dst := (some 104)) (op := (Go.Op.load 9 (Go.Operand.tmp 103))) (v := ?_) (by rfl) (by kernel_rfl) (by kernel_rfl) (by kernel_rfl) (by rfl) (fun _ _ _ h => h) ?_ hS12 ?_; rotate_left; (focus (intro _ _ _ W HW; (try dsimp only at HW); go_simp; (try with_reducible rfl))); (try simp only [Act.put, List.setIfInBounds_toArray, List.set_cons_zero, List.set_cons_succ]))
              (refine wpAnyH_takeG (i := 12) (dst := (some 105)) (op := (Go.Op.binOp Go.BinOp.eql 9 (Go.Operand.tmp 102) (Go.Operand.tmp 104) 9)) (v := ?_) (by rfl) (by kernel_rfl) (by kernel_rfl) (by kernel_rfl) (by rfl) (fun _ _ _ h => h) ?_ hS12 ?_; rotate_left; (focus (intro _ _ _ W HW; (try dsimp only at HW); go_simp; (try with_reducible rfl))); (try simp only [Act.put, List.setIfInBounds_toArray, List.set_cons_zero, List.set_cons_succ]))
              (refine wpAnyH_takeO (i := 13) (dst := (some 106)) (op := (Go.Op.pick (Go.Operand.tmp 97) (Go.Operand.tmp 105) (Go.Operand.const (Go.Value.bool false)))) (v := ?_) (by rfl) (by kernel_rfl) (by kernel_rfl) (by kernel_rfl) (fun _ _ _ h => h) ?_ hS12 ?_; rotate_left; (focus (intro _ _ _ W HW; (try dsimp only at HW); go_simp; (try with_reducible rfl))); (try simp only [Act.put, List.setIfInBounds_toArray, List.set_cons_zero, List.set_cons_succ]))
              (refine wpAnyH_takeO (i := 14) (dst := (some 18)) (op := (Go.Op.assign (Go.Operand.tmp 106))) (v := ?_) (by rfl) (by kernel_rfl) (by kernel_rfl) (by kernel_rfl) (fun _ _ _ h => h) ?_ hS12 ?_; rotate_left; (focus (intro _ _ _ W HW; (try dsimp only at HW); go_simp; (try with_reducible rfl))); (try simp only [Act.put, List.setIfInBounds_toArray, List.set_cons_zero, List.set_cons_succ]))
              refine wpAnyH_done (by kernel_rfl) ?_ _
              have hU14 : Upd [] w12 w12.drew := Upd.drew [] _
              generalize hw14 : w12.drew = w14 at *
              have hv14 := Own.upd0 hv12 hU14
              have hU1214 := hU12.trans0 hU14
              have hmR14 := HRM.out w14 hU1214
              have hsame := HSM.out w14 _ hU1214 (OwnBy.by hv14)
              clear hv12 hb12 hw14
              go_wp2_with (first
                | ((with_reducible show wpList _ _ _ (⟨_, .indexAddr _ _ _, _, _, _, _⟩ :: _) _ _); refine wpl_indexAddr elPair rfl rfl hmR14 rfl rfl (by omega) (by omega) ?_; intro ad hcell hspot; (have k0 := hcell 0 (by omega)); (have k1 := hcell 1 (by omega)); rw [Int.toNat_natCast, g0] at k0; rw [Int.toNat_natCast, g1] at k1; clear hcell; obtain ⟨gb, gof, gs⟩ := ad; cases hspot; simp only [Addr.add_lit, Nat.add_zero] at k0 k1)
                | (go_at_call 17; refine hsame.mono ?_; rintro e w16 ⟨rfl, hU16⟩; (have HX := Lib.hid (show OwnBy w16 wb.heap.size _ _ ∧ Upd [] wb w16 from ⟨Own.upd0 hv14 hU16, hU1214.trans0 hU16⟩))))
              go_loopw [125] (fun x W => XorRel wb (.slice ao12 ll.length cap12) ll x W) (fun x _ => ll.length - (intOf x).toNat)
              case atStart => exact ⟨0, ll.map enc, rfl, Nat.zero_le _, HX.out.1, fun _ _ => rfl, HX.out.2⟩
              case round =>
                obtain ⟨i, xs, rfl, hi, hown, hxs, hUw⟩ := hrel
                have hll9 := HVB.out
                by_cases hlt : i < ll.length
                · have htt : decide ((i : Int) < (ll.length : Int)) = true := by simp; omega
                  obtain ⟨b, hb⟩ : ∃ b, ll[i]? = some b := ⟨_, List.getElem?_eq_getElem hlt⟩
                  have hxi : xs[i]? = some (enc b) := by rw [hxs i (Nat.le_refl _)]; simp [hb]
                  have HXS := Lib.hid hxs
                  clear hxs hb
                  go_wp2_with ((with_reducible show wpList _ _ _ (⟨_, .indexAddr _ _ _, _, _, _, _⟩ :: _) _ _); refine wpl_indexAddr_el elU8 rfl rfl hown rfl rfl (by omega) (by omega) ?_; intro g hg1 hcell hfr hst; rw [Int.toNat_natCast, Nat.mul_one, hxi] at hcell; rw [Int.toNat_natCast, Nat.mul_one] at hfr hst ⊢)
                  exact ⟨⟨i + 1, xs.set i _, by simp, hlt, (hst _).1, fun j hj => by rw [List.getElem?_set_ne (by omega)]; exact HXS.out j (by omega), hUw.own hown (hst _).2⟩, by simp [intOf]; omega⟩
                · have htt : decide ((i : Int) < (ll.length : Int)) = false := by simp; omega
                  have his := HIS.out wr (hU8b.trans0 hUw)
                  clear hxs
                  go_wp2_with (go_at_call 18; refine his.mono ?_; rintro e w15 ⟨rfl, hU15⟩)
                  go_ret
                  exact ⟨by simp, ((HU08.out.trans0 hU8b).trans0 hUw).trans0 hU15⟩
            · simp only [if_neg hpk] at hpf
              have hne : (p.1 == w0) = false := by simpa using hpk
              rw [hpf] at hgetw
              clear hat hpl hpf hc1 hpk
              go_wp2_with (first
                | (go_at_call 15; refine hgetw.mono ?_; rintro e w12 ⟨v12, rfl, hv12, hU12⟩; (have y12 := hU12.cell y0 (by simp)); (have z12 := hU12.cell z0 (by simp)); (have hb12 := hv12.by); obtain ⟨ao12, cap12, hs12⟩ := By.val hb12; subst hs12)
                | (go_at_call 16; refine (hfind w12 (hU8b.trans0 hU12)).mono ?_; rintro e w13 ⟨rfl, rfl⟩))
              have hS12 : w12.drew.cell? ⟨w.heap.size, 0, none⟩ = some (encS w0) ∧ w12.drew.cell? ⟨b1, o1 + n * 2, none⟩ = some (encS p.1) := ⟨y12, z12⟩
              refine wp_region_H (fun W => W.cell? ⟨w.heap.size, 0, none⟩ = some (encS w0) ∧ W.cell? ⟨b1, o1 + n * 2, none⟩ = some (encS p.1)) (by kernel_rfl) ?_
              (refine wpAnyH_takeO (i := 0) (dst := (some 93)) (op := (Go.Op.move (Go.Operand.tmp 17))) (v := ?_) (by rfl) (by kernel_rfl) (by kernel_rfl) (by kernel_rfl) (fun _ _ _ h => h) ?_ hS12 ?_; rotate_left; (focus (intro _ _ _ W HW; (try dsimp only at HW); go_simp; (try with_reducible rfl))); (try simp only [Act.put, List.setIfInBounds_toArray, List.set_cons_zero, List.set_cons_succ]))
              (refine wpAnyH_takeO (i := 1) (dst := (some 94)) (op := (Go.Op.move (Go.Operand.tmp 11))) (v := ?_) (by rfl) (by kernel_rfl) (by kernel_rfl) (by kernel_rfl) (fun _ _ _ h => h) ?_ hS12 ?_; rotate_left; (focus (intro _ _ _ W HW; (try dsimp only at HW); go_simp; (try with_reducible rfl))); (try simp only [Act.put, List.setIfInBounds_toArray, List.set_cons_zero, List.set_cons_succ]))
              (refine wpAnyH_takeO (i := 2) (dst := (some 95)) (op := (Go.Op.call { callee := (Go.Callee.builtin Go.Builtin.len), args := #[(Go.Operand.tmp 94)], argTypes := #[33] })) (v := ?_) (by rfl) (by kernel_rfl) (by kernel_rfl) (by kernel_rfl) (fun _ _ _ h => h) ?_ hS12 ?_; rotate_left; (focus (intro _ _ _ W HW; (try dsimp only at HW); go_simp; (try with_reducible rfl))); (try simp only [Act.put, List.setIfInBounds_toArray, List.set_cons_zero, List.set_cons_succ]))
              (refine wpAnyH_takeO (i := 3) (dst := (some 96)) (op := (Go.Op.binOp Go.BinOp.lss 3 (Go.Operand.tmp 93) (Go.Operand.tmp 95) 3)) (v := ?_) (by rfl) (by kernel_rfl) (by kernel_rfl) (by kernel_rfl) (fun _ _ _ h => h) ?_ hS12 ?_; rotate_left; (focus (intro _ _ _ W HW; (try dsimp only at HW); go_simp; (try with_reducible rfl))); (try simp only [Act.put, List.setIfInBounds_toArray, List.set_cons_zero, List.set_cons_succ]))
              (refine wpAnyH_takeO (i := 4) (dst := (some 97)) (op := (Go.Op.move (Go.Operand.tmp 96))) (v := ?_) (by rfl) (by kernel_rfl) (by kernel_rfl) (by kernel_rfl) (fun _ _ _ h => h) ?_ hS12 ?_; rotate_left; (focus (intro _ _ _ W HW; (try dsimp only at HW); go_simp; (try with_reducible rfl))); (try simp only [Act.put, List.setIfInBounds_toArray, List.set_cons_zero, List.set_cons_succ]))
              (refine wpAnyH_takeG (i := 5) (dst := (some 98)) (op := (Go.Op.move (Go.Operand.tmp 11))) (v := ?_) (by rfl) (by kernel_rfl) (by kernel_rfl) (by kernel_rfl) (by rfl) (fun _ _ _ h => h) ?_ hS12 ?_; rotate_left; (focus (intro _ _ _ W HW; (try dsimp only at HW); go_simp; (try with_reducible rfl))); (try simp only [Act.put, List.setIfInBounds_toArray, List.set_cons_zero, List.set_cons_succ]))
              (refine wpAnyH_takeG (i := 6) (dst := (some 99)) (op := (Go.Op.move (Go.Operand.tmp 17))) (v := ?_) (by rfl) (by kernel_rfl) (by kernel_rfl) (by kernel_rfl) (by rfl) (fun _ _ _ h => h) ?_ hS12 ?_; rotate_left; (focus (intro _ _ _ W HW; (try dsimp only at HW); go_simp; (try with_reducible rfl))); (try simp only [Act.put, List.setIfInBounds_toArray, List.set_cons_zero, List.set_cons_succ]))
              (refine wpAnyH_takeG (i := 7) (dst := (some 100)) (op := (Go.Op.indexAddr 33 (Go.Operand.tmp 98) (Go.Operand.tmp 99))) (v := ?_) (by rfl) (by kernel_rfl) (by kernel_rfl) (by kernel_rfl) (by rfl) (fun _ _ _ h => h) ?_ hS12 ?_; rotate_left; (focus (intro _ _ _ W HW; (try dsimp only at HW); go_simp; (try with_reducible rfl))); (try simp only [Act.put, List.setIfInBounds_toArray, List.set_cons_zero, List.set_cons_succ]))
              (refine wpAnyH_takeG (i := 8) (dst := (some 101)) (op := (Go.Op.fieldAddr 46 (Go.Operand.tmp 100) 0)) (v := ?_) (by rfl) (by kernel_rfl) (by kernel_rfl) (by kernel_rfl) (by rfl) (fun _ _ _ h => h) ?_ hS12 ?_; rotate_left; (focus (intro _ _ _ W HW; (try dsimp only at HW); go_simp; (try with_reducible rfl))); (try simp only [Act.put, List.setIfInBounds_toArray, List.set_cons_zero, List.set_cons_succ]))
              (refine wpAnyH_takeG (i := 9) (dst := (some 102)) (op := (Go.Op.load 9 (Go.Operand.tmp 101))) (v := ?_) (by rfl) (by kernel_rfl) (by kernel_rfl) (by kernel_rfl) (by rfl) (fun _ _ _ h => h) ?_ hS12 ?_; rotate_left; (focus (intro _ _ _ W HW; (try dsimp only at HW); go_simp; (try with_reducible rfl))); (try simp only [Act.put, List.setIfInBounds_toArray, List.set_cons_zero, List.set_cons_succ]))
              (refine wpAnyH_takeG (i := 10) (dst := (some 103)) (op := (Go.Op.indexAddr 23 (Go.Operand.tmp 4) (Go.Operand.const (Go.Value.int Go.IntKind.i64 0)))) (v := ?_) (by rfl) (by kernel_rfl) (by kernel_rfl) (by kernel_rfl) (by rfl) (fun _ _ _ h => h) ?_ hS12 ?_; rotate_left; (focus (intro _ _ _ W HW; (try dsimp only at HW); go_simp; (try with_reducible rfl))); (try simp only [Act.put, List.setIfInBounds_toArray, List.set_cons_zero, List.set_cons_succ]))
              (refine wpAnyH_takeG (i := 11) (dst := (some 104)) (op := (Go.Op.load 9 (Go.Operand.tmp 103))) (v := ?_) (by rfl) (by kernel_rfl) (by kernel_rfl) (by kernel_rfl) (by rfl) (fun _ _ _ h => h) ?_ hS12 ?_; rotate_left; (focus (intro _ _ _ W HW; (try dsimp only at HW); go_simp; (try with_reducible rfl))); (try simp only [Act.put, List.setIfInBounds_toArray, List.set_cons_zero, List.set_cons_succ]))
              (refine wpAnyH_takeG (i := 12) (dst := (some 105)) (op := (Go.Op.binOp Go.BinOp.eql 9 (Go.Operand.tmp 102) (Go.Operand.tmp 104) 9)) (v := ?_) (by rfl) (by kernel_rfl) (by kernel_rfl) (by kernel_rfl) (by rfl) (fun _ _ _ h => h) ?_ hS12 ?_; rotate_left; (focus (intro _ _ _ W HW; (try dsimp only at HW); go_simp; (try with_reducible rfl))); (try simp only [Act.put, List.setIfInBounds_toArray, List.set_cons_zero, List.set_cons_succ]))
              (refine wpAnyH_takeO (i := 13) (dst := (some 106)) (op := (Go.Op.pick (Go.Operand.tmp 97) (Go.Operand.tmp 105) (Go.Operand.const (Go.Value.bool false)))) (v := ?_) (by rfl) (by kernel_rfl) (by kernel_rfl) (by kernel_rfl) (fun _ _ _ h => h) ?_ hS12 ?_; rotate_left; (focus (intro _ _ _ W HW; (try dsimp only at HW); go_simp; (try with_reducible rfl))); (try simp only [Act.put, List.setIfInBounds_toArray, List.set_cons_zero, List.set_cons_succ]))
              (refine wpAnyH_takeO (i := 14) (dst := (some 18)) (op := (Go.Op.assign (Go.Operand.tmp 106))) (v := ?_) (by rfl) (by kernel_rfl) (by kernel_rfl) (by kernel_rfl) (fun _ _ _ h => h) ?_ hS12 ?_; rotate_left; (focus (intro _ _ _ W HW; (try dsimp only at HW); go_simp; (try with_reducible rfl))); (try simp only [Act.put, List.setIfInBounds_toArray, List.set_cons_zero, List.set_cons_succ]))
              refine wpAnyH_done (by kernel_rfl) ?_ _
              have hU14 : Upd [] w12 w12.drew := Upd.drew [] _
              generalize hw14 : w12.drew = w14 at *
              have HX := Lib.hid (show OwnBy w14 wb.heap.size _ _ ∧ Upd [] wb w14 from ⟨Own.upd0 hv12 hU14, hU12.trans0 hU14⟩)
              clear hv12 hb12 hw14
              go_wp2_with fail
              go_loopw [125] (fun x W => XorRel wb (.slice ao12 ll.length cap12) ll x W) (fun x _ => ll.length - (intOf x).toNat)
              case atStart => exact ⟨0, ll.map enc, rfl, Nat.zero_le _, HX.out.1, fun _ _ => rfl, HX.out.2⟩
              case round =>
                obtain ⟨i, xs, rfl, hi, hown, hxs, hUw⟩ := hrel
                have hll9 := HVB.out
                by_cases hlt : i < ll.length
                · have htt : decide ((i : Int) < (ll.length : Int)) = true := by simp; omega
                  obtain ⟨b, hb⟩ : ∃ b, ll[i]? = some b := ⟨_, List.getElem?_eq_getElem hlt⟩
                  have hxi : xs[i]? = some (enc b) := by rw [hxs i (Nat.le_refl _)]; simp [hb]
                  have HXS := Lib.hid hxs
                  clear hxs hb
                  go_wp2_with ((with_reducible show wpList _ _ _ (⟨_, .indexAddr _ _ _, _, _, _, _⟩ :: _) _ _); refine wpl_indexAddr_el elU8 rfl rfl hown rfl rfl (by omega) (by omega) ?_; intro g hg1 hcell hfr hst; rw [Int.toNat_natCast, Nat.mul_one, hxi] at hcell; rw [Int.toNat_natCast, Nat.mul_one] at hfr hst ⊢)
                  exact ⟨⟨i + 1, xs.set i _, by simp, hlt, (hst _).1, fun j hj => by rw [List.getElem?_set_ne (by omega)]; exact HXS.out j (by omega), hUw.own hown (hst _).2⟩, by simp [intOf]; omega⟩
                · have htt : decide ((i : Int) < (ll.length : Int)) = false := by simp; omega
                  have his := HIS.out wr (hU8b.trans0 hUw)
                  clear hxs
                  go_wp2_with (go_at_call 18; refine his.mono ?_; rintro e w15 ⟨rfl, hU15⟩)
                  go_ret
                  exact ⟨by simp, ((HU08.out.trans0 hU8b).trans0 hUw).trans0 hU15⟩
    · have hbad := apply_bad (T1 1048576 [116]) l rfl he
      rw [hbad] at hap
      have HOK := Lib.hid (tok_nil (T1 1048576 [116]).J)
      have HE := Lib.hid (show ∀ k : Nat, k = (encB l).2 → (((k : Int) == 0) = false) from by intro k hk; simp; omega)
      have hTeq : (T1 1048576 [116]) = ⟨(T1 1048576 [116]).J, [], false⟩ := rfl
      rw [hTeq] at hap
      generalize hm : ([] : List (List UInt8 × List UInt8)) = m at hap HOK
      generalize (T1 1048576 [116]).J = J at *
      obtain ⟨k, hk⟩ : ∃ k, k = (encB l).2 := ⟨_, rfl⟩
      have hk0 : ((k : Int) == 0) = false := HE.out k hk
      rw [← hk] at hap
      clear hbad hTeq he hk
      have hdo := True.intro
      go_wp2_with fail
      refine hap.mono ?_
      rintro e w7 ⟨rfl, S7, hT7, hU7, hS7⟩
      have hU07 : Upd [] w w7 := hUx.trans0 ((hU3x.trans0 hU36).new hn3 hU7)
      obtain ⟨w8, rfl⟩ : ∃ w8, w8 = w7 := ⟨w7, rfl⟩
      have hUx8 : Upd [] wx w8 := (hU3x.trans0 hU36).new hn3 hU7
      have hT8 := hT7
      have hv8 : Prs w8 (.slice none 0 0) m := by rw [← hm]; exact Prs.nil _
      have HM0 := Lib.hid (show m.length = 0 from by rw [← hm]; rfl)
      clear hm
      have bx0 := hUx8.cell x0 (by simp)
      have bx1 := hUx8.cell x1 (by simp)
      have hUd8 : Upd [] w8 w8.drew := Upd.drew [] _
      have hS0 : w8.drew.cell? ⟨w.heap.size, 0, none⟩ = some (encS w0) ∧ w8.drew.cell? ⟨w.heap.size, 1, none⟩ = some (encS w1) := ⟨bx0, bx1⟩
      have hkeys := table_keys w8.drew d tb S7 _ (hT8.upd0 hUd8) w0 w1 most (fun p hp => by have := (HOK.out.keys p hp).2.1; unfold maxLen; omega) HOK.out.len HW0.out HM.out
      have hrk := fun (W : World) (hU : Upd [] w8 W) => ref_Keys W (.slice none 0 0) m (hv8.upd0 hU) w0 w1 most HOK.out.len
      rw [sortK_srt HOK.out.srt] at hkeys
      have hkl : (keysGo w0 w1 most [] (m.map (·.1))).length ≤ 1000000000 := by
        have := keysGo_len w0 w1 most (m.map (·.1)) []
        have := HOK.out.len
        simp at this; simp at *; omega
      generalize keysGo w0 w1 most [] (m.map (·.1)) = kk at *
      have HKL := Lib.hid hkl
      clear hkl
      go_wp2_with fail
      refine wp_region_H (fun W => W.cell? ⟨w.heap.size, 0, none⟩ = some (encS w0) ∧ W.cell? ⟨w.heap.size, 1, none⟩ = some (encS w1)) (by kernel_rfl) ?_
      (refine wpAnyH_takeO (i := 0) (dst := (some 48)) (op := (Go.Op.move (Go.Operand.tmp 9))) (v := ?_) (by rfl) (by kernel_rfl) (by kernel_rfl) (by kernel_rfl) (fun _ _ _ h => h) ?_ hS0 ?_; rotate_left; (focus (intro _ _ _ W HW; (try dsimp only at HW); go_simp; (try with_reducible rfl))); (try simp only [Act.put, List.setIfInBounds_toArray, List.set_cons_zero, List.set_cons_succ]))
      (refine wpAnyH_takeO (i := 1) (dst := (some 49)) (op := (Go.Op.indexAddr 23 (Go.Operand.tmp 4) (Go.Operand.const (Go.Value.int Go.IntKind.i64 0)))) (v := ?_) (by rfl) (by kernel_rfl) (by kernel_rfl) (by kernel_rfl) (fun _ _ _ h => h) ?_ hS0 ?_; rotate_left; (focus (intro _ _ _ W HW; (try dsimp only at HW); go_simp; (try with_reducible rfl))); (try simp only [Act.put, List.setIfInBounds_toArray, List.set_cons_zero, List.set_cons_succ]))
      (refine wpAnyH_takeO (i := 2) (dst := (some 50)) (op := (Go.Op.load 9 (Go.Operand.tmp 49))) (v := ?_) (by rfl) (by kernel_rfl) (by kernel_rfl) (by kernel_rfl) (fun _ _ _ h => h) ?_ hS0 ?_; rotate_left; (focus (intro _ _ _ W HW; (try dsimp only at HW); go_simp; (try with_reducible rfl))); (try simp only [Act.put, List.setIfInBounds_toArray, List.set_cons_zero, List.set_cons_succ]))
      (refine wpAnyH_takeO (i := 3) (dst := (some 51)) (op := (Go.Op.indexAddr 23 (Go.Operand.tmp 4) (Go.Operand.const (Go.Value.int Go.IntKind.i64 1)))) (v := ?_) (by rfl) (by kernel_rfl) (by kernel_rfl) (by kernel_rfl) (fun _ _ _ h => h) ?_ hS0 ?_; rotate_left; (focus (intro _ _ _ W HW; (try dsimp only at HW); go_simp; (try with_reducible rfl))); (try simp only [Act.put, List.setIfInBounds_toArray, List.set_cons_zero, List.set_cons_succ]))
      (refine wpAnyH_takeO (i := 4) (dst := (some 52)) (op := (Go.Op.load 9 (Go.Operand.tmp 51))) (v := ?_) (by rfl) (by kernel_rfl) (by kernel_rfl) (by kernel_rfl) (fun _ _ _ h => h) ?_ hS0 ?_; rotate_left; (focus (intro _ _ _ W HW; (try dsimp only at HW); go_simp; (try with_reducible rfl))); (try simp only [Act.put, List.setIfInBounds_toArray, List.set_cons_zero, List.set_cons_succ]))
      (refine wpAnyH_takeO (i := 5) (dst := (some 53)) (op := (Go.Op.move (Go.Operand.tmp 2))) (v := ?_) (by rfl) (by kernel_rfl) (by kernel_rfl) (by kernel_rfl) (fun _ _ _ h => h) ?_ hS0 ?_; rotate_left; (focus (intro _ _ _ W HW; (try dsimp only at HW); go_simp; (try with_reducible rfl))); (try simp only [Act.put, List.setIfInBounds_toArray, List.set_cons_zero, List.set_cons_succ]))
      (refine wpAnyH_takeO (i := 7) (dst := (some 55)) (op := (Go.Op.move (Go.Operand.tmp 11))) (v := ?_) (by rfl) (by kernel_rfl) (by kernel_rfl) (by kernel_rfl) (fun _ _ _ h => h) ?_ hS0 ?_; rotate_left; (focus (intro _ _ _ W HW; (try dsimp only at HW); go_simp; (try with_reducible rfl))); (try simp only [Act.put, List.setIfInBounds_toArray, List.set_cons_zero, List.set_cons_succ]))
      (refine wpAnyH_takeO (i := 8) (dst := (some 56)) (op := (Go.Op.indexAddr 23 (Go.Operand.tmp 4) (Go.Operand.const (Go.Value.int Go.IntKind.i64 0)))) (v := ?_) (by rfl) (by kernel_rfl) (by kernel_rfl) (by kernel_rfl) (fun _ _ _ h => h) ?_ hS0 ?_; rotate_left; (focus (intro _ _ _ W HW; (try dsimp only at HW); go_simp; (try with_reducible rfl))); (try simp only [Act.put, List.setIfInBounds_toArray, List.set_cons_zero, List.set_cons_succ]))
      (refine wpAnyH_takeO (i := 9) (dst := (some 57)) (op := (Go.Op.load 9 (Go.Operand.tmp 56))) (v := ?_) (by rfl) (by kernel_rfl) (by kernel_rfl) (by kernel_rfl) (fun _ _ _ h => h) ?_ hS0 ?_; rotate_left; (focus (intro _ _ _ W HW; (try dsimp only at HW); go_simp; (try with_reducible rfl))); (try simp only [Act.put, List.setIfInBounds_toArray, List.set_cons_zero, List.set_cons_succ]))
      (refine wpAnyH_takeO (i := 10) (dst := (some 58)) (op := (Go.Op.indexAddr 23 (Go.Operand.tmp 4) (Go.Operand.const (Go.Value.int Go.IntKind.i64 1)))) (v := ?_) (by rfl) (by kernel_rfl) (by kernel_rfl) (by kernel_rfl) (fun _ _ _ h => h) ?_ hS0 ?_; rotate_left; (focus (intro _ _ _ W HW; (try dsimp only at HW); go_simp; (try with_reducible rfl))); (try simp only [Act.put, List.setIfInBounds_toArray, List.set_cons_zero, List.set_cons_succ]))
      (refine wpAnyH_takeO (i := 11) (dst := (some 59)) (op := (Go.Op.load 9 (Go.Operand.tmp 58))) (v := ?_) (by rfl) (by kernel_rfl) (by kernel_rfl) (by kernel_rfl) (fun _ _ _ h => h) ?_ hS0 ?_; rotate_left; (focus (intro _ _ _ W HW; (try dsimp only at HW); go_simp; (try with_reducible rfl))); (try simp only [Act.put, List.setIfInBounds_toArray, List.set_cons_zero, List.set_cons_succ]))
      (refine wpAnyH_takeO (i := 12) (dst := (some 60)) (op := (Go.Op.move (Go.Operand.tmp 2))) (v := ?_) (by rfl) (by kernel_rfl) (by kernel_rfl) (by kernel_rfl) (fun _ _ _ h => h) ?_ hS0 ?_; rotate_left; (focus (intro _ _ _ W HW; (try dsimp only at HW); go_simp; (try with_reducible rfl))); (try simp only [Act.put, List.setIfInBounds_toArray, List.set_cons_zero, List.set_cons_succ]))
      refine wpAnyH_call (i := 6) (dst := (some 54)) (op := (Go.Op.call { callee := (Go.Callee.value (Go.Operand.func 13)), args := #[(Go.Operand.tmp 48), (Go.Operand.tmp 50), (Go.Operand.tmp 52), (Go.Operand.tmp 53)], argTypes := #[28, 9, 9, 3] })) (f := 13) (vs := #[.pointer (some ⟨tb, 0, none⟩), encS w0, encS w1, .int .i64 most]) (by kernel_rfl) (by rfl) (fun _ _ _ => by go_simp) ?_
      refine hkeys.mono ?_
      rintro e w9 ⟨v9, rfl, hv9, hU9⟩
      have hS9 : w9.cell? ⟨w.heap.size, 0, none⟩ = some (encS w0) ∧ w9.cell? ⟨w.heap.size, 1, none⟩ = some (encS w1) := ⟨hU9.cell hS0.1 (by simp), hU9.cell hS0.2 (by simp)⟩
      refine ⟨v9, rfl, hS9, ?_⟩
      (try simp only [Act.put, List.setIfInBounds_toArray, List.set_cons_zero, List.set_cons_succ])
      refine wpAnyH_call (i := 13) (dst := (some 61)) (op := (Go.Op.call { callee := (Go.Callee.value (Go.Operand.func 14)), args := #[(Go.Operand.tmp 55), (Go.Operand.tmp 57), (Go.Operand.tmp 59), (Go.Operand.tmp 60)], argTypes := #[33, 9, 9, 3] })) (f := 14) (vs := #[(.slice none 0 0), encS w0, encS w1, .int .i64 most]) (by kernel_rfl) (by rfl) (fun _ _ _ => by go_simp) ?_
      refine (hrk w9 (hUd8.trans0 hU9)).mono ?_
      rintro e w10 ⟨v10, rfl, hv10, hU10⟩
      have hS10 : w10.cell? ⟨w.heap.size, 0, none⟩ = some (encS w0) ∧ w10.cell? ⟨w.heap.size, 1, none⟩ = some (encS w1) := ⟨hU10.cell hS9.1 (by simp), hU10.cell hS9.2 (by simp)⟩
      refine ⟨v10, rfl, hS10, ?_⟩
      (try simp only [Act.put, List.setIfInBounds_toArray, List.set_cons_zero, List.set_cons_succ])
      (refine wpAnyH_takeO (i := 14) (dst := (some 12)) (op := (Go.Op.assign (Go.Operand.tmp 54))) (v := ?_) (by rfl) (by kernel_rfl) (by kernel_rfl) (by kernel_rfl) (fun _ _ _ h => h) ?_ hS10 ?_; rotate_left; (focus (intro _ _ _ W HW; (try dsimp only at HW); go_simp; (try with_reducible rfl))); (try simp only [Act.put, List.setIfInBounds_toArray, List.set_cons_zero, List.set_cons_succ]))
      (refine wpAnyH_takeO (i := 15) (dst := (some 13)) (op := (Go.Op.assign (Go.Operand.tmp 61))) (v := ?_) (by rfl) (by kernel_rfl) (by kernel_rfl) (by kernel_rfl) (fun _ _ _ h => h) ?_ hS10 ?_; rotate_left; (focus (intro _ _ _ W HW; (try dsimp only at HW); go_simp; (try with_reducible rfl))); (try simp only [Act.put, List.setIfInBounds_toArray, List.set_cons_zero, List.set_cons_succ]))
      refine wpAnyH_done (by kernel_rfl) ?_ _
      have hR9 : Rd w10 9 1 v9 kk.length (kk.map encS) := (Rd.of_own hv9).upd0 hU10
      have hR10 := Rd.of_own hv10
      obtain ⟨ao9, cap9, hs9, _⟩ := hR9.shape
      subst hs9
      obtain ⟨ao10, cap10, hs10, _⟩ := hR10.shape
      subst hs10
      have hU810 := (hUd8.trans0 hU9).trans0 hU10
      have hfind := fun (W : World) (hU : Upd [] w8 W) => ref_Find W (.slice none 0 0) m (hv8.upd0 hU) w0 HOK.out.len
      have hgetb : ((aget w0 m).getD []).length ≤ 1073741824 := by
        cases hc : aget w0 m with
        | none => simp
        | some u => have := (HOK.out.keys _ ((aget_some HOK.out.srt.nodup).1 hc)).2.2; simp; simp at this; omega
      have hget := fun (W : World) (hU : Upd [] w8 W) => table_get W d tb S7 _ (hT8.upd0 hU) w0 hgetb
      have hvb : ((aget w0 m).getD []).length ≤ 1000000000 := by
        cases hc : aget w0 m with
        | none => simp
        | some u => have := (HOK.out.keys _ ((aget_some HOK.out.srt.nodup).1 hc)).2.2; simpa using this
      have hpf := pfind_aget HOK.out.srt w0
      have hpl := pfind_le w0 m
      have HIS := Lib.hid (fun (W : World) (hU : Upd [] w8 W) => law_Is W d tb S7 _ (hT8.upd0 hU) HOK.out (.slice none 0 0) m (hv8.upd0 hU))
      have HU08 := Lib.hid (hUx.trans0 hUx8)
      clear hkeys hrk hdo hap hT8 hT7 hT6 hT3 hv6 hS0 hS9 hUd8 hU9 hU10
      go_wp2_with fail
      go_loopw [69] (fun x W => KLoop w10 kk.length x W) (fun x _ => kk.length - (intOf x).toNat)
      case atStart => exact ⟨0, rfl, Nat.zero_le _, Upd.refl _ _⟩
      case round =>
        obtain ⟨i, rfl, hi, hUr⟩ := hrel
        obtain ⟨wb, rfl⟩ : ∃ wb, wb = wr := ⟨wr, rfl⟩
        have hll := HKL.out
        by_cases hlt : i < kk.length
        · have htt : decide ((i : Int) < (kk.length : Int)) = true := by simp; omega
          obtain ⟨k, hk⟩ : ∃ k, kk[i]? = some k := ⟨_, List.getElem?_eq_getElem hlt⟩
          obtain ⟨b1, o1, rfl, hc1⟩ := hR9.x.at (by simp; omega)
          obtain ⟨b2, o2, rfl, hc2⟩ := hR10.x.at (by simp; omega)
          have d1 := hUr.cell (hc1 i (encS k) (by simp [hk])) (by simp)
          have d2 := hUr.cell (hc2 i (encS k) (by simp [hk])) (by simp)
          have hkk : (!k == k) = false := by simp
          have i0 : (0 : Int) ≤ (i : Int) := by omega
          have i1 : (i : Int) < (kk.length : Int) := by omega
          have hS1 : wb.drew.cell? ⟨b1, o1 + i, none⟩ = some (encS k) ∧ wb.drew.cell? ⟨b2, o2 + i, none⟩ = some (encS k) := ⟨d1, d2⟩
          clear hc1 hc2 hk
          go_wp2_with fail
          refine wp_region_H (fun W => W.cell? ⟨b1, o1 + i, none⟩ = some (encS k) ∧ W.cell? ⟨b2, o2 + i, none⟩ = some (encS k)) (by kernel_rfl) ?_
          (refine wpAnyH_takeO (i := 0) (dst := (some 72)) (op := (Go.Op.move (Go.Operand.tmp 12))) (v := ?_) (by rfl) (by kernel_rfl) (by kernel_rfl) (by kernel_rfl) (fun _ _ _ h => h) ?_ hS1 ?_; rotate_left; (focus (intro _ _ _ W HW; (try dsimp only at HW); go_simp; (try with_reducible rfl))); (try simp only [Act.put, List.setIfInBounds_toArray, List.set_cons_zero, List.set_cons_succ]))
          (refine wpAnyH_takeO (i := 1) (dst := (some 73)) (op := (Go.Op.move (Go.Operand.tmp 14))) (v := ?_) (by rfl) (by kernel_rfl) (by kernel_rfl) (by kernel_rfl) (fun _ _ _ h => h) ?_ hS1 ?_; rotate_left; (focus (intro _ _ _ W HW; (try dsimp only at HW); go_simp; (try with_reducible rfl))); (try simp only [Act.put, List.setIfInBounds_toArray, List.set_cons_zero, List.set_cons_succ]))
          (refine wpAnyH_takeO (i := 2) (dst := (some 74)) (op := (Go.Op.indexAddr 38 (Go.Operand.tmp 72) (Go.Operand.tmp 73))) (v := ?_) (by rfl) (by kernel_rfl) (by kernel_rfl) (by kernel_rfl) (fun _ _ _ h => h) ?_ hS1 ?_; rotate_left; (focus (intro _ _ _ W HW; (try dsimp only at HW); go_simp; (try with_reducible rfl))); (try simp only [Act.put, List.setIfInBounds_toArray, List.set_cons_zero, List.set_cons_succ]))
          (refine wpAnyH_takeO (i := 3) (dst := (some 75)) (op := (Go.Op.load 9 (Go.Operand.tmp 74))) (v := ?_) (by rfl) (by kernel_rfl) (by kernel_rfl) (by kernel_rfl) (fun _ _ _ h => h) ?_ hS1 ?_; rotate_left; (focus (intro _ _ _ W HW; (try dsimp only at HW); go_simp; (try with_reducible rfl))); (try simp only [Act.put, List.setIfInBounds_toArray, List.set_cons_zero, List.set_cons_succ]))
          (refine wpAnyH_takeO (i := 4) (dst := (some 76)) (op := (Go.Op.move (Go.Operand.tmp 13))) (v := ?_) (by rfl) (by kernel_rfl) (by kernel_rfl) (by kernel_rfl) (fun _ _ _ h => h) ?_ hS1 ?_; rotate_left; (focus (intro _ _ _ W HW; (try dsimp only at HW); go_simp; (try with_reducible rfl))); (try simp only [Act.put, List.setIfInBounds_toArray, List.set_cons_zero, List.set_cons_succ]))
          (refine wpAnyH_takeO (i := 5) (dst := (some 77)) (op := (Go.Op.move (Go.Operand.tmp 14))) (v := ?_) (by rfl) (by kernel_rfl) (by kernel_rfl) (by kernel_rfl) (fun _ _ _ h => h) ?_ hS1 ?_; rotate_left; (focus (intro _ _ _ W HW; (try dsimp only at HW); go_simp; (try with_reducible rfl))); (try simp only [Act.put, List.setIfInBounds_toArray, List.set_cons_zero, List.set_cons_succ]))
          (refine wpAnyH_takeO (i := 6) (dst := (some 78)) (op := (Go.Op.indexAddr 38 (Go.Operand.tmp 76) (Go.Operand.tmp 77))) (v := ?_) (by rfl) (by kernel_rfl) (by kernel_rfl) (by kernel_rfl) (fun _ _ _ h => h) ?_ hS1 ?_; rotate_left; (focus (intro _ _ _ W HW; (try dsimp only at HW); go_simp; (try with_reducible rfl))); (try simp only [Act.put, List.setIfInBounds_toArray, List.set_cons_zero, List.set_cons_succ]))
          (refine wpAnyH_takeO (i := 7) (dst := (some 79)) (op := (Go.Op.load 9 (Go.Operand.tmp 78))) (v := ?_) (by rfl) (by kernel_rfl) (by kernel_rfl) (by kernel_rfl) (fun _ _ _ h => h) ?_ hS1 ?_; rotate_left; (focus (intro _ _ _ W HW; (try dsimp only at HW); go_simp; (try with_reducible rfl))); (try simp only [Act.put, List.setIfInBounds_toArray, List.set_cons_zero, List.set_cons_succ]))
          (refine wpAnyH_takeO (i := 8) (dst := (some 80)) (op := (Go.Op.binOp Go.BinOp.neq 9 (Go.Operand.tmp 75) (Go.Operand.tmp 79) 9)) (v := ?_) (by rfl) (by kernel_rfl) (by kernel_rfl) (by kernel_rfl) (fun _ _ _ h => h) ?_ hS1 ?_; rotate_left; (focus (intro _ _ _ W HW; (try dsimp only at HW); go_simp; (try with_reducible rfl))); (try simp only [Act.put, List.setIfInBounds_toArray, List.set_cons_zero, List.set_cons_succ]))
          refine wpAnyH_done (by kernel_rfl) ?_ _
          go_wp2_with fail
          exact ⟨⟨i + 1, by simp, hlt, hUr.trans0 (Upd.drew [] _)⟩, by simp [intOf]; omega⟩
        · have htt : decide ((i : Int) < (kk.length : Int)) = false := by simp; omega
          have hU8b := hU810.trans0 hUr
          have y0 := hUr.cell hS10.1 (by simp)
          obtain ⟨ll, hlv, hvb2, hgetw⟩ : ∃ ll : List UInt8, ll = (aget w0 m).getD [] ∧ ll.length ≤ 1000000000 ∧ Calls Try.prog 15 #[.pointer (some ⟨tb, 0, none⟩), encS w0] wb (fun e w' => ∃ x, e = .returned (.tuple #[x, .bool (aget w0 m).isSome]) ∧ OwnBy w' wb.heap.size x ll ∧ Upd [] wb w') := ⟨_, rfl, hvb, hget wb hU8b⟩
          have HLV := Lib.hid hlv
          clear hlv
          obtain ⟨mcells, hmR, hmC⟩ := hv8
          have HML := Lib.hid HOK.out.len
          have HVB := Lib.hid hvb2
          clear hgetb hget hll hvb hvb2
          generalize hn : pfind w0 m = n at *
          clear hn
          cases hat : m[n]? with
          | none =>
            rw [hat] at hpf
            have htl : decide ((n : Int) < (m.length : Int)) = false := by rw [List.getElem?_eq_none_iff] at hat; simp; omega
            have hnl : ¬ n < m.length := by rw [List.getElem?_eq_none_iff] at hat; omega
            have hn0 : ¬ ((n : Int) < 0) := by omega
            have hn1 : decide ((n : Int) < 0) = false := by simp
            rw [hpf] at hgetw
            clear hat hpl hpf
            go_wp2_with (first
              | (go_at_call 15; refine hgetw.mono ?_; rintro e w12 ⟨v12, rfl, hv12, hU12⟩; (have y12 := hU12.cell y0 (by simp)); (have hb12 := hv12.by); obtain ⟨ao12, cap12, hs12⟩ := By.val hb12; subst hs12)
              | (go_at_call 16; refine (hfind w12 (hU8b.trans0 hU12)).mono ?_; rintro e w13 ⟨rfl, rfl⟩))
            have hS12 : w12.drew.cell? ⟨w.heap.size, 0, none⟩ = some (encS w0) := y12
            refine wp_region_H (fun W => W.cell? ⟨w.heap.size, 0, none⟩ = some (encS w0)) (by kernel_rfl) ?_
            (refine wpAnyH_takeO (i := 0) (dst := (some 93)) (op := (Go.Op.move (Go.Operand.tmp 17))) (v := ?_) (by rfl) (by kernel_rfl) (by kernel_rfl) (by kernel_rfl) (fun _ _ _ h => h) ?_ hS12 ?_; rotate_left; (focus (intro _ _ _ W HW; (try dsimp only at HW); go_simp; (try with_reducible rfl))); (try simp only [Act.put, List.setIfInBounds_toArray, List.set_cons_zero, List.set_cons_succ]))
            (refine wpAnyH_takeO (i := 1) (dst := (some 94)) (op := (Go.Op.move (Go.Operand.tmp 11))) (v := ?_) (by rfl) (by kernel_rfl) (by kernel_rfl) (by kernel_rfl) (fun _ _ _ h => h) ?_ hS12 ?_; rotate_left; (focus (intro _ _ _ W HW; (try dsimp only at HW); go_simp; (try with_reducible rfl))); (try simp only [Act.put, List.setIfInBounds_toArray, List.set_cons_zero, List.set_cons_succ]))
            (refine wpAnyH_takeO (i := 2) (dst := (some 95)) (op := (Go.Op.call { callee := (Go.Callee.builtin Go.Builtin.len), args := #[(Go.Operand.tmp 94)], argTypes := #[33] })) (v := ?_) (by rfl) (by kernel_rfl) (by kernel_rfl) (by kernel_rfl) (fun _ _ _ h => h) ?_ hS12 ?_; rotate_left; (focus (intro _ _ _ W HW; (try dsimp only at HW); go_simp; (try with_reducible rfl))); (try simp only [Act.put, List.setIfInBounds_toArray, List.set_cons_zero, List.set_cons_succ]))
            (refine wpAnyH_takeO (i := 3) (dst := (some 96)) (op := (Go.Op.binOp Go.BinOp.lss 3 (Go.Operand.tmp 93) (Go.Operand.tmp 95) 3)) (v := ?_) (by rfl) (by kernel_rfl) (by kernel_rfl) (by kernel_rfl) (fun _ _ _ h => h) ?_ hS12 ?_; rotate_left; (focus (intro _ _ _ W HW; (try dsimp only at HW); go_simp; (try with_reducible rfl))); (try simp only [Act.put, List.setIfInBounds_toArray, List.set_cons_zero, List.set_cons_succ]))
            (refine wpAnyH_takeO (i := 4) (dst := (some 97)) (op := (Go.Op.move (Go.Operand.tmp 96))) (v := ?_) (by rfl) (by kernel_rfl) (by kernel_rfl) (by kernel_rfl) (fun _ _ _ h => h) ?_ hS12 ?_; rotate_left; (focus (intro _ _ _ W HW; (try dsimp only at HW); go_simp; (try with_reducible rfl))); (try simp only [Act.put, List.setIfInBounds_toArray, List.set_cons_zero, List.set_cons_succ]))
            (refine wpAnyH_takeU (i := 5) (dst := (some 98)) (op := (Go.Op.move (Go.Operand.tmp 11))) (by rfl) (by kernel_rfl) (by kernel_rfl) (by kernel_rfl) (b' := false) (by rfl) (by rfl) (fun _ _ _ h => h) hS12 ?_; (try simp only [Act.put, List.setIfInBounds_toArray, List.set_cons_zero, List.set_cons_succ]))
            (refine wpAnyH_takeU (i := 6) (dst := (some 99)) (op := (Go.Op.move (Go.Operand.tmp 17))) (by rfl) (by kernel_rfl) (by kernel_rfl) (by kernel_rfl) (b' := false) (by rfl) (by rfl) (fun _ _ _ h => h) hS12 ?_; (try simp only [Act.put, List.setIfInBounds_toArray, List.set_cons_zero, List.set_cons_succ]))
            (refine wpAnyH_takeU (i := 7) (dst := (some 100)) (op := (Go.Op.indexAddr 33 (Go.Operand.tmp 98) (Go.Operand.tmp 99))) (by rfl) (by kernel_rfl) (by kernel_rfl) (by kernel_rfl) (b' := false) (by rfl) (by rfl) (fun _ _ _ h => h) hS12 ?_; (try simp only [Act.put, List.setIfInBounds_toArray, List.set_cons_zero, List.set_cons_succ]))
            (refine wpAnyH_takeU (i := 8) (dst := (some 101)) (op := (Go.Op.fieldAddr 46 (Go.Operand.tmp 100) 0)) (by rfl) (by kernel_rfl) (by kernel_rfl) (by kernel_rfl) (b' := false) (by rfl) (by rfl) (fun _ _ _ h => h) hS12 ?_; (try simp only [Act.put, List.setIfInBounds_toArray, List.set_cons_zero, List.set_cons_succ]))
            (refine wpAnyH_takeU (i := 9) (dst := (some 102)) (op := (Go.Op.load 9 (Go.Operand.tmp 101))) (by rfl) (by kernel_rfl) (by kernel_rfl) (by kernel_rfl) (b' := false) (by rfl) (by rfl) (fun _ _ _ h => h) hS12 ?_; (try simp only [Act.put, List.setIfInBounds_toArray, List.set_cons_zero, List.set_cons_succ]))
            (refine wpAnyH_takeU (i := 10) (dst := (some 103)) (op := (Go.Op.indexAddr 23 (Go.Operand.tmp 4) (Go.Operand.const (Go.Value.int Go.IntKind.i64 0)))) (by rfl) (by kernel_rfl) (by kernel_rfl) (by kernel_rfl) (b' := false) (by rfl) (by rfl) (fun _ _ _ h => h) hS12 ?_; (try simp only [Act.put, List.setIfInBounds_toArray, List.set_cons_zero, List.set_cons_succ]))
            (refine wpAnyH_takeU (i := 11) (dst := (some 104)) (op := (Go.Op.load 9 (Go.Operand.tmp 103))) (by rfl) (by kernel_rfl) (by kernel_rfl) (by kernel_rfl) (b' := false) (by rfl) (by rfl) (fun _ _ _ h => h) hS12 ?_; (try simp only [Act.put, List.setIfInBounds_toArray, List.set_cons_zero, List.set_cons_succ]))
            (refine wpAnyH_takeU (i := 12) (dst := (some 105)) (op := (Go.Op.binOp Go.BinOp.eql 9 (Go.Operand.tmp 102) (Go.Operand.tmp 104) 9)) (by rfl) (by kernel_rfl) (by kernel_rfl) (by kernel_rfl) (b' := false) (by rfl) (by rfl) (fun _ _ _ h => h) hS12 ?_; (try simp only [Act.put, List.setIfInBounds_toArray, List.set_cons_zero, List.set_cons_succ]))
            (refine wpAnyH_takeO (i := 13) (dst := (some 106)) (op := (Go.Op.pick (Go.Operand.tmp 97) (Go.Operand.tmp 105) (Go.Operand.const (Go.Value.bool false)))) (v := ?_) (by rfl) (by kernel_rfl) (by kernel_rfl) (by kernel_rfl) (fun _ _ _ h => h) ?_ hS12 ?_; rotate_left; (focus (intro _ _ _ W HW; (try dsimp only at HW); go_simp; (try with_reducible rfl))); (try simp only [Act.put, List.setIfInBounds_toArray, List.set_cons_zero, List.set_cons_succ]))
            (refine wpAnyH_takeO (i := 14) (dst := (some 18)) (op := (Go.Op.assign (Go.Operand.tmp 106))) (v := ?_) (by rfl) (by kernel_rfl) (by kernel_rfl) (by kernel_rfl) (fun _ _ _ h => h) ?_ hS12 ?_; rotate_left; (focus (intro _ _ _ W HW; (try dsimp only at HW); go_simp; (try with_reducible rfl))); (try simp only [Act.put, List.setIfInBounds_toArray, List.set_cons_zero, List.set_cons_succ]))
            refine wpAnyH_done (by kernel_rfl) ?_ _
            have hU14 : Upd [] w12 w12.drew := Upd.drew [] _
            generalize hw14 : w12.drew = w14 at *
            have HX := Lib.hid (show OwnBy w14 wb.heap.size _ _ ∧ Upd [] wb w14 from ⟨Own.upd0 hv12 hU14, hU12.trans0 hU14⟩)
            clear hv12 hb12 hw14
            go_wp2_with fail
            go_loopw [125] (fun x W => XorRel wb (.slice ao12 ll.length cap12) ll x W) (fun x _ => ll.length - (intOf x).toNat)
            case atStart => exact ⟨0, ll.map enc, rfl, Nat.zero_le _, HX.out.1, fun _ _ => rfl, HX.out.2⟩
            case round =>
              obtain ⟨i, xs, rfl, hi, hown, hxs, hUw⟩ := hrel
              have hll9 := HVB.out
              by_cases hlt : i < ll.length
              · have htt : decide ((i : Int) < (ll.length : Int)) = true := by simp; omega
                obtain ⟨b, hb⟩ : ∃ b, ll[i]? = some b := ⟨_, List.getElem?_eq_getElem hlt⟩
                have hxi : xs[i]? = some (enc b) := by rw [hxs i (Nat.le_refl _)]; simp [hb]
                have HXS := Lib.hid hxs
                clear hxs hb
                go_wp2_with ((with_reducible show wpList _ _ _ (⟨_, .indexAddr _ _ _, _, _, _, _⟩ :: _) _ _); refine wpl_indexAddr_el elU8 rfl rfl hown rfl rfl (by omega) (by omega) ?_; intro g hg1 hcell hfr hst; rw [Int.toNat_natCast, Nat.mul_one, hxi] at hcell; rw [Int.toNat_natCast, Nat.mul_one] at hfr hst ⊢)
                exact ⟨⟨i + 1, xs.set i _, by simp, hlt, (hst _).1, fun j hj => by rw [List.getElem?_set_ne (by omega)]; exact HXS.out j (by omega), hUw.own hown (hst _).2⟩, by simp [intOf]; omega⟩
              · have htt : decide ((i : Int) < (ll.length : Int)) = false := by simp; omega
                have his := HIS.out wr (hU8b.trans0 hUw)
                clear hxs
                go_wp2_with (go_at_call 18; refine his.mono ?_; rintro e w15 ⟨rfl, hU15⟩)
                go_ret
                exact ⟨by simp, ((HU08.out.trans0 hU8b).trans0 hUw).trans0 hU15⟩
          | some p =>
            exact absurd hat (by rw [List.eq_nil_of_length_eq_zero HM0.out]; simp)
end Go.Proofs.Ythfbfdkjgkkpcaa
