/-
  The walk of the table's Encode.
-/
import Derived.Test.YthfbfdkjgkkpcaaTab
import Derived.Test.YthfbfdkjgkkpcaaConv
namespace Go.Proofs.Ythfbfdkjgkkpcaa
open Go Go.RowKit

theorem app_by {P : Program} {T ty : Nat} {w0 w : World} {v y : Value} {l l2 : List UInt8} (hE : Elem P T 5 1 1) (hown : OwnBy w w0.heap.size v l) (hR : By w y l2) (hU : Upd [] w0 w) (hb : l.length + l2.length ≤ 1073741824) :
    ∃ v' w', (Builtin.append_ #[T, T] ty #[v, y]).run P w = .ok v' w' ∧ OwnBy w' w0.heap.size v' (l ++ l2) ∧ Upd v.ownBlock.toList w w' ∧ Upd [] w0 w' ∧ (v'.ownBlock = v.ownBlock ∨ v'.ownBlock = some w.heap.size) := by
  obtain ⟨v', w', hr, h1, h2, h3⟩ := run_append_rd (ty := ty) hE hown hR (enc_oneCell l2) (by unfold maxLen; omega) (by omega) hU.size
  rw [← List.map_append, ← List.length_append] at h1
  have hU' : Upd v.ownBlock.toList w w' := Upd.grown h2 (fun k hk => by rw [hk]; simp)
  exact ⟨v', w', hr, h1, hU', hU.own hown hU', h3⟩
theorem ex_conv {a : Act} {x : Operand} (k : List UInt8) (W : World) (hx : a.eval x = encS k) {dst : Option Tmp} : ∀ ty pos after, (execOp a.eval (opr dst (.convert 9 41 x) ty pos after)).run Try.prog W = .ok (.value (convV W k)) (convW W k) := fun ty pos after => by
  simp [execOp, hx, conv_run k W, Result.andThen]
theorem ne_own {wa W : World} {k : Nat} {v2 u4 : Value} (h : v2.ownBlock = u4.ownBlock ∨ v2.ownBlock = some W.heap.size) (h4 : k ∉ u4.ownBlock.toList) (hlt : k < wa.heap.size) (hU : Upd [] wa W) : k ∉ v2.ownBlock.toList := by
  have hs := hU.size
  rcases h with h | h
  · rw [h]; exact h4
  · rw [h]; simp; omega
theorem away_conv {wr W : World} {k : List UInt8} {v : Value} (h : ∀ g, v.ownBlock = some g → g < wr.heap.size) (hU : Upd [] wr W) : Away (convV W k) v.ownBlock.toList := by
  intro g hg hm
  simp only [convV, Value.ownBlock, Option.some.injEq] at hg
  have h1 := h g (by simpa using hm)
  have h2 := hU.size
  omega

def EncPost (w : World) (l : List TChg) (e : Ending) (w' : World) : Prop := ∃ v, e = .returned (.tuple #[v, .int .i64 (encB l).2]) ∧ OwnBy w' w.heap.size v (encB l).1 ∧ Upd [] w w'
def EncRel (w : World) (l : List TChg) (x out : Value) (wr : World) : Prop := ∃ (i : Nat) (pre : List UInt8), x = .int .i64 i ∧ i ≤ l.length ∧ Upd [] w wr ∧ OwnBy wr w.heap.size out pre ∧ pre.length ≤ 1048568 ∧ encB l = encGo pre (l.drop i)

theorem textB_len (p : List UInt8) (h : p.length ≤ 1073741000) : (textB p).length ≤ p.length + 10 := by
  unfold textB
  have := countB_len10 (n := p.length) ⟨by omega⟩
  simp; omega
theorem encGo_cons (pre : List UInt8) (l : List TChg) (i : Nat) (c : TChg) (h : l[i]? = some c) : encGo pre (l.drop i) = if badChg c then ([], 1) else if 1048568 < (pre ++ encStep c).length then ([], 8) else encGo (pre ++ encStep c) (l.drop (i + 1)) := by
  have hi : i < l.length := (List.getElem?_eq_some_iff.1 h).1
  have hc : l[i] = c := (List.getElem?_eq_some_iff.1 h).2
  rw [List.drop_eq_getElem_cons hi, hc]
  rfl

theorem enc_big {w w6 : World} {l : List TChg} {pre q : List UInt8} {i : Nat} {c : TChg} (hE : encB l = if badChg c then ([], 1) else if 1048568 < (pre ++ encStep c).length then ([], 8) else encGo (pre ++ encStep c) (l.drop (i + 1))) (hb : badChg c = false)
    (hq : q = pre ++ encStep c) (hbig : 1048568 < q.length) (hU : Upd [] w w6) : EncPost w l (.returned (.tuple #[.slice none 0 0, .int .i64 8])) w6 := by
  rw [hb, ← hq, if_pos hbig] at hE
  unfold EncPost
  rw [hE]
  exact ⟨_, rfl, World.ownsRow_nil _ _ _ _, hU⟩
theorem enc_ok {w w6 : World} {l : List TChg} {pre q : List UInt8} {i : Nat} {c : TChg} {v : Value} (hE : encB l = if badChg c then ([], 1) else if 1048568 < (pre ++ encStep c).length then ([], 8) else encGo (pre ++ encStep c) (l.drop (i + 1))) (hb : badChg c = false)
    (hq : q = pre ++ encStep c) (hbig : ¬ 1048568 < q.length) (hU : Upd [] w w6) (hi : i < l.length) (hown : OwnBy w6 w.heap.size v q) : EncRel w l (.int .i64 ((i : Int) + 1)) v w6 := by
  rw [hb, ← hq, if_neg hbig] at hE
  exact ⟨i + 1, q, by simp, hi, hU, hown, by omega, hE⟩

set_option maxRecDepth 100000 in
set_option maxHeartbeats 4000000 in
theorem table_encode (w : World) (lv : Value) (l : List TChg) (hc : Chgs w lv l) (hll : l.length ≤ 1000000000) :
    Calls Try.prog 19 #[lv] w (EncPost w l) := by
  obtain ⟨cells, hR, hT⟩ := hc
  obtain ⟨ao, cap, rfl, _⟩ := hR.shape
  have HT := Lib.hid hT; have HR := Lib.hid hR
  clear hT hR
  by_cases h256 : 256 < l.length
  · have h1 : decide ((256 : Int) < (l.length : Int)) = true := by simp; omega
    have HF := Lib.hid (show encB l = ([], 8) from by unfold encB; rw [if_pos h256])
    go_enter Try.func19, Try.ntmps19
    go_wp2_with fail
    go_ret2
    unfold EncPost
    rw [HF.out]
    exact ⟨_, rfl, World.ownsRow_nil _ _ _ _, Upd.refl _ _⟩
  have h1 : decide ((256 : Int) < (l.length : Int)) = false := by simp; omega
  have HF := Lib.hid (show encB l = encGo (countB l.length) l from by unfold encB; rw [if_neg h256])
  have hU64 : U64 l.length := ⟨by omega⟩
  have HC := Lib.hid (countB_len10 hU64)
  go_enter Try.func19, Try.ntmps19
  go_wp2_with (go_at_call 39; refine (octet_Count _ hU64 _).mono ?_; rintro e w1 ⟨v1, rfl, hv1, hU1⟩)
  go_loopw [16, 4] (fun x v wr => EncRel w l x v wr) (fun x _ _ => l.length - (intOf x).toNat)
  case atStart => exact ⟨0, _, rfl, Nat.zero_le _, hU1, hv1, by have := HC.out; omega, HF.out⟩
  case round =>
    obtain ⟨i, pre, rfl, hi, hU, hown, hpl, henc⟩ := hrel
    by_cases hlt : i < l.length
    · have htt : decide ((i : Int) < (l.length : Int)) = true := by simp; omega
      obtain ⟨c, hci⟩ : ∃ c, l[i]? = some c := ⟨_, List.getElem?_eq_getElem hlt⟩
      obtain ⟨pv, g0, g1, g2, hpv⟩ := HT.out.get hci
      have hpr : By wr pv c.val := hpv.upd0 hU
      have HPW := Lib.hid hpv
      obtain ⟨ap, cp, hsp⟩ := By.val hpr
      subst hsp
      have hRr : Rd wr 51 3 (.slice ao l.length cap) l.length cells := HR.out.upd0 hU
      have hE := encGo_cons pre l i c hci
      rw [← henc] at hE
      have HE := Lib.hid hE; have HPL := Lib.hid hpl; have HPR := Lib.hid hpr; have HO := Lib.hid hown
      have hbadp : badChg c = true → EncPost w l (.returned (.tuple #[.slice none 0 0, .int .i64 1])) (wr.alloc (Obj.cells #[encS c.key, .bool c.gone, Value.slice ap c.val.length cp] 51)) := by
        intro hb
        unfold EncPost
        rw [HE.out, if_pos hb]
        exact ⟨_, rfl, World.ownsRow_nil _ _ _ _, hU.trans0 (Upd.alloc [] _ _)⟩
      have HB := Lib.hid hbadp
      clear hpv hE hpl hpr hown henc hci hbadp hi
      cases hk : c.key.isEmpty with
      | true =>
        have HB' := Lib.hid (HB.out (by simp at hk; simp [badChg, hk]))
        go_wp2_with ((with_reducible show wpList _ _ _ (⟨_, .indexAddr _ _ _, _, _, _, _⟩ :: _) _ _); refine wpl_indexAddr elTChg rfl rfl hRr rfl rfl (by omega) (by omega) ?_; intro ad hcell hspot; (have k0 := hcell 0 (by omega)); (have k1 := hcell 1 (by omega)); (have k2 := hcell 2 (by omega)); rw [Int.toNat_natCast, g0] at k0; rw [Int.toNat_natCast, g1] at k1; rw [Int.toNat_natCast, g2] at k2; clear hcell; obtain ⟨gb, gof, gs⟩ := ad; cases hspot; simp only [Addr.add_lit, Nat.add_zero] at k0 k1 k2)
        go_ret2
        exact HB'.out
      | false =>
        have hk0 : c.key ≠ [] := by simpa using hk
        by_cases h320 : 320 < c.key.length
        · have h2 : decide ((320 : Int) < (c.key.length : Int)) = true := by simp; omega
          have HB' := Lib.hid (HB.out (by simp [badChg, h320]))
          clear h320 hk0
          go_wp2_with ((with_reducible show wpList _ _ _ (⟨_, .indexAddr _ _ _, _, _, _, _⟩ :: _) _ _); refine wpl_indexAddr elTChg rfl rfl hRr rfl rfl (by omega) (by omega) ?_; intro ad hcell hspot; (have k0 := hcell 0 (by omega)); (have k1 := hcell 1 (by omega)); (have k2 := hcell 2 (by omega)); rw [Int.toNat_natCast, g0] at k0; rw [Int.toNat_natCast, g1] at k1; rw [Int.toNat_natCast, g2] at k2; clear hcell; obtain ⟨gb, gof, gs⟩ := ad; cases hspot; simp only [Addr.add_lit, Nat.add_zero] at k0 k1 k2)
          go_ret2
          exact HB'.out
        · have h2 : decide ((320 : Int) < (c.key.length : Int)) = false := by simp; omega
          by_cases h262 : 262144 < c.val.length
          · have h3 : decide ((262144 : Int) < (c.val.length : Int)) = true := by simp; omega
            have HB' := Lib.hid (HB.out (by simp [badChg, h262]))
            clear h320 hk0 h262
            go_wp2_with ((with_reducible show wpList _ _ _ (⟨_, .indexAddr _ _ _, _, _, _, _⟩ :: _) _ _); refine wpl_indexAddr elTChg rfl rfl hRr rfl rfl (by omega) (by omega) ?_; intro ad hcell hspot; (have k0 := hcell 0 (by omega)); (have k1 := hcell 1 (by omega)); (have k2 := hcell 2 (by omega)); rw [Int.toNat_natCast, g0] at k0; rw [Int.toNat_natCast, g1] at k1; rw [Int.toNat_natCast, g2] at k2; clear hcell; obtain ⟨gb, gof, gs⟩ := ad; cases hspot; simp only [Addr.add_lit, Nat.add_zero] at k0 k1 k2)
            go_ret2
            exact HB'.out
          · have h3 : decide ((262144 : Int) < (c.val.length : Int)) = false := by simp; omega
            have hnb : badChg c = false := by simp [badChg, h262, h320, hk0]
            have hpl := HPL.out
            have hkl : (textB c.key).length ≤ 330 := by have := textB_len c.key (by omega); omega
            have hvl : (textB c.val).length ≤ 262154 := by have := textB_len c.val (by omega); omega
            have hby1 : By (wr.alloc (Obj.cells #[encS c.key, .bool c.gone, Value.slice ap c.val.length cp] 51)) (.slice ap c.val.length cp) c.val := HPR.out.upd0 (Upd.alloc [] _ _)
            have hUa : Upd [] w (wr.alloc (Obj.cells #[encS c.key, .bool c.gone, Value.slice ap c.val.length cp] 51)) := hU.trans0 (Upd.alloc [] _ _)
            have hoa : OwnBy (wr.alloc (Obj.cells #[encS c.key, .bool c.gone, Value.slice ap c.val.length cp] 51)) w.heap.size u4 pre := Own.upd0 HO.out (Upd.alloc [] _ _)
            have hba := heap_alloc_new wr (Obj.cells #[encS c.key, .bool c.gone, Value.slice ap c.val.length cp] 51)
            generalize hwa : wr.alloc (Obj.cells #[encS c.key, .bool c.gone, Value.slice ap c.val.length cp] 51) = wa at *
            have hUwa : Upd [] wr wa := by rw [← hwa]; exact Upd.alloc [] _ _
            have hlta : wr.heap.size < wa.heap.size := by rw [← hwa]; simp
            have hlt4 : ∀ g, u4.ownBlock = some g → g < wr.heap.size := fun g hg => (HO.out.lt g hg).2
            have hne4 : wr.heap.size ∉ u4.ownBlock.toList := by intro hm; have := hlt4 wr.heap.size (by simpa using hm); omega
            have HK30 := Lib.hid (show c.key.length ≤ 1073741000 from by omega); have HK31 := Lib.hid (show c.key.length ≤ 1073741824 from by omega); have HV30 := Lib.hid (show c.val.length ≤ 1073741000 from by omega)
            have HOA := Lib.hid hoa
            have keepS : ∀ {T : List Nat} {W W' : World}, Upd T W W' → wr.heap.size ∉ T → (W.cell? ⟨wr.heap.size, 0, none⟩ = some (encS c.key) ∧ W.cell? ⟨wr.heap.size, 2, none⟩ = some (Value.slice ap c.val.length cp)) → (W'.cell? ⟨wr.heap.size, 0, none⟩ = some (encS c.key) ∧ W'.cell? ⟨wr.heap.size, 2, none⟩ = some (Value.slice ap c.val.length cp)) := fun h hn hS => ⟨h.cell hS.1 hn, h.cell hS.2 hn⟩
            have hUd0 : Upd [] wa wa.drew := Upd.drew [] _
            have hS0' : (wa.cell? ⟨wr.heap.size, 0, none⟩ = some (encS c.key) ∧ wa.cell? ⟨wr.heap.size, 2, none⟩ = some (Value.slice ap c.val.length cp)) := ⟨by rw [cell_lit _ _ 0 _ _ _ hba]; rfl, by rw [cell_lit _ _ 2 _ _ _ hba]; rfl⟩
            have hS0 := keepS hUd0 (by simp) hS0'
            cases hg : c.gone with
            | true =>
              rw [hg] at g1 hwa hba
              have b0 : wa.cell? ⟨wr.heap.size, 0, none⟩ = some (encS c.key) := by rw [cell_lit _ _ 0 _ _ _ hba]; rfl
              have b1 : wa.cell? ⟨wr.heap.size, 1, none⟩ = some (.bool true) := by rw [cell_lit _ _ 1 _ _ _ hba]; rfl
              have b2 : wa.cell? ⟨wr.heap.size, 2, none⟩ = some (.slice ap c.val.length cp) := by rw [cell_lit _ _ 2 _ _ _ hba]; rfl
              clear hba
              have hb1 : pre.length + [(0 : UInt8)].length ≤ 1073741824 := by simp; omega
              have hb2 : (pre ++ [(0 : UInt8)]).length + (textB c.key).length ≤ 1073741824 := by simp; omega
              have hb3 : (pre ++ [(0 : UInt8)] ++ textB c.key).length + (textB c.val).length ≤ 1073741824 := by simp; omega
              have HB1 := Lib.hid hb1; have HB2 := Lib.hid hb2; have HB3 := Lib.hid hb3
              have E9 := Lib.hid (show encStep c = 0 :: textB c.key from by unfold encStep; rw [hg]; rfl)
              clear hb1 hb2 hb3 hkl hvl hpl hoa
              go_wp2_with ((with_reducible show wpList _ _ _ (⟨_, .indexAddr _ _ _, _, _, _, _⟩ :: _) _ _); refine wpl_indexAddr elTChg rfl rfl hRr rfl rfl (by omega) (by omega) ?_; intro ad hcell hspot; (have k0 := hcell 0 (by omega)); (have k1 := hcell 1 (by omega)); (have k2 := hcell 2 (by omega)); rw [Int.toNat_natCast, g0] at k0; rw [Int.toNat_natCast, g1] at k1; rw [Int.toNat_natCast, g2] at k2; clear hcell; obtain ⟨gb, gof, gs⟩ := ad; cases hspot; simp only [Addr.add_lit, Nat.add_zero] at k0 k1 k2)
              --REGION 10
              refine wp_region_noPanic ?_
              refine wp_region_M 8 (fun W => W.cell? ⟨wr.heap.size, 0, none⟩ = some (encS c.key) ∧ W.cell? ⟨wr.heap.size, 2, none⟩ = some (Value.slice ap c.val.length cp)) (by kernel_rfl) ?_
              (refine wpAnyM_takeO (i := 0) (dst := (some 37)) (op := (Go.Op.move (Go.Operand.tmp 4))) (v := ?_) (by rfl) (by kernel_rfl) (by kernel_rfl) (by kernel_rfl) (by kernel_rfl) (by rfl) (fun _ _ _ h => h) ?_ hS0 ?_; rotate_left; (focus (intro _ _ _ W HW; (try dsimp only at HW); go_simp; (try with_reducible rfl))); (try simp only [Act.put, List.setIfInBounds_toArray, List.set_cons_zero, List.set_cons_succ]))
              (refine wpAnyM_takeO (i := 3) (dst := (some 40)) (op := (Go.Op.fieldAddr 51 (Go.Operand.tmp 6) 0)) (v := ?_) (by rfl) (by kernel_rfl) (by kernel_rfl) (by kernel_rfl) (by kernel_rfl) (by rfl) (fun _ _ _ h => h) ?_ hS0 ?_; rotate_left; (focus (intro _ _ _ W HW; (try dsimp only at HW); go_simp; (try with_reducible rfl))); (try simp only [Act.put, List.setIfInBounds_toArray, List.set_cons_zero, List.set_cons_succ]))
              (refine wpAnyM_takeO (i := 4) (dst := (some 41)) (op := (Go.Op.load 9 (Go.Operand.tmp 40))) (v := ?_) (by rfl) (by kernel_rfl) (by kernel_rfl) (by kernel_rfl) (by kernel_rfl) (by rfl) (fun _ _ _ h => h) ?_ hS0 ?_; rotate_left; (focus (intro _ _ _ W HW; (try dsimp only at HW); go_simp; (try with_reducible rfl))); (try simp only [Act.put, List.setIfInBounds_toArray, List.set_cons_zero, List.set_cons_succ]))
              refine wpAnyM_two (i := 1) (k := 5) (by kernel_rfl) ?_ ?_
              · refine opM_val (i := 1) (dst := (some 38)) (op := (Go.Op.buildSlice 41 1 #[(0, (Go.Operand.const (Go.Value.int Go.IntKind.u8 0)))])) (by rfl) (ex_lit (run_lit (w := wa.drew) elU8 (.int .u8 0) rfl (by omega)) (by rfl)) (.inr (keepS (Upd.alloc [] wa.drew _) (by simp) hS0)) ?_
                (try simp only [Act.put, List.setIfInBounds_toArray, List.set_cons_zero, List.set_cons_succ])
                have hSlA := keepS (Upd.alloc [] wa.drew (.cells #[.int .u8 0] 5)) (by simp) hS0
                have hUlA : Upd [] wa (wa.drew.alloc (.cells #[.int .u8 0] 5)) := hUd0.trans0 (Upd.alloc [] _ _)
                have hylA : By (wa.drew.alloc (.cells #[.int .u8 0] 5)) (.slice (some ⟨wa.drew.heap.size, 0, none⟩) 1 1) [0] := Rd.new (w := wa.drew) (n := 1) (cap := 1) (xs := [enc 0]) rfl (Nat.le_refl _) (by decide) rfl rfl
                refine wpAnyM_two (i := 2) (k := 5) (by kernel_rfl) ?_ ?_
                · obtain ⟨v2, w2, hr2, hv2, hUap, hU2, hob2⟩ := app_by (ty := 0) (P := Try.prog) (T := 41) (w0 := w) (w := (wa.drew.alloc (.cells #[.int .u8 0] 5))) elU8 (Own.upd0 HOA.out hUlA) hylA (hUa.trans0 hUlA) HB1.out
                  have hne6 := ne_own hob2 hne4 hlta hUlA
                  refine opM_val (i := 2) (dst := (some 39)) (op := (Go.Op.call { callee := (Go.Callee.builtin Go.Builtin.append), args := #[(Go.Operand.tmp 37), (Go.Operand.tmp 38)], argTypes := #[41, 41] })) (by rfl) (ex_append hr2 (by rfl) (by rfl)) (.inr (keepS hUap hne4 hSlA)) ?_
                  (try simp only [Act.put, List.setIfInBounds_toArray, List.set_cons_zero, List.set_cons_succ])
                  have hS2 := keepS hUap hne4 hSlA
                  refine wpAnyM_one (i := 5) (by kernel_rfl) ?_
                  refine opM_val (i := 5) (dst := (some 42)) (op := (Go.Op.convert 9 41 (Go.Operand.tmp 41))) (by rfl) (ex_conv c.key w2 (by rfl)) (.inr (keepS (conv_upd w2 c.key) (by simp) hS2)) ?_
                  (try simp only [Act.put, List.setIfInBounds_toArray, List.set_cons_zero, List.set_cons_succ])
                  have hSc := keepS (conv_upd w2 c.key) (by simp) hS2
                  have hyc : By (convW w2 c.key) (convV w2 c.key) c.key := conv_by _ _ HK31.out
                  refine wpAnyM_one (i := 6) (by kernel_rfl) ?_
                  refine opM_call (i := 6) (dst := (some 43)) (op := (Go.Op.call { callee := (Go.Callee.value (Go.Operand.func 40)), args := #[(Go.Operand.tmp 42)], argTypes := #[41] })) (f := 40) (vs := #[convV w2 c.key]) (by rfl) (fun _ _ _ => by go_simp) ?_
                  refine (octet_Text _ c.key _ hyc HK30.out).mono ?_
                  rintro e w5 ⟨v5, rfl, hv5, hU5⟩
                  have hS5 := keepS hU5 (by simp) hSc
                  refine ⟨v5, rfl, .inr hS5, ?_⟩
                  (try simp only [Act.put, List.setIfInBounds_toArray, List.set_cons_zero, List.set_cons_succ])
                  obtain ⟨v6, w6, hr6, hv6, hU6, hU06, hob6⟩ := app_by (ty := 0) (P := Try.prog) (T := 41) (w0 := w) (w := w5) elU8 (Own.upd0 (Own.upd0 hv2 (conv_upd w2 c.key)) hU5) hv5.by ((hU2.trans0 (conv_upd w2 c.key)).trans0 hU5) HB2.out
                  have hS6 := keepS hU6 hne6 hS5
                  refine wpAnyM_one (i := 7) (by kernel_rfl) ?_
                  refine opM_val (i := 7) (dst := (some 44)) (op := (Go.Op.call { callee := (Go.Callee.builtin Go.Builtin.append), args := #[(Go.Operand.tmp 39), (Go.Operand.tmp 43)], argTypes := #[41, 41] })) (by rfl) (ex_append hr6 (by rfl) (by rfl)) (.inr hS6) ?_
                  (try simp only [Act.put, List.setIfInBounds_toArray, List.set_cons_zero, List.set_cons_succ])
                  refine wpAnyM_one (i := 8) (by kernel_rfl) ?_
                  refine opM_val (i := 8) (dst := (some 4)) (op := (Go.Op.assign (Go.Operand.tmp 44))) (by rfl) (fun _ _ _ => by go_simp; rfl) (.inr hS6) ?_
                  (try simp only [Act.put, List.setIfInBounds_toArray, List.set_cons_zero, List.set_cons_succ])
                  refine wpAnyM_done (by kernel_rfl) ?_ _
                  refine NoPanic.normal ?_
                  obtain ⟨ao6, cap6, hs6⟩ := By.val hv6.by
                  subst hs6
                  generalize hq6 : pre ++ [0] ++ textB c.key = q6 at hv6 ⊢
                  have HQ6 := Lib.hid hq6
                  have HV6 := Lib.hid hv6
                  have HU6 := Lib.hid hU06
                  clear hq6 hv6 hU06 hU6 hob6 hS6 hS5 hU5 hv5
                  by_cases hbig : 1048568 < q6.length
                  · have hbt : decide ((1048568 : Int) < (q6.length : Int)) = true := by simp; omega
                    have HB8 := Lib.hid (enc_big HE.out hnb (by rw [← HQ6.out, E9.out]; simp) hbig HU6.out)
                    clear hbig
                    go_wp2_with fail
                    go_ret2
                    exact HB8.out
                  · have hbt : decide ((1048568 : Int) < (q6.length : Int)) = false := by simp; omega
                    have HR8 := Lib.hid (enc_ok HE.out hnb (by rw [← HQ6.out, E9.out]; simp) hbig HU6.out hlt HV6.out)
                    clear hbig
                    go_wp2_with fail
                    go_roundw
                    case rel => exact HR8.out
                    case measure => simp [intOf]; omega
                · refine opM_val (i := 5) (dst := (some 42)) (op := (Go.Op.convert 9 41 (Go.Operand.tmp 41))) (by rfl) (ex_conv c.key (wa.drew.alloc (.cells #[.int .u8 0] 5)) (by rfl)) (.inr (keepS (conv_upd (wa.drew.alloc (.cells #[.int .u8 0] 5)) c.key) (by simp) hSlA)) ?_
                  (try simp only [Act.put, List.setIfInBounds_toArray, List.set_cons_zero, List.set_cons_succ])
                  have hScB := keepS (conv_upd (wa.drew.alloc (.cells #[.int .u8 0] 5)) c.key) (by simp) hSlA
                  have hUcB : Upd [] wa (convW (wa.drew.alloc (.cells #[.int .u8 0] 5)) c.key) := hUlA.trans0 (conv_upd _ _)
                  have hycB : By (convW (wa.drew.alloc (.cells #[.int .u8 0] 5)) c.key) (convV (wa.drew.alloc (.cells #[.int .u8 0] 5)) c.key) c.key := conv_by _ _ HK31.out
                  refine wpAnyM_one (i := 2) (by kernel_rfl) ?_
                  have hylB := hylA.upd0 (conv_upd _ c.key)
                  obtain ⟨v2, w2, hr2, hv2, hUap, hU2, hob2⟩ := app_by (ty := 0) (P := Try.prog) (T := 41) (w0 := w) (w := (convW (wa.drew.alloc (.cells #[.int .u8 0] 5)) c.key)) elU8 (Own.upd0 HOA.out hUcB) hylB (hUa.trans0 hUcB) HB1.out
                  have hne6 := ne_own hob2 hne4 hlta hUcB
                  refine opM_val (i := 2) (dst := (some 39)) (op := (Go.Op.call { callee := (Go.Callee.builtin Go.Builtin.append), args := #[(Go.Operand.tmp 37), (Go.Operand.tmp 38)], argTypes := #[41, 41] })) (by rfl) (ex_append hr2 (by rfl) (by rfl)) (.inr (keepS hUap hne4 hScB)) ?_
                  (try simp only [Act.put, List.setIfInBounds_toArray, List.set_cons_zero, List.set_cons_succ])
                  have hS2 := keepS hUap hne4 hScB
                  have hy6 := hycB.upd_away hUap (away_conv hlt4 (hUwa.trans0 hUlA))
                  refine wpAnyM_one (i := 6) (by kernel_rfl) ?_
                  refine opM_call (i := 6) (dst := (some 43)) (op := (Go.Op.call { callee := (Go.Callee.value (Go.Operand.func 40)), args := #[(Go.Operand.tmp 42)], argTypes := #[41] })) (f := 40) (vs := #[convV (wa.drew.alloc (.cells #[.int .u8 0] 5)) c.key]) (by rfl) (fun _ _ _ => by go_simp) ?_
                  refine (octet_Text _ c.key _ hy6 HK30.out).mono ?_
                  rintro e w5 ⟨v5, rfl, hv5, hU5⟩
                  have hS5 := keepS hU5 (by simp) hS2
                  refine ⟨v5, rfl, .inr hS5, ?_⟩
                  (try simp only [Act.put, List.setIfInBounds_toArray, List.set_cons_zero, List.set_cons_succ])
                  obtain ⟨v6, w6, hr6, hv6, hU6, hU06, hob6⟩ := app_by (ty := 0) (P := Try.prog) (T := 41) (w0 := w) (w := w5) elU8 (Own.upd0 hv2 hU5) hv5.by (hU2.trans0 hU5) HB2.out
                  have hS6 := keepS hU6 hne6 hS5
                  refine wpAnyM_one (i := 7) (by kernel_rfl) ?_
                  refine opM_val (i := 7) (dst := (some 44)) (op := (Go.Op.call { callee := (Go.Callee.builtin Go.Builtin.append), args := #[(Go.Operand.tmp 39), (Go.Operand.tmp 43)], argTypes := #[41, 41] })) (by rfl) (ex_append hr6 (by rfl) (by rfl)) (.inr hS6) ?_
                  (try simp only [Act.put, List.setIfInBounds_toArray, List.set_cons_zero, List.set_cons_succ])
                  refine wpAnyM_one (i := 8) (by kernel_rfl) ?_
                  refine opM_val (i := 8) (dst := (some 4)) (op := (Go.Op.assign (Go.Operand.tmp 44))) (by rfl) (fun _ _ _ => by go_simp; rfl) (.inr hS6) ?_
                  (try simp only [Act.put, List.setIfInBounds_toArray, List.set_cons_zero, List.set_cons_succ])
                  refine wpAnyM_done (by kernel_rfl) ?_ _
                  refine NoPanic.normal ?_
                  obtain ⟨ao6, cap6, hs6⟩ := By.val hv6.by
                  subst hs6
                  generalize hq6 : pre ++ [0] ++ textB c.key = q6 at hv6 ⊢
                  have HQ6 := Lib.hid hq6
                  have HV6 := Lib.hid hv6
                  have HU6 := Lib.hid hU06
                  clear hq6 hv6 hU06 hU6 hob6 hS6 hS5 hU5 hv5
                  by_cases hbig : 1048568 < q6.length
                  · have hbt : decide ((1048568 : Int) < (q6.length : Int)) = true := by simp; omega
                    have HB8 := Lib.hid (enc_big HE.out hnb (by rw [← HQ6.out, E9.out]; simp) hbig HU6.out)
                    clear hbig
                    go_wp2_with fail
                    go_ret2
                    exact HB8.out
                  · have hbt : decide ((1048568 : Int) < (q6.length : Int)) = false := by simp; omega
                    have HR8 := Lib.hid (enc_ok HE.out hnb (by rw [← HQ6.out, E9.out]; simp) hbig HU6.out hlt HV6.out)
                    clear hbig
                    go_wp2_with fail
                    go_roundw
                    case rel => exact HR8.out
                    case measure => simp [intOf]; omega
              · refine opM_val (i := 5) (dst := (some 42)) (op := (Go.Op.convert 9 41 (Go.Operand.tmp 41))) (by rfl) (ex_conv c.key wa.drew (by rfl)) (.inr (keepS (conv_upd wa.drew c.key) (by simp) hS0)) ?_
                (try simp only [Act.put, List.setIfInBounds_toArray, List.set_cons_zero, List.set_cons_succ])
                have hScC := keepS (conv_upd wa.drew c.key) (by simp) hS0
                have hUcC : Upd [] wa (convW wa.drew c.key) := hUd0.trans0 (conv_upd _ _)
                have hycC : By (convW wa.drew c.key) (convV wa.drew c.key) c.key := conv_by _ _ HK31.out
                refine wpAnyM_one (i := 1) (by kernel_rfl) ?_
                refine opM_val (i := 1) (dst := (some 38)) (op := (Go.Op.buildSlice 41 1 #[(0, (Go.Operand.const (Go.Value.int Go.IntKind.u8 0)))])) (by rfl) (ex_lit (run_lit (w := (convW wa.drew c.key)) elU8 (.int .u8 0) rfl (by omega)) (by rfl)) (.inr (keepS (Upd.alloc [] (convW wa.drew c.key) _) (by simp) hScC)) ?_
                (try simp only [Act.put, List.setIfInBounds_toArray, List.set_cons_zero, List.set_cons_succ])
                have hSlC := keepS (Upd.alloc [] (convW wa.drew c.key) (.cells #[.int .u8 0] 5)) (by simp) hScC
                have hUlC : Upd [] wa ((convW wa.drew c.key).alloc (.cells #[.int .u8 0] 5)) := hUcC.trans0 (Upd.alloc [] _ _)
                have hylC : By ((convW wa.drew c.key).alloc (.cells #[.int .u8 0] 5)) (.slice (some ⟨(convW wa.drew c.key).heap.size, 0, none⟩) 1 1) [0] := Rd.new (w := (convW wa.drew c.key)) (n := 1) (cap := 1) (xs := [enc 0]) rfl (Nat.le_refl _) (by decide) rfl rfl
                refine wpAnyM_one (i := 2) (by kernel_rfl) ?_
                obtain ⟨v2, w2, hr2, hv2, hUap, hU2, hob2⟩ := app_by (ty := 0) (P := Try.prog) (T := 41) (w0 := w) (w := ((convW wa.drew c.key).alloc (.cells #[.int .u8 0] 5))) elU8 (Own.upd0 HOA.out hUlC) hylC (hUa.trans0 hUlC) HB1.out
                have hne6 := ne_own hob2 hne4 hlta hUlC
                refine opM_val (i := 2) (dst := (some 39)) (op := (Go.Op.call { callee := (Go.Callee.builtin Go.Builtin.append), args := #[(Go.Operand.tmp 37), (Go.Operand.tmp 38)], argTypes := #[41, 41] })) (by rfl) (ex_append hr2 (by rfl) (by rfl)) (.inr (keepS hUap hne4 hSlC)) ?_
                (try simp only [Act.put, List.setIfInBounds_toArray, List.set_cons_zero, List.set_cons_succ])
                have hS2 := keepS hUap hne4 hSlC
                have hy6 := (hycC.upd0 (Upd.alloc [] _ _)).upd_away hUap (away_conv hlt4 (hUwa.trans0 hUd0))
                refine wpAnyM_one (i := 6) (by kernel_rfl) ?_
                refine opM_call (i := 6) (dst := (some 43)) (op := (Go.Op.call { callee := (Go.Callee.value (Go.Operand.func 40)), args := #[(Go.Operand.tmp 42)], argTypes := #[41] })) (f := 40) (vs := #[convV wa.drew c.key]) (by rfl) (fun _ _ _ => by go_simp) ?_
                refine (octet_Text _ c.key _ hy6 HK30.out).mono ?_
                rintro e w5 ⟨v5, rfl, hv5, hU5⟩
                have hS5 := keepS hU5 (by simp) hS2
                refine ⟨v5, rfl, .inr hS5, ?_⟩
                (try simp only [Act.put, List.setIfInBounds_toArray, List.set_cons_zero, List.set_cons_succ])
                obtain ⟨v6, w6, hr6, hv6, hU6, hU06, hob6⟩ := app_by (ty := 0) (P := Try.prog) (T := 41) (w0 := w) (w := w5) elU8 (Own.upd0 hv2 hU5) hv5.by (hU2.trans0 hU5) HB2.out
                have hS6 := keepS hU6 hne6 hS5
                refine wpAnyM_one (i := 7) (by kernel_rfl) ?_
                refine opM_val (i := 7) (dst := (some 44)) (op := (Go.Op.call { callee := (Go.Callee.builtin Go.Builtin.append), args := #[(Go.Operand.tmp 39), (Go.Operand.tmp 43)], argTypes := #[41, 41] })) (by rfl) (ex_append hr6 (by rfl) (by rfl)) (.inr hS6) ?_
                (try simp only [Act.put, List.setIfInBounds_toArray, List.set_cons_zero, List.set_cons_succ])
                refine wpAnyM_one (i := 8) (by kernel_rfl) ?_
                refine opM_val (i := 8) (dst := (some 4)) (op := (Go.Op.assign (Go.Operand.tmp 44))) (by rfl) (fun _ _ _ => by go_simp; rfl) (.inr hS6) ?_
                (try simp only [Act.put, List.setIfInBounds_toArray, List.set_cons_zero, List.set_cons_succ])
                refine wpAnyM_done (by kernel_rfl) ?_ _
                refine NoPanic.normal ?_
                obtain ⟨ao6, cap6, hs6⟩ := By.val hv6.by
                subst hs6
                generalize hq6 : pre ++ [0] ++ textB c.key = q6 at hv6 ⊢
                have HQ6 := Lib.hid hq6
                have HV6 := Lib.hid hv6
                have HU6 := Lib.hid hU06
                clear hq6 hv6 hU06 hU6 hob6 hS6 hS5 hU5 hv5
                by_cases hbig : 1048568 < q6.length
                · have hbt : decide ((1048568 : Int) < (q6.length : Int)) = true := by simp; omega
                  have HB8 := Lib.hid (enc_big HE.out hnb (by rw [← HQ6.out, E9.out]; simp) hbig HU6.out)
                  clear hbig
                  go_wp2_with fail
                  go_ret2
                  exact HB8.out
                · have hbt : decide ((1048568 : Int) < (q6.length : Int)) = false := by simp; omega
                  have HR8 := Lib.hid (enc_ok HE.out hnb (by rw [← HQ6.out, E9.out]; simp) hbig HU6.out hlt HV6.out)
                  clear hbig
                  go_wp2_with fail
                  go_roundw
                  case rel => exact HR8.out
                  case measure => simp [intOf]; omega
              --END 10
            | false =>
              rw [hg] at g1 hwa hba
              have b0 : wa.cell? ⟨wr.heap.size, 0, none⟩ = some (encS c.key) := by rw [cell_lit _ _ 0 _ _ _ hba]; rfl
              have b1 : wa.cell? ⟨wr.heap.size, 1, none⟩ = some (.bool false) := by rw [cell_lit _ _ 1 _ _ _ hba]; rfl
              have b2 : wa.cell? ⟨wr.heap.size, 2, none⟩ = some (.slice ap c.val.length cp) := by rw [cell_lit _ _ 2 _ _ _ hba]; rfl
              clear hba
              have hb1 : pre.length + [(1 : UInt8)].length ≤ 1073741824 := by simp; omega
              have hb2 : (pre ++ [(1 : UInt8)]).length + (textB c.key).length ≤ 1073741824 := by simp; omega
              have hb3 : (pre ++ [(1 : UInt8)] ++ textB c.key).length + (textB c.val).length ≤ 1073741824 := by simp; omega
              have HB1 := Lib.hid hb1; have HB2 := Lib.hid hb2; have HB3 := Lib.hid hb3
              have E9 := Lib.hid (show encStep c = 1 :: (textB c.key ++ textB c.val) from by unfold encStep; rw [hg]; rfl)
              clear hb1 hb2 hb3 hkl hvl hpl hoa
              go_wp2_with ((with_reducible show wpList _ _ _ (⟨_, .indexAddr _ _ _, _, _, _, _⟩ :: _) _ _); refine wpl_indexAddr elTChg rfl rfl hRr rfl rfl (by omega) (by omega) ?_; intro ad hcell hspot; (have k0 := hcell 0 (by omega)); (have k1 := hcell 1 (by omega)); (have k2 := hcell 2 (by omega)); rw [Int.toNat_natCast, g0] at k0; rw [Int.toNat_natCast, g1] at k1; rw [Int.toNat_natCast, g2] at k2; clear hcell; obtain ⟨gb, gof, gs⟩ := ad; cases hspot; simp only [Addr.add_lit, Nat.add_zero] at k0 k1 k2)
              --REGION 11
              refine wp_region_noPanic ?_
              refine wp_region_M 8 (fun W => W.cell? ⟨wr.heap.size, 0, none⟩ = some (encS c.key) ∧ W.cell? ⟨wr.heap.size, 2, none⟩ = some (Value.slice ap c.val.length cp)) (by kernel_rfl) ?_
              (refine wpAnyM_takeO (i := 0) (dst := (some 45)) (op := (Go.Op.move (Go.Operand.tmp 4))) (v := ?_) (by rfl) (by kernel_rfl) (by kernel_rfl) (by kernel_rfl) (by kernel_rfl) (by rfl) (fun _ _ _ h => h) ?_ hS0 ?_; rotate_left; (focus (intro _ _ _ W HW; (try dsimp only at HW); go_simp; (try with_reducible rfl))); (try simp only [Act.put, List.setIfInBounds_toArray, List.set_cons_zero, List.set_cons_succ]))
              (refine wpAnyM_takeO (i := 3) (dst := (some 48)) (op := (Go.Op.fieldAddr 51 (Go.Operand.tmp 6) 0)) (v := ?_) (by rfl) (by kernel_rfl) (by kernel_rfl) (by kernel_rfl) (by kernel_rfl) (by rfl) (fun _ _ _ h => h) ?_ hS0 ?_; rotate_left; (focus (intro _ _ _ W HW; (try dsimp only at HW); go_simp; (try with_reducible rfl))); (try simp only [Act.put, List.setIfInBounds_toArray, List.set_cons_zero, List.set_cons_succ]))
              (refine wpAnyM_takeO (i := 4) (dst := (some 49)) (op := (Go.Op.load 9 (Go.Operand.tmp 48))) (v := ?_) (by rfl) (by kernel_rfl) (by kernel_rfl) (by kernel_rfl) (by kernel_rfl) (by rfl) (fun _ _ _ h => h) ?_ hS0 ?_; rotate_left; (focus (intro _ _ _ W HW; (try dsimp only at HW); go_simp; (try with_reducible rfl))); (try simp only [Act.put, List.setIfInBounds_toArray, List.set_cons_zero, List.set_cons_succ]))
              refine wpAnyM_two (i := 1) (k := 5) (by kernel_rfl) ?_ ?_
              · refine opM_val (i := 1) (dst := (some 46)) (op := (Go.Op.buildSlice 41 1 #[(0, (Go.Operand.const (Go.Value.int Go.IntKind.u8 1)))])) (by rfl) (ex_lit (run_lit (w := wa.drew) elU8 (.int .u8 1) rfl (by omega)) (by rfl)) (.inr (keepS (Upd.alloc [] wa.drew _) (by simp) hS0)) ?_
                (try simp only [Act.put, List.setIfInBounds_toArray, List.set_cons_zero, List.set_cons_succ])
                have hSlA := keepS (Upd.alloc [] wa.drew (.cells #[.int .u8 1] 5)) (by simp) hS0
                have hUlA : Upd [] wa (wa.drew.alloc (.cells #[.int .u8 1] 5)) := hUd0.trans0 (Upd.alloc [] _ _)
                have hylA : By (wa.drew.alloc (.cells #[.int .u8 1] 5)) (.slice (some ⟨wa.drew.heap.size, 0, none⟩) 1 1) [1] := Rd.new (w := wa.drew) (n := 1) (cap := 1) (xs := [enc 1]) rfl (Nat.le_refl _) (by decide) rfl rfl
                refine wpAnyM_two (i := 2) (k := 5) (by kernel_rfl) ?_ ?_
                · obtain ⟨v2, w2, hr2, hv2, hUap, hU2, hob2⟩ := app_by (ty := 0) (P := Try.prog) (T := 41) (w0 := w) (w := (wa.drew.alloc (.cells #[.int .u8 1] 5))) elU8 (Own.upd0 HOA.out hUlA) hylA (hUa.trans0 hUlA) HB1.out
                  have hne6 := ne_own hob2 hne4 hlta hUlA
                  refine opM_val (i := 2) (dst := (some 47)) (op := (Go.Op.call { callee := (Go.Callee.builtin Go.Builtin.append), args := #[(Go.Operand.tmp 45), (Go.Operand.tmp 46)], argTypes := #[41, 41] })) (by rfl) (ex_append hr2 (by rfl) (by rfl)) (.inr (keepS hUap hne4 hSlA)) ?_
                  (try simp only [Act.put, List.setIfInBounds_toArray, List.set_cons_zero, List.set_cons_succ])
                  have hS2 := keepS hUap hne4 hSlA
                  refine wpAnyM_one (i := 5) (by kernel_rfl) ?_
                  refine opM_val (i := 5) (dst := (some 50)) (op := (Go.Op.convert 9 41 (Go.Operand.tmp 49))) (by rfl) (ex_conv c.key w2 (by rfl)) (.inr (keepS (conv_upd w2 c.key) (by simp) hS2)) ?_
                  (try simp only [Act.put, List.setIfInBounds_toArray, List.set_cons_zero, List.set_cons_succ])
                  have hSc := keepS (conv_upd w2 c.key) (by simp) hS2
                  have hyc : By (convW w2 c.key) (convV w2 c.key) c.key := conv_by _ _ HK31.out
                  refine wpAnyM_one (i := 6) (by kernel_rfl) ?_
                  refine opM_call (i := 6) (dst := (some 51)) (op := (Go.Op.call { callee := (Go.Callee.value (Go.Operand.func 40)), args := #[(Go.Operand.tmp 50)], argTypes := #[41] })) (f := 40) (vs := #[convV w2 c.key]) (by rfl) (fun _ _ _ => by go_simp) ?_
                  refine (octet_Text _ c.key _ hyc HK30.out).mono ?_
                  rintro e w5 ⟨v5, rfl, hv5, hU5⟩
                  have hS5 := keepS hU5 (by simp) hSc
                  refine ⟨v5, rfl, .inr hS5, ?_⟩
                  (try simp only [Act.put, List.setIfInBounds_toArray, List.set_cons_zero, List.set_cons_succ])
                  obtain ⟨v6, w6, hr6, hv6, hU6, hU06, hob6⟩ := app_by (ty := 0) (P := Try.prog) (T := 41) (w0 := w) (w := w5) elU8 (Own.upd0 (Own.upd0 hv2 (conv_upd w2 c.key)) hU5) hv5.by ((hU2.trans0 (conv_upd w2 c.key)).trans0 hU5) HB2.out
                  have hS6 := keepS hU6 hne6 hS5
                  refine wpAnyM_one (i := 7) (by kernel_rfl) ?_
                  refine opM_val (i := 7) (dst := (some 52)) (op := (Go.Op.call { callee := (Go.Callee.builtin Go.Builtin.append), args := #[(Go.Operand.tmp 47), (Go.Operand.tmp 51)], argTypes := #[41, 41] })) (by rfl) (ex_append hr6 (by rfl) (by rfl)) (.inr hS6) ?_
                  (try simp only [Act.put, List.setIfInBounds_toArray, List.set_cons_zero, List.set_cons_succ])
                  refine wpAnyM_one (i := 8) (by kernel_rfl) ?_
                  refine opM_val (i := 8) (dst := (some 4)) (op := (Go.Op.assign (Go.Operand.tmp 52))) (by rfl) (fun _ _ _ => by go_simp; rfl) (.inr hS6) ?_
                  (try simp only [Act.put, List.setIfInBounds_toArray, List.set_cons_zero, List.set_cons_succ])
                  refine wpAnyM_done (by kernel_rfl) ?_ _
                  refine NoPanic.normal ?_
                  have HV6 := Lib.hid hv6
                  have HU6 := Lib.hid hU06
                  have k2 := hS6.2
                  clear hv6 hU06 hU6 hob6 hS6 hS5 hU5 hv5
                  by_cases hbig : 1048568 < (pre ++ encStep c).length
                  · have D8 := Lib.hid (fun (q : List UInt8) (hq : pre ++ [1] ++ textB c.key ++ textB c.val = q) => show decide ((1048568 : Int) < (q.length : Int)) = true from by rw [← hq, show pre ++ [1] ++ textB c.key ++ textB c.val = pre ++ encStep c from by rw [E9.out]; simp]; simp only [decide_eq_true_eq]; omega)
                    have HBG := Lib.hid hbig
                    clear hbig
                    go_wp2_with (first | (go_at_call 40; refine (octet_Text _ c.val _ (HPW.out.upd0 HU6.out) HV30.out).mono ?_; rintro e w7 ⟨v7, rfl, hv7, hU7⟩) | ((with_reducible show wpList _ _ _ (⟨_, .call ⟨.builtin .append, _, _⟩, _, _, _, _⟩ :: _) _ _); refine wpl_append_by elU8 rfl rfl (HU6.out.trans0 hU7) (Own.upd0 HV6.out hU7) rfl hv7.by rfl HB3.out ?_; intro v8 w8 hv8 _ hU8 hb8; obtain ⟨ao8, cap8, hs8⟩ := By.val hv8.by; subst hs8; generalize hq8 : pre ++ [1] ++ textB c.key ++ textB c.val = q8 at hv8 ⊢; have hbt := D8.out q8 hq8; have HQ8 := Lib.hid hq8; have HV8 := Lib.hid hv8; have HU8 := Lib.hid hU8; clear hq8 hv8 hU8 hb8))
                    go_ret2
                    exact enc_big (q := q8) HE.out hnb (by rw [← HQ8.out, E9.out]; simp) (by rw [← HQ8.out, show pre ++ [1] ++ textB c.key ++ textB c.val = pre ++ encStep c from by rw [E9.out]; simp]; exact HBG.out) HU8.out
                  · have D8 := Lib.hid (fun (q : List UInt8) (hq : pre ++ [1] ++ textB c.key ++ textB c.val = q) => show decide ((1048568 : Int) < (q.length : Int)) = false from by rw [← hq, show pre ++ [1] ++ textB c.key ++ textB c.val = pre ++ encStep c from by rw [E9.out]; simp]; simp only [decide_eq_false_iff_not]; omega)
                    have HBG := Lib.hid hbig
                    clear hbig
                    go_wp2_with (first | (go_at_call 40; refine (octet_Text _ c.val _ (HPW.out.upd0 HU6.out) HV30.out).mono ?_; rintro e w7 ⟨v7, rfl, hv7, hU7⟩) | ((with_reducible show wpList _ _ _ (⟨_, .call ⟨.builtin .append, _, _⟩, _, _, _, _⟩ :: _) _ _); refine wpl_append_by elU8 rfl rfl (HU6.out.trans0 hU7) (Own.upd0 HV6.out hU7) rfl hv7.by rfl HB3.out ?_; intro v8 w8 hv8 _ hU8 hb8; obtain ⟨ao8, cap8, hs8⟩ := By.val hv8.by; subst hs8; generalize hq8 : pre ++ [1] ++ textB c.key ++ textB c.val = q8 at hv8 ⊢; have hbt := D8.out q8 hq8; have HQ8 := Lib.hid hq8; have HV8 := Lib.hid hv8; have HU8 := Lib.hid hU8; clear hq8 hv8 hU8 hb8))
                    go_roundw
                    case rel => exact enc_ok (q := q8) HE.out hnb (by rw [← HQ8.out, E9.out]; simp) (by rw [← HQ8.out, show pre ++ [1] ++ textB c.key ++ textB c.val = pre ++ encStep c from by rw [E9.out]; simp]; exact HBG.out) HU8.out hlt HV8.out
                    case measure => simp [intOf]; omega
                · refine opM_val (i := 5) (dst := (some 50)) (op := (Go.Op.convert 9 41 (Go.Operand.tmp 49))) (by rfl) (ex_conv c.key (wa.drew.alloc (.cells #[.int .u8 1] 5)) (by rfl)) (.inr (keepS (conv_upd (wa.drew.alloc (.cells #[.int .u8 1] 5)) c.key) (by simp) hSlA)) ?_
                  (try simp only [Act.put, List.setIfInBounds_toArray, List.set_cons_zero, List.set_cons_succ])
                  have hScB := keepS (conv_upd (wa.drew.alloc (.cells #[.int .u8 1] 5)) c.key) (by simp) hSlA
                  have hUcB : Upd [] wa (convW (wa.drew.alloc (.cells #[.int .u8 1] 5)) c.key) := hUlA.trans0 (conv_upd _ _)
                  have hycB : By (convW (wa.drew.alloc (.cells #[.int .u8 1] 5)) c.key) (convV (wa.drew.alloc (.cells #[.int .u8 1] 5)) c.key) c.key := conv_by _ _ HK31.out
                  refine wpAnyM_one (i := 2) (by kernel_rfl) ?_
                  have hylB := hylA.upd0 (conv_upd _ c.key)
                  obtain ⟨v2, w2, hr2, hv2, hUap, hU2, hob2⟩ := app_by (ty := 0) (P := Try.prog) (T := 41) (w0 := w) (w := (convW (wa.drew.alloc (.cells #[.int .u8 1] 5)) c.key)) elU8 (Own.upd0 HOA.out hUcB) hylB (hUa.trans0 hUcB) HB1.out
                  have hne6 := ne_own hob2 hne4 hlta hUcB
                  refine opM_val (i := 2) (dst := (some 47)) (op := (Go.Op.call { callee := (Go.Callee.builtin Go.Builtin.append), args := #[(Go.Operand.tmp 45), (Go.Operand.tmp 46)], argTypes := #[41, 41] })) (by rfl) (ex_append hr2 (by rfl) (by rfl)) (.inr (keepS hUap hne4 hScB)) ?_
                  (try simp only [Act.put, List.setIfInBounds_toArray, List.set_cons_zero, List.set_cons_succ])
                  have hS2 := keepS hUap hne4 hScB
                  have hy6 := hycB.upd_away hUap (away_conv hlt4 (hUwa.trans0 hUlA))
                  refine wpAnyM_one (i := 6) (by kernel_rfl) ?_
                  refine opM_call (i := 6) (dst := (some 51)) (op := (Go.Op.call { callee := (Go.Callee.value (Go.Operand.func 40)), args := #[(Go.Operand.tmp 50)], argTypes := #[41] })) (f := 40) (vs := #[convV (wa.drew.alloc (.cells #[.int .u8 1] 5)) c.key]) (by rfl) (fun _ _ _ => by go_simp) ?_
                  refine (octet_Text _ c.key _ hy6 HK30.out).mono ?_
                  rintro e w5 ⟨v5, rfl, hv5, hU5⟩
                  have hS5 := keepS hU5 (by simp) hS2
                  refine ⟨v5, rfl, .inr hS5, ?_⟩
                  (try simp only [Act.put, List.setIfInBounds_toArray, List.set_cons_zero, List.set_cons_succ])
                  obtain ⟨v6, w6, hr6, hv6, hU6, hU06, hob6⟩ := app_by (ty := 0) (P := Try.prog) (T := 41) (w0 := w) (w := w5) elU8 (Own.upd0 hv2 hU5) hv5.by (hU2.trans0 hU5) HB2.out
                  have hS6 := keepS hU6 hne6 hS5
                  refine wpAnyM_one (i := 7) (by kernel_rfl) ?_
                  refine opM_val (i := 7) (dst := (some 52)) (op := (Go.Op.call { callee := (Go.Callee.builtin Go.Builtin.append), args := #[(Go.Operand.tmp 47), (Go.Operand.tmp 51)], argTypes := #[41, 41] })) (by rfl) (ex_append hr6 (by rfl) (by rfl)) (.inr hS6) ?_
                  (try simp only [Act.put, List.setIfInBounds_toArray, List.set_cons_zero, List.set_cons_succ])
                  refine wpAnyM_one (i := 8) (by kernel_rfl) ?_
                  refine opM_val (i := 8) (dst := (some 4)) (op := (Go.Op.assign (Go.Operand.tmp 52))) (by rfl) (fun _ _ _ => by go_simp; rfl) (.inr hS6) ?_
                  (try simp only [Act.put, List.setIfInBounds_toArray, List.set_cons_zero, List.set_cons_succ])
                  refine wpAnyM_done (by kernel_rfl) ?_ _
                  refine NoPanic.normal ?_
                  have HV6 := Lib.hid hv6
                  have HU6 := Lib.hid hU06
                  have k2 := hS6.2
                  clear hv6 hU06 hU6 hob6 hS6 hS5 hU5 hv5
                  by_cases hbig : 1048568 < (pre ++ encStep c).length
                  · have D8 := Lib.hid (fun (q : List UInt8) (hq : pre ++ [1] ++ textB c.key ++ textB c.val = q) => show decide ((1048568 : Int) < (q.length : Int)) = true from by rw [← hq, show pre ++ [1] ++ textB c.key ++ textB c.val = pre ++ encStep c from by rw [E9.out]; simp]; simp only [decide_eq_true_eq]; omega)
                    have HBG := Lib.hid hbig
                    clear hbig
                    go_wp2_with (first | (go_at_call 40; refine (octet_Text _ c.val _ (HPW.out.upd0 HU6.out) HV30.out).mono ?_; rintro e w7 ⟨v7, rfl, hv7, hU7⟩) | ((with_reducible show wpList _ _ _ (⟨_, .call ⟨.builtin .append, _, _⟩, _, _, _, _⟩ :: _) _ _); refine wpl_append_by elU8 rfl rfl (HU6.out.trans0 hU7) (Own.upd0 HV6.out hU7) rfl hv7.by rfl HB3.out ?_; intro v8 w8 hv8 _ hU8 hb8; obtain ⟨ao8, cap8, hs8⟩ := By.val hv8.by; subst hs8; generalize hq8 : pre ++ [1] ++ textB c.key ++ textB c.val = q8 at hv8 ⊢; have hbt := D8.out q8 hq8; have HQ8 := Lib.hid hq8; have HV8 := Lib.hid hv8; have HU8 := Lib.hid hU8; clear hq8 hv8 hU8 hb8))
                    go_ret2
                    exact enc_big (q := q8) HE.out hnb (by rw [← HQ8.out, E9.out]; simp) (by rw [← HQ8.out, show pre ++ [1] ++ textB c.key ++ textB c.val = pre ++ encStep c from by rw [E9.out]; simp]; exact HBG.out) HU8.out
                  · have D8 := Lib.hid (fun (q : List UInt8) (hq : pre ++ [1] ++ textB c.key ++ textB c.val = q) => show decide ((1048568 : Int) < (q.length : Int)) = false from by rw [← hq, show pre ++ [1] ++ textB c.key ++ textB c.val = pre ++ encStep c from by rw [E9.out]; simp]; simp only [decide_eq_false_iff_not]; omega)
                    have HBG := Lib.hid hbig
                    clear hbig
                    go_wp2_with (first | (go_at_call 40; refine (octet_Text _ c.val _ (HPW.out.upd0 HU6.out) HV30.out).mono ?_; rintro e w7 ⟨v7, rfl, hv7, hU7⟩) | ((with_reducible show wpList _ _ _ (⟨_, .call ⟨.builtin .append, _, _⟩, _, _, _, _⟩ :: _) _ _); refine wpl_append_by elU8 rfl rfl (HU6.out.trans0 hU7) (Own.upd0 HV6.out hU7) rfl hv7.by rfl HB3.out ?_; intro v8 w8 hv8 _ hU8 hb8; obtain ⟨ao8, cap8, hs8⟩ := By.val hv8.by; subst hs8; generalize hq8 : pre ++ [1] ++ textB c.key ++ textB c.val = q8 at hv8 ⊢; have hbt := D8.out q8 hq8; have HQ8 := Lib.hid hq8; have HV8 := Lib.hid hv8; have HU8 := Lib.hid hU8; clear hq8 hv8 hU8 hb8))
                    go_roundw
                    case rel => exact enc_ok (q := q8) HE.out hnb (by rw [← HQ8.out, E9.out]; simp) (by rw [← HQ8.out, show pre ++ [1] ++ textB c.key ++ textB c.val = pre ++ encStep c from by rw [E9.out]; simp]; exact HBG.out) HU8.out hlt HV8.out
                    case measure => simp [intOf]; omega
              · refine opM_val (i := 5) (dst := (some 50)) (op := (Go.Op.convert 9 41 (Go.Operand.tmp 49))) (by rfl) (ex_conv c.key wa.drew (by rfl)) (.inr (keepS (conv_upd wa.drew c.key) (by simp) hS0)) ?_
                (try simp only [Act.put, List.setIfInBounds_toArray, List.set_cons_zero, List.set_cons_succ])
                have hScC := keepS (conv_upd wa.drew c.key) (by simp) hS0
                have hUcC : Upd [] wa (convW wa.drew c.key) := hUd0.trans0 (conv_upd _ _)
                have hycC : By (convW wa.drew c.key) (convV wa.drew c.key) c.key := conv_by _ _ HK31.out
                refine wpAnyM_one (i := 1) (by kernel_rfl) ?_
                refine opM_val (i := 1) (dst := (some 46)) (op := (Go.Op.buildSlice 41 1 #[(0, (Go.Operand.const (Go.Value.int Go.IntKind.u8 1)))])) (by rfl) (ex_lit (run_lit (w := (convW wa.drew c.key)) elU8 (.int .u8 1) rfl (by omega)) (by rfl)) (.inr (keepS (Upd.alloc [] (convW wa.drew c.key) _) (by simp) hScC)) ?_
                (try simp only [Act.put, List.setIfInBounds_toArray, List.set_cons_zero, List.set_cons_succ])
                have hSlC := keepS (Upd.alloc [] (convW wa.drew c.key) (.cells #[.int .u8 1] 5)) (by simp) hScC
                have hUlC : Upd [] wa ((convW wa.drew c.key).alloc (.cells #[.int .u8 1] 5)) := hUcC.trans0 (Upd.alloc [] _ _)
                have hylC : By ((convW wa.drew c.key).alloc (.cells #[.int .u8 1] 5)) (.slice (some ⟨(convW wa.drew c.key).heap.size, 0, none⟩) 1 1) [1] := Rd.new (w := (convW wa.drew c.key)) (n := 1) (cap := 1) (xs := [enc 1]) rfl (Nat.le_refl _) (by decide) rfl rfl
                refine wpAnyM_one (i := 2) (by kernel_rfl) ?_
                obtain ⟨v2, w2, hr2, hv2, hUap, hU2, hob2⟩ := app_by (ty := 0) (P := Try.prog) (T := 41) (w0 := w) (w := ((convW wa.drew c.key).alloc (.cells #[.int .u8 1] 5))) elU8 (Own.upd0 HOA.out hUlC) hylC (hUa.trans0 hUlC) HB1.out
                have hne6 := ne_own hob2 hne4 hlta hUlC
                refine opM_val (i := 2) (dst := (some 47)) (op := (Go.Op.call { callee := (Go.Callee.builtin Go.Builtin.append), args := #[(Go.Operand.tmp 45), (Go.Operand.tmp 46)], argTypes := #[41, 41] })) (by rfl) (ex_append hr2 (by rfl) (by rfl)) (.inr (keepS hUap hne4 hSlC)) ?_
                (try simp only [Act.put, List.setIfInBounds_toArray, List.set_cons_zero, List.set_cons_succ])
                have hS2 := keepS hUap hne4 hSlC
                have hy6 := (hycC.upd0 (Upd.alloc [] _ _)).upd_away hUap (away_conv hlt4 (hUwa.trans0 hUd0))
                refine wpAnyM_one (i := 6) (by kernel_rfl) ?_
                refine opM_call (i := 6) (dst := (some 51)) (op := (Go.Op.call { callee := (Go.Callee.value (Go.Operand.func 40)), args := #[(Go.Operand.tmp 50)], argTypes := #[41] })) (f := 40) (vs := #[convV wa.drew c.key]) (by rfl) (fun _ _ _ => by go_simp) ?_
                refine (octet_Text _ c.key _ hy6 HK30.out).mono ?_
                rintro e w5 ⟨v5, rfl, hv5, hU5⟩
                have hS5 := keepS hU5 (by simp) hS2
                refine ⟨v5, rfl, .inr hS5, ?_⟩
                (try simp only [Act.put, List.setIfInBounds_toArray, List.set_cons_zero, List.set_cons_succ])
                obtain ⟨v6, w6, hr6, hv6, hU6, hU06, hob6⟩ := app_by (ty := 0) (P := Try.prog) (T := 41) (w0 := w) (w := w5) elU8 (Own.upd0 hv2 hU5) hv5.by (hU2.trans0 hU5) HB2.out
                have hS6 := keepS hU6 hne6 hS5
                refine wpAnyM_one (i := 7) (by kernel_rfl) ?_
                refine opM_val (i := 7) (dst := (some 52)) (op := (Go.Op.call { callee := (Go.Callee.builtin Go.Builtin.append), args := #[(Go.Operand.tmp 47), (Go.Operand.tmp 51)], argTypes := #[41, 41] })) (by rfl) (ex_append hr6 (by rfl) (by rfl)) (.inr hS6) ?_
                (try simp only [Act.put, List.setIfInBounds_toArray, List.set_cons_zero, List.set_cons_succ])
                refine wpAnyM_one (i := 8) (by kernel_rfl) ?_
                refine opM_val (i := 8) (dst := (some 4)) (op := (Go.Op.assign (Go.Operand.tmp 52))) (by rfl) (fun _ _ _ => by go_simp; rfl) (.inr hS6) ?_
                (try simp only [Act.put, List.setIfInBounds_toArray, List.set_cons_zero, List.set_cons_succ])
                refine wpAnyM_done (by kernel_rfl) ?_ _
                refine NoPanic.normal ?_
                have HV6 := Lib.hid hv6
                have HU6 := Lib.hid hU06
                have k2 := hS6.2
                clear hv6 hU06 hU6 hob6 hS6 hS5 hU5 hv5
                by_cases hbig : 1048568 < (pre ++ encStep c).length
                · have D8 := Lib.hid (fun (q : List UInt8) (hq : pre ++ [1] ++ textB c.key ++ textB c.val = q) => show decide ((1048568 : Int) < (q.length : Int)) = true from by rw [← hq, show pre ++ [1] ++ textB c.key ++ textB c.val = pre ++ encStep c from by rw [E9.out]; simp]; simp only [decide_eq_true_eq]; omega)
                  have HBG := Lib.hid hbig
                  clear hbig
                  go_wp2_with (first | (go_at_call 40; refine (octet_Text _ c.val _ (HPW.out.upd0 HU6.out) HV30.out).mono ?_; rintro e w7 ⟨v7, rfl, hv7, hU7⟩) | ((with_reducible show wpList _ _ _ (⟨_, .call ⟨.builtin .append, _, _⟩, _, _, _, _⟩ :: _) _ _); refine wpl_append_by elU8 rfl rfl (HU6.out.trans0 hU7) (Own.upd0 HV6.out hU7) rfl hv7.by rfl HB3.out ?_; intro v8 w8 hv8 _ hU8 hb8; obtain ⟨ao8, cap8, hs8⟩ := By.val hv8.by; subst hs8; generalize hq8 : pre ++ [1] ++ textB c.key ++ textB c.val = q8 at hv8 ⊢; have hbt := D8.out q8 hq8; have HQ8 := Lib.hid hq8; have HV8 := Lib.hid hv8; have HU8 := Lib.hid hU8; clear hq8 hv8 hU8 hb8))
                  go_ret2
                  exact enc_big (q := q8) HE.out hnb (by rw [← HQ8.out, E9.out]; simp) (by rw [← HQ8.out, show pre ++ [1] ++ textB c.key ++ textB c.val = pre ++ encStep c from by rw [E9.out]; simp]; exact HBG.out) HU8.out
                · have D8 := Lib.hid (fun (q : List UInt8) (hq : pre ++ [1] ++ textB c.key ++ textB c.val = q) => show decide ((1048568 : Int) < (q.length : Int)) = false from by rw [← hq, show pre ++ [1] ++ textB c.key ++ textB c.val = pre ++ encStep c from by rw [E9.out]; simp]; simp only [decide_eq_false_iff_not]; omega)
                  have HBG := Lib.hid hbig
                  clear hbig
                  go_wp2_with (first | (go_at_call 40; refine (octet_Text _ c.val _ (HPW.out.upd0 HU6.out) HV30.out).mono ?_; rintro e w7 ⟨v7, rfl, hv7, hU7⟩) | ((with_reducible show wpList _ _ _ (⟨_, .call ⟨.builtin .append, _, _⟩, _, _, _, _⟩ :: _) _ _); refine wpl_append_by elU8 rfl rfl (HU6.out.trans0 hU7) (Own.upd0 HV6.out hU7) rfl hv7.by rfl HB3.out ?_; intro v8 w8 hv8 _ hU8 hb8; obtain ⟨ao8, cap8, hs8⟩ := By.val hv8.by; subst hs8; generalize hq8 : pre ++ [1] ++ textB c.key ++ textB c.val = q8 at hv8 ⊢; have hbt := D8.out q8 hq8; have HQ8 := Lib.hid hq8; have HV8 := Lib.hid hv8; have HU8 := Lib.hid hU8; clear hq8 hv8 hU8 hb8))
                  go_roundw
                  case rel => exact enc_ok (q := q8) HE.out hnb (by rw [← HQ8.out, E9.out]; simp) (by rw [← HQ8.out, show pre ++ [1] ++ textB c.key ++ textB c.val = pre ++ encStep c from by rw [E9.out]; simp]; exact HBG.out) HU8.out hlt HV8.out
                  case measure => simp [intOf]; omega
              --END 11
    · have htt : decide ((i : Int) < (l.length : Int)) = false := by simp; omega
      have hie : i = l.length := by omega
      have HFIN := Lib.hid (show EncPost w l (.returned (.tuple #[u4, .int .i64 0])) wr from by
        unfold EncPost
        rw [henc, hie, List.drop_length]
        exact ⟨_, rfl, hown, hU⟩)
      clear henc hpl hown
      go_wp2_with fail
      go_ret2
      exact HFIN.out
end Go.Proofs.Ythfbfdkjgkkpcaa
