/-
  The walks of the table's small calls: up, do, Get, Len.
-/
import Derived.Test.YthfbfdkjgkkpcaaTspec
namespace Go.Proofs.Ythfbfdkjgkkpcaa
open Go Go.RowKit

section
variable {P : Program} {ops : Array Oper} {Q : Exit → Act → World → Prop} {o : Oper} {a : Act} {w : World}
theorem step_skip {K : Act → World → Prop} (hw : Region.wanted o (yielded ops a.tmps) = true) {w' : World} (hrun : (execOp a.eval o).run P w = .ok .skip w') (h : K (a.put o.dst undef) w') :
    if Region.wanted o (yielded ops a.tmps) = true then Oper.wp P o a w K Q else K (a.put o.dst undef) w := by
  rw [if_pos hw]
  unfold Oper.wp
  rw [hrun]
  exact h
theorem run_mapUpdate_op {M : Nat} {m x y : Operand} {mv kv v : Value} {w' : World} (hr : (Instr.mapUpdate M mv kv v).run P w = .ok () w') (ho : o.op = .mapUpdate M m x y) (hm : a.eval m = mv) (hk : a.eval x = kv) (hv : a.eval y = v) :
    (execOp a.eval o).run P w = .ok .skip w' := by
  simp [execOp, ho, hm, hk, hv, hr, Result.andThen]
theorem run_delete_op {M K : Nat} {m x : Operand} {mv kv : Value} {w' : World} (hr : (Builtin.delete_ #[M, K] 0 #[mv, kv]).run P w = .ok (.tuple #[]) w') (ho : o.op = .call { callee := .builtin .delete, args := #[m, x], argTypes := #[M, K] }) (ht : o.type = 0) (hm : a.eval m = mv) (hk : a.eval x = kv) :
    (execOp a.eval o).run P w = .ok (.value (.tuple #[])) w' := by
  rw [← ht] at hr
  simp [execOp, ho, resolve, invoke, builtin, hm, hk, hr, Result.andThen]
end

theorem mapTab : MapT Try.prog 68 41 (.slice none 0 0) := ⟨⟨9, by kernel_rfl, by kernel_rfl⟩, by
  obtain ⟨i, h1, h2, h3, h4⟩ := info_parts (P := Try.prog) (e := 41) (z := .slice none 0 0) (size := 1) (bytes := 24) (by kernel_rfl)
  exact ⟨i, h1, h2⟩⟩
theorem elTChg : Elem Try.prog 35 51 3 48 := ⟨by kernel_rfl, by omega, by
  obtain ⟨i, h1, h2, h3, h4⟩ := info_parts (P := Try.prog) (e := 51) (z := .agg #[.string ⟨#[]⟩, .bool false, .slice none 0 0]) (size := 3) (bytes := 48) (by kernel_rfl)
  exact ⟨i, _, h1, h2, h3, h4, rfl⟩⟩

theorem table_up (w : World) (d tb : Nat) (S : List Nat) (T : TSt) (h : TAt w d tb S T) :
    Calls Try.prog 30 #[.pointer (some ⟨tb, 0, none⟩)] w fun e w' => e = .returned (.int .i64 (if T.down then 5 else 0)) ∧ w = w' := by
  obtain ⟨jb, mb, S0, rfl, _, hJ, hM, ht⟩ := h.ex
  have c : w.cell? ⟨tb, 2, none⟩ = some (.bool T.down) := by rw [cell_lit w tb 2 _ _ _ ht]; rfl
  clear ht h hJ hM
  cases hb : T.down <;> rw [hb] at c
  all_goals
    clear hb
    go_enter Try.func30, Try.ntmps30
    go_wp2
    go_ret
    exact ⟨rfl, rfl⟩
theorem table_up_nil (w : World) : Calls Try.prog 30 #[.pointer none] w fun e w' => e = .returned (.int .i64 2) ∧ w = w' := by
  go_enter Try.func30, Try.ntmps30
  go_wp2
  go_ret
  exact ⟨rfl, rfl⟩
theorem table_len (w : World) (d tb : Nat) (S : List Nat) (T : TSt) (h : TAt w d tb S T) :
    Calls Try.prog 21 #[.pointer (some ⟨tb, 0, none⟩)] w fun e w' => e = .returned (.int .i64 T.m.length) ∧ w = w' := by
  obtain ⟨jb, mb, S0, rfl, _, hJ, hM, ht⟩ := h.ex
  have c : w.cell? ⟨tb, 1, none⟩ = some (.map (some mb)) := by rw [cell_lit w tb 1 _ _ _ ht]; rfl
  obtain ⟨es, hW, hlen, _, _⟩ := hM.find
  clear ht h hJ hM
  rw [← hlen]
  clear hlen
  go_enter Try.func21, Try.ntmps21
  go_wp2_with ((with_reducible show wpList _ _ _ (⟨_, .call ⟨.builtin .len, _, _⟩, _, _, _, _⟩ :: _) _ _); refine wpl_len mapTab rfl rfl hW rfl ?_)
  go_ret
  exact ⟨rfl, rfl⟩
theorem table_len_nil (w : World) : Calls Try.prog 21 #[.pointer none] w fun e w' => e = .returned (.int .i64 0) ∧ w = w' := by
  go_enter Try.func21, Try.ntmps21
  go_wp2
  go_ret
  exact ⟨rfl, rfl⟩

/-- A value comes back in memory of the call's own, and whether there is one. -/
def GetPost (w : World) (v : Option (List UInt8)) (e : Ending) (w' : World) : Prop := ∃ x, e = .returned (.tuple #[x, .bool v.isSome]) ∧ OwnBy w' w.heap.size x (v.getD []) ∧ Upd [] w w'
theorem table_get (w : World) (d tb : Nat) (S : List Nat) (T : TSt) (h : TAt w d tb S T) (key : List UInt8) (hl : ((aget key T.m).getD []).length ≤ 1073741824) :
    Calls Try.prog 15 #[.pointer (some ⟨tb, 0, none⟩), encS key] w (GetPost w (aget key T.m)) := by
  obtain ⟨jb, mb, S0, rfl, _, hJ, hM, ht⟩ := h.ex
  have c : w.cell? ⟨tb, 1, none⟩ = some (.map (some mb)) := by rw [cell_lit w tb 1 _ _ _ ht]; rfl
  obtain ⟨es, hW, _, hsome, hby⟩ := hM.find
  have hs := hsome key
  have hb := hby key
  have hc := slices_clone w _ _ hb hl
  clear ht h hJ hM hsome hby hl
  generalize hv : (aget key es).getD (.slice none 0 0) = v at *
  generalize hq : (aget key T.m).isSome = q at *
  have HQ := Lib.hid hq; clear hq
  go_enter Try.func15, Try.ntmps15
  go_wp2_with (first
    | ((with_reducible show wpList _ _ _ (⟨_, .lookup _ _ _ _, _, _, _, _⟩ :: _) _ _); refine wpl_lookup_ok mapTab rfl rfl hW rfl key rfl _ hv q hs ?_)
    | (go_at_call 37; refine hc.mono ?_; rintro e w1 ⟨v1, rfl, hv1, hU1⟩))
  go_ret2
  exact ⟨v1, by rw [HQ.out]; rfl, hv1, hU1⟩
theorem table_get_nil (w : World) (key : List UInt8) : Calls Try.prog 15 #[.pointer none, encS key] w fun e w' => e = .returned (.tuple #[.slice none 0 0, .bool false]) ∧ w = w' := by
  go_enter Try.func15, Try.ntmps15
  go_wp2
  go_ret2
  exact ⟨rfl, rfl⟩

def TdoRel (w : World) (mb : Nat) (m : List (List UInt8 × List UInt8)) (l : List TChg) (x : Value) (wr : World) : Prop := ∃ i : Nat, x = .int .i64 i ∧ i ≤ l.length ∧ Upd [mb] w wr ∧ MapB wr mb (tdo m (l.take i))
set_option maxRecDepth 100000 in
set_option maxHeartbeats 1000000 in
theorem table_do (w : World) (tb jb mb : Nat) (m : List (List UInt8 × List UInt8)) (q : Value) (hM : MapB w mb m) (ht : w.heap[tb]? = some (.cells #[.pointer (some ⟨jb, 0, none⟩), .map (some mb), q] 78 (0, 0))) (lv : Value) (l : List TChg) (hc : Chgs w lv l)
    (hl : l.length ≤ 1000000000) (hvl : ∀ c ∈ l, c.val.length ≤ 1073741824) :
    Calls Try.prog 29 #[.pointer (some ⟨tb, 0, none⟩), lv] w fun e w' => e = .returned (.tuple #[]) ∧ Upd [mb] w w' ∧ MapB w' mb (tdo m l) := by
  obtain ⟨cells, hR, hT⟩ := hc
  obtain ⟨ao, cap, rfl, _⟩ := hR.shape
  have c1 : w.cell? ⟨tb, 1, none⟩ = some (.map (some mb)) := by rw [cell_lit w tb 1 _ _ _ ht]; rfl
  have htm : tb ∉ [mb] := by simp; exact (hM.ne_cells ht).symm
  have off8 : Off w 5 [mb] := hM.off (Off.nil _ _)
  have offc : Off w 51 [mb] := hM.off (Off.nil _ _)
  have HL := Lib.hid hl; have HV := Lib.hid hvl; have HT := Lib.hid hT; have HR := Lib.hid hR
  clear hl hvl hT hR ht
  go_enter Try.func29, Try.ntmps29
  go_wp2_with fail
  go_loopw [8] (fun x wr => TdoRel w mb m l x wr) (fun x _ => l.length - (intOf x).toNat)
  case atStart => exact ⟨0, rfl, Nat.zero_le _, Upd.refl _ _, hM⟩
  case round =>
    obtain ⟨i, rfl, hi, hU, hMr⟩ := hrel
    have hll := HL.out
    by_cases hlt : i < l.length
    · have htt : decide ((i : Int) < (l.length : Int)) = true := by simp; omega
      obtain ⟨c, hci⟩ : ∃ c, l[i]? = some c := ⟨_, List.getElem?_eq_getElem hlt⟩
      obtain ⟨pv, g0, g1, g2, hpv⟩ := HT.out.get hci
      have hpr : By wr pv c.val := hpv.upd hU off8
      have hcv : c.val.length ≤ 1073741824 := HV.out c (List.mem_of_getElem? hci)
      obtain ⟨ap, cp, hsp⟩ := By.val hpr
      subst hsp
      have hRr : Rd wr 51 3 (.slice ao l.length cap) l.length cells := HR.out.upd hU offc
      have hwn : wr.heap.size ∉ [mb] := by have := hMr.lt; simp; omega
      have HMS := Lib.hid (tdo_take_succ m l i c hci)
      have hnd := hMr.nodup
      obtain ⟨es, m', hW, hVa, hPm⟩ := hMr
      cases hg : c.gone with
      | true =>
        rw [hg] at g1
        have hUa : Upd [] wr (wr.alloc (Obj.cells #[encS c.key, .bool true, Value.slice ap c.val.length cp] 51)) := Upd.alloc [] _ _
        have hba := heap_alloc_new wr (Obj.cells #[encS c.key, .bool true, Value.slice ap c.val.length cp] 51)
        have b0 : (wr.alloc (Obj.cells #[encS c.key, .bool true, Value.slice ap c.val.length cp] 51)).cell? ⟨wr.heap.size, 0, none⟩ = some (encS c.key) := by rw [cell_lit _ _ 0 _ _ _ hba]; rfl
        have d1 := hUa.cell (hU.cell c1 htm) (by simp)
        have hUd : Upd [] wr (wr.alloc (Obj.cells #[encS c.key, .bool true, Value.slice ap c.val.length cp] 51)).drew := hUa.trans0 (Upd.drew [] _)
        have hW1 := hW.upd hUd (by simp)
        have hV1 := hVa.upd hUd (Off.nil _ _)
        obtain ⟨w2, hr2, hW2, hU2⟩ := run_delete_s (P := Try.prog) (ty := 0) (K := 9) mapTab hW1 c.key
        have HFIN := Lib.hid (show TdoRel w mb m l (.int .i64 ((i + 1 : Nat) : Int)) w2 from ⟨i + 1, rfl, hlt, hU.trans ((hUd.mono (T := [mb]) (by simp)).trans hU2 (fun j hj _ => hj)) (fun j hj _ => hj), by
          rw [HMS.out]
          have := MapB.del hV1 hPm hnd hW2 hU2 (hW1.off (Off.nil _ _))
          unfold tdo1; rw [hg]; exact this⟩)
        clear hg hW2 hV1 hVa hW hW1 hUd hpv hba hci hi
        go_wp2_with ((with_reducible show wpList _ _ _ (⟨_, .indexAddr _ _ _, _, _, _, _⟩ :: _) _ _); refine wpl_indexAddr elTChg rfl rfl hRr rfl rfl (by omega) (by omega) ?_; intro ad hcell hspot; (have k0 := hcell 0 (by omega)); (have k1 := hcell 1 (by omega)); (have k2 := hcell 2 (by omega)); rw [Int.toNat_natCast, g0] at k0; rw [Int.toNat_natCast, g1] at k1; rw [Int.toNat_natCast, g2] at k2; clear hcell; obtain ⟨gb, gof, gs⟩ := ad; cases hspot; simp only [Addr.add_lit, Nat.add_zero] at k0 k1 k2)
        go_region_held3 (fun W => W.cell? ⟨tb, 1, none⟩ = some (.map (some mb)) ∧ W.cell? ⟨wr.heap.size, 0, none⟩ = some (encS c.key))
          (first | go_keep | exact ⟨hU2.cell d1 htm, hU2.cell b0 hwn⟩)
          ((refine step_run rfl (run_delete_op hr2 rfl rfl rfl rfl) ?_))
        go_wp2_with fail
        go_roundw
        case rel => have h := HFIN.out; rw [show (((i + 1 : Nat) : Int)) = (i : Int) + 1 from by omega] at h; exact h
        case measure => simp [intOf]; omega
      | false =>
        rw [hg] at g1
        have hUa : Upd [] wr (wr.alloc (Obj.cells #[encS c.key, .bool false, Value.slice ap c.val.length cp] 51)) := Upd.alloc [] _ _
        have hba := heap_alloc_new wr (Obj.cells #[encS c.key, .bool false, Value.slice ap c.val.length cp] 51)
        have b0 : (wr.alloc (Obj.cells #[encS c.key, .bool false, Value.slice ap c.val.length cp] 51)).cell? ⟨wr.heap.size, 0, none⟩ = some (encS c.key) := by rw [cell_lit _ _ 0 _ _ _ hba]; rfl
        have b2 : (wr.alloc (Obj.cells #[encS c.key, .bool false, Value.slice ap c.val.length cp] 51)).cell? ⟨wr.heap.size, 2, none⟩ = some (Value.slice ap c.val.length cp) := by rw [cell_lit _ _ 2 _ _ _ hba]; rfl
        have d1 := hUa.cell (hU.cell c1 htm) (by simp)
        have hUd : Upd [] wr (wr.alloc (Obj.cells #[encS c.key, .bool false, Value.slice ap c.val.length cp] 51)).drew := hUa.trans0 (Upd.drew [] _)
        have hW1 := hW.upd hUd (by simp)
        have hV1 := hVa.upd hUd (Off.nil _ _)
        have hcl := slices_clone (wr.alloc (Obj.cells #[encS c.key, .bool false, Value.slice ap c.val.length cp] 51)).drew _ c.val (hpr.upd0 hUd) hcv
        have HFIN := Lib.hid (fun (v3 : Value) (w3 w4 : World) (hU3 : Upd [] (wr.alloc (Obj.cells #[encS c.key, .bool false, Value.slice ap c.val.length cp] 51)).drew w3) (hv3 : By w3 v3 c.val) (hW4 : MapW w4 mb (aput c.key v3 es)) (hU4 : Upd [mb] w3 w4) => show TdoRel w mb m l (.int .i64 ((i + 1 : Nat) : Int)) w4 from ⟨i + 1, rfl, hlt, hU.trans (((hUd.trans0 hU3).mono (T := [mb]) (by simp)).trans hU4 (fun j hj _ => hj)) (fun j hj _ => hj), by
          rw [HMS.out]
          have := MapB.put (hV1.upd hU3 (Off.nil _ _)) hPm hnd hv3 hW4 hU4 ((hW1.upd hU3 (by simp)).off (Off.nil _ _))
          unfold tdo1; rw [hg]; exact this⟩)
        have HW1 := Lib.hid hW1
        clear hg hV1 hVa hW hW1 hUd hpv hba hci hi hcv hll
        go_wp2_with ((with_reducible show wpList _ _ _ (⟨_, .indexAddr _ _ _, _, _, _, _⟩ :: _) _ _); refine wpl_indexAddr elTChg rfl rfl hRr rfl rfl (by omega) (by omega) ?_; intro ad hcell hspot; (have k0 := hcell 0 (by omega)); (have k1 := hcell 1 (by omega)); (have k2 := hcell 2 (by omega)); rw [Int.toNat_natCast, g0] at k0; rw [Int.toNat_natCast, g1] at k1; rw [Int.toNat_natCast, g2] at k2; clear hcell; obtain ⟨gb, gof, gs⟩ := ad; cases hspot; simp only [Addr.add_lit, Nat.add_zero] at k0 k1 k2)
        go_region_held3 (fun W => W.cell? ⟨tb, 1, none⟩ = some (.map (some mb)) ∧ W.cell? ⟨wr.heap.size, 0, none⟩ = some (encS c.key) ∧ W.cell? ⟨wr.heap.size, 2, none⟩ = some (Value.slice ap c.val.length cp))
          (first | go_keep | exact ⟨hU4.cell (hU3.cell d1 (by simp)) htm, hU4.cell (hU3.cell b0 (by simp)) hwn, hU4.cell (hU3.cell b2 (by simp)) hwn⟩ | exact ⟨hU3.cell d1 (by simp), hU3.cell b0 (by simp), hU3.cell b2 (by simp)⟩)
          ((go_at_call 37; refine hcl.mono ?_; rintro e w3 ⟨v3, rfl, hv3, hU3⟩; obtain ⟨w4, hr4, hW4, hU4⟩ := run_mapUpdate_s (P := Try.prog) mapTab (HW1.out.upd hU3 (by simp)) c.key v3))
        have hll := HL.out
        go_wp2_with fail
        go_roundw
        case rel => have h := HFIN.out v3 _ w4 hU3 hv3.by hW4 hU4; rw [show (((i + 1 : Nat) : Int)) = (i : Int) + 1 from by omega] at h; exact h
        case measure => simp [intOf]; omega
    · have htt : decide ((i : Int) < (l.length : Int)) = false := by simp; omega
      have hie : i = l.length := by omega
      go_wp2_with fail
      go_end0
      rw [hie, List.take_length] at hMr
      exact ⟨rfl, hU, hMr⟩
end Go.Proofs.Ythfbfdkjgkkpcaa
