/-
  The walks of the table's small calls: up, do, Get, Len.
  The walk of the table's Keys.
  The document's pairs, plainly: in order by key; what Find, Do and Keys come to, against the table's map.
  []byte(s) of a text, and what it leaves.
  The walk of the table's Encode.
  A slice literal of any number of elements.
  The journal's Open where there is no file yet.
  The walk of the table's Apply.
  How slices read as the document's pairs and changes.
  The walks of the document's small words: Twin, Same, Begins, Find.
  The walks of octet's Get and Word; the plain numbers behind them.
  The document's octets: Put, Get, Crc.
  The walks of the document's Do, and of the law's to.
  The walks of disk.Read and of the journal's Scan; the plain records of a journal's bytes.
  The walks of the disk's Read, Remove, Rename, Fuse.
  The walks of maps.Clone and of the disk's Crash.
  The walk of the disk's Crash.
-/
import Derived.Test.YthfbfdkjgkkpcaaGreatPkA
import Derived.Sort.Walk0
import Derived.Laws.IdiomStrings
import Derived.Shelf.SlMaps.Clone
namespace Go.Proofs.YthfbfdkjgkkpcaaGreat
open Go Go.RowKit

section
variable {P : Program} {ops : Array Oper} {Q : Exit → Act → World → Prop} {o : Oper} {a : Act} {w : World}
theorem step_skip {K : Act → World → Prop} (hw : Region.wanted o (yielded ops a.tmps) = true) {w' : World} (hrun : (execOp a.eval o).run P w = .ok .skip w') (h : K (a.put o.dst undef) w') :
    if Region.wanted o (yielded ops a.tmps) = true then Oper.wp P o a w K Q else K (a.put o.dst undef) w := by
  rw [if_pos hw]
  unfold Oper.wp
  rw [hrun]
  exact h
theorem run_mapUpdate_op {M : Nat} {m x y : Operand} {mv kv v : Value} {w' : World} (hr : (Instr.mapUpdate M mv kv v).run P w = .ok () w') (ho : o.op = .mapUpdate M m x y) (hm : a.eval m = mv) (hk : a.eval x = kv) (hv : a.eval y = v) :
    (execOp a.eval o).run P w = .ok .skip w' := by
  simp [execOp, ho, hm, hk, hv, hr, Result.andThen]
theorem run_delete_op {M K : Nat} {m x : Operand} {mv kv : Value} {w' : World} (hr : (Builtin.delete_ #[M, K] 0 #[mv, kv]).run P w = .ok (.tuple #[]) w') (ho : o.op = .call { callee := .builtin .delete, args := #[m, x], argTypes := #[M, K] }) (ht : o.type = 0) (hm : a.eval m = mv) (hk : a.eval x = kv) :
    (execOp a.eval o).run P w = .ok (.value (.tuple #[])) w' := by
  rw [← ht] at hr
  simp [execOp, ho, resolve, invoke, builtin, hm, hk, hr, Result.andThen]
end

theorem mapTab : MapT Tryz.prog 112 36 (.slice none 0 0) := ⟨⟨9, by kernel_rfl, by kernel_rfl⟩, by
  obtain ⟨i, h1, h2, h3, h4⟩ := info_parts (P := Tryz.prog) (e := 36) (z := .slice none 0 0) (size := 1) (bytes := 24) (by kernel_rfl)
  exact ⟨i, h1, h2⟩⟩
theorem elTChg : Elem Tryz.prog 56 60 3 48 := ⟨by kernel_rfl, by omega, by
  obtain ⟨i, h1, h2, h3, h4⟩ := info_parts (P := Tryz.prog) (e := 60) (z := .agg #[.string ⟨#[]⟩, .bool false, .slice none 0 0]) (size := 3) (bytes := 48) (by kernel_rfl)
  exact ⟨i, _, h1, h2, h3, h4, rfl⟩⟩

theorem table_up (w : World) (d tb : Nat) (S : List Nat) (T : TSt) (h : TAt w d tb S T) :
    Calls Tryz.prog 81 #[.pointer (some ⟨tb, 0, none⟩)] w fun e w' => e = .returned (.int .i64 (if T.down then 5 else 0)) ∧ w = w' := by
  obtain ⟨jb, mb, S0, rfl, _, hJ, hM, ht⟩ := h.ex
  have c : w.cell? ⟨tb, 2, none⟩ = some (.bool T.down) := by rw [cell_lit w tb 2 _ _ _ ht]; rfl
  clear ht h hJ hM
  cases hb : T.down <;> rw [hb] at c
  all_goals
    clear hb
    go_enter Tryz.func81, Tryz.ntmps81
    go_wp2
    go_ret
    exact ⟨rfl, rfl⟩
theorem table_up_nil (w : World) : Calls Tryz.prog 81 #[.pointer none] w fun e w' => e = .returned (.int .i64 2) ∧ w = w' := by
  go_enter Tryz.func81, Tryz.ntmps81
  go_wp2
  go_ret
  exact ⟨rfl, rfl⟩
theorem table_len (w : World) (d tb : Nat) (S : List Nat) (T : TSt) (h : TAt w d tb S T) :
    Calls Tryz.prog 71 #[.pointer (some ⟨tb, 0, none⟩)] w fun e w' => e = .returned (.int .i64 T.m.length) ∧ w = w' := by
  obtain ⟨jb, mb, S0, rfl, _, hJ, hM, ht⟩ := h.ex
  have c : w.cell? ⟨tb, 1, none⟩ = some (.map (some mb)) := by rw [cell_lit w tb 1 _ _ _ ht]; rfl
  obtain ⟨es, hW, hlen, _, _⟩ := hM.find
  clear ht h hJ hM
  rw [← hlen]
  clear hlen
  go_enter Tryz.func71, Tryz.ntmps71
  go_wp2_with ((with_reducible show wpList _ _ _ (⟨_, .call ⟨.builtin .len, _, _⟩, _, _, _, _⟩ :: _) _ _); refine wpl_len mapTab rfl rfl hW rfl ?_)
  go_ret
  exact ⟨rfl, rfl⟩
theorem table_len_nil (w : World) : Calls Tryz.prog 71 #[.pointer none] w fun e w' => e = .returned (.int .i64 0) ∧ w = w' := by
  go_enter Tryz.func71, Tryz.ntmps71
  go_wp2
  go_ret
  exact ⟨rfl, rfl⟩

/-- A value comes back in memory of the call's own, and whether there is one. -/
def GetPost (w : World) (v : Option (List UInt8)) (e : Ending) (w' : World) : Prop := ∃ x, e = .returned (.tuple #[x, .bool v.isSome]) ∧ OwnBy w' w.heap.size x (v.getD []) ∧ Upd [] w w'
theorem table_get (w : World) (d tb : Nat) (S : List Nat) (T : TSt) (h : TAt w d tb S T) (key : List UInt8) (hl : ((aget key T.m).getD []).length ≤ 1073741824) :
    Calls Tryz.prog 69 #[.pointer (some ⟨tb, 0, none⟩), encS key] w (GetPost w (aget key T.m)) := by
  obtain ⟨jb, mb, S0, rfl, _, hJ, hM, ht⟩ := h.ex
  have c : w.cell? ⟨tb, 1, none⟩ = some (.map (some mb)) := by rw [cell_lit w tb 1 _ _ _ ht]; rfl
  obtain ⟨es, hW, _, hsome, hby⟩ := hM.find
  have hs := hsome key
  have hb := hby key
  have hc := slices_clone w _ _ hb hl
  clear ht h hJ hM hsome hby hl
  generalize hv : (aget key es).getD (.slice none 0 0) = v at *
  generalize hq : (aget key T.m).isSome = q at *
  have HQ := Lib.hid hq; clear hq
  go_enter Tryz.func69, Tryz.ntmps69
  go_wp2_with (first
    | ((with_reducible show wpList _ _ _ (⟨_, .lookup _ _ _ _, _, _, _, _⟩ :: _) _ _); refine wpl_lookup_ok mapTab rfl rfl hW rfl key rfl _ hv q hs ?_)
    | (go_at_call 107; refine hc.mono ?_; rintro e w1 ⟨v1, rfl, hv1, hU1⟩))
  go_ret2
  exact ⟨v1, by rw [HQ.out]; rfl, hv1, hU1⟩
theorem table_get_nil (w : World) (key : List UInt8) : Calls Tryz.prog 69 #[.pointer none, encS key] w fun e w' => e = .returned (.tuple #[.slice none 0 0, .bool false]) ∧ w = w' := by
  go_enter Tryz.func69, Tryz.ntmps69
  go_wp2
  go_ret2
  exact ⟨rfl, rfl⟩

def TdoRel (w : World) (mb : Nat) (m : List (List UInt8 × List UInt8)) (l : List TChg) (x : Value) (wr : World) : Prop := ∃ i : Nat, x = .int .i64 i ∧ i ≤ l.length ∧ Upd [mb] w wr ∧ MapB wr mb (tdo m (l.take i))
set_option maxRecDepth 100000 in
set_option maxHeartbeats 1000000 in
theorem table_do (w : World) (tb jb mb : Nat) (m : List (List UInt8 × List UInt8)) (q : Value) (hM : MapB w mb m) (ht : w.heap[tb]? = some (.cells #[.pointer (some ⟨jb, 0, none⟩), .map (some mb), q] 146 (0, 0))) (lv : Value) (l : List TChg) (hc : Chgs w lv l)
    (hl : l.length ≤ 1000000000) (hvl : ∀ c ∈ l, c.val.length ≤ 1073741824) :
    Calls Tryz.prog 76 #[.pointer (some ⟨tb, 0, none⟩), lv] w fun e w' => e = .returned (.tuple #[]) ∧ Upd [mb] w w' ∧ MapB w' mb (tdo m l) := by
  obtain ⟨cells, hR, hT⟩ := hc
  obtain ⟨ao, cap, rfl, _⟩ := hR.shape
  have c1 : w.cell? ⟨tb, 1, none⟩ = some (.map (some mb)) := by rw [cell_lit w tb 1 _ _ _ ht]; rfl
  have htm : tb ∉ [mb] := by simp; exact (hM.ne_cells ht).symm
  have off8 : Off w 5 [mb] := hM.off (Off.nil _ _)
  have offc : Off w 60 [mb] := hM.off (Off.nil _ _)
  have HL := Lib.hid hl; have HV := Lib.hid hvl; have HT := Lib.hid hT; have HR := Lib.hid hR
  clear hl hvl hT hR ht
  go_enter Tryz.func76, Tryz.ntmps76
  go_wp2_with fail
  go_loopw [8] (fun x wr => TdoRel w mb m l x wr) (fun x _ => l.length - (intOf x).toNat)
  case atStart => exact ⟨0, rfl, Nat.zero_le _, Upd.refl _ _, hM⟩
  case round =>
    obtain ⟨i, rfl, hi, hU, hMr⟩ := hrel
    have hll := HL.out
    by_cases hlt : i < l.length
    · have htt : decide ((i : Int) < (l.length : Int)) = true := by simp; omega
      obtain ⟨c, hci⟩ : ∃ c, l[i]? = some c := ⟨_, List.getElem?_eq_getElem hlt⟩
      obtain ⟨pv, g0, g1, g2, hpv⟩ := HT.out.get hci
      have hpr : By wr pv c.val := hpv.upd hU off8
      have hcv : c.val.length ≤ 1073741824 := HV.out c (List.mem_of_getElem? hci)
      obtain ⟨ap, cp, hsp⟩ := By.val hpr
      subst hsp
      have hRr : Rd wr 60 3 (.slice ao l.length cap) l.length cells := HR.out.upd hU offc
      have hwn : wr.heap.size ∉ [mb] := by have := hMr.lt; simp; omega
      have HMS := Lib.hid (tdo_take_succ m l i c hci)
      have hnd := hMr.nodup
      obtain ⟨es, m', hW, hVa, hPm⟩ := hMr
      cases hg : c.gone with
      | true =>
        rw [hg] at g1
        have hUa : Upd [] wr (wr.alloc (Obj.cells #[encS c.key, .bool true, Value.slice ap c.val.length cp] 60)) := Upd.alloc [] _ _
        have hba := heap_alloc_new wr (Obj.cells #[encS c.key, .bool true, Value.slice ap c.val.length cp] 60)
        have b0 : (wr.alloc (Obj.cells #[encS c.key, .bool true, Value.slice ap c.val.length cp] 60)).cell? ⟨wr.heap.size, 0, none⟩ = some (encS c.key) := by rw [cell_lit _ _ 0 _ _ _ hba]; rfl
        have d1 := hUa.cell (hU.cell c1 htm) (by simp)
        have hUd : Upd [] wr (wr.alloc (Obj.cells #[encS c.key, .bool true, Value.slice ap c.val.length cp] 60)).drew := hUa.trans0 (Upd.drew [] _)
        have hW1 := hW.upd hUd (by simp)
        have hV1 := hVa.upd hUd (Off.nil _ _)
        obtain ⟨w2, hr2, hW2, hU2⟩ := run_delete_s (P := Tryz.prog) (ty := 0) (K := 9) mapTab hW1 c.key
        have HFIN := Lib.hid (show TdoRel w mb m l (.int .i64 ((i + 1 : Nat) : Int)) w2 from ⟨i + 1, rfl, hlt, hU.trans ((hUd.mono (T := [mb]) (by simp)).trans hU2 (fun j hj _ => hj)) (fun j hj _ => hj), by
          rw [HMS.out]
          have := MapB.del hV1 hPm hnd hW2 hU2 (hW1.off (Off.nil _ _))
          unfold tdo1; rw [hg]; exact this⟩)
        clear hg hW2 hV1 hVa hW hW1 hUd hpv hba hci hi
        go_wp2_with ((with_reducible show wpList _ _ _ (⟨_, .indexAddr _ _ _, _, _, _, _⟩ :: _) _ _); refine wpl_indexAddr elTChg rfl rfl hRr rfl rfl (by omega) (by omega) ?_; intro ad hcell hspot; (have k0 := hcell 0 (by omega)); (have k1 := hcell 1 (by omega)); (have k2 := hcell 2 (by omega)); rw [Int.toNat_natCast, g0] at k0; rw [Int.toNat_natCast, g1] at k1; rw [Int.toNat_natCast, g2] at k2; clear hcell; obtain ⟨gb, gof, gs⟩ := ad; cases hspot; simp only [Addr.add_lit, Nat.add_zero] at k0 k1 k2)
        go_region_held3 (fun W => W.cell? ⟨tb, 1, none⟩ = some (.map (some mb)) ∧ W.cell? ⟨wr.heap.size, 0, none⟩ = some (encS c.key))
          (first | go_keep | exact ⟨hU2.cell d1 htm, hU2.cell b0 hwn⟩)
          ((refine step_run rfl (run_delete_op hr2 rfl rfl rfl rfl) ?_))
        go_wp2_with fail
        go_roundw
        case rel => have h := HFIN.out; rw [show (((i + 1 : Nat) : Int)) = (i : Int) + 1 from by omega] at h; exact h
        case measure => simp [intOf]; omega
      | false =>
        rw [hg] at g1
        have hUa : Upd [] wr (wr.alloc (Obj.cells #[encS c.key, .bool false, Value.slice ap c.val.length cp] 60)) := Upd.alloc [] _ _
        have hba := heap_alloc_new wr (Obj.cells #[encS c.key, .bool false, Value.slice ap c.val.length cp] 60)
        have b0 : (wr.alloc (Obj.cells #[encS c.key, .bool false, Value.slice ap c.val.length cp] 60)).cell? ⟨wr.heap.size, 0, none⟩ = some (encS c.key) := by rw [cell_lit _ _ 0 _ _ _ hba]; rfl
        have b2 : (wr.alloc (Obj.cells #[encS c.key, .bool false, Value.slice ap c.val.length cp] 60)).cell? ⟨wr.heap.size, 2, none⟩ = some (Value.slice ap c.val.length cp) := by rw [cell_lit _ _ 2 _ _ _ hba]; rfl
        have d1 := hUa.cell (hU.cell c1 htm) (by simp)
        have hUd : Upd [] wr (wr.alloc (Obj.cells #[encS c.key, .bool false, Value.slice ap c.val.length cp] 60)).drew := hUa.trans0 (Upd.drew [] _)
        have hW1 := hW.upd hUd (by simp)
        have hV1 := hVa.upd hUd (Off.nil _ _)
        have hcl := slices_clone (wr.alloc (Obj.cells #[encS c.key, .bool false, Value.slice ap c.val.length cp] 60)).drew _ c.val (hpr.upd0 hUd) hcv
        have HFIN := Lib.hid (fun (v3 : Value) (w3 w4 : World) (hU3 : Upd [] (wr.alloc (Obj.cells #[encS c.key, .bool false, Value.slice ap c.val.length cp] 60)).drew w3) (hv3 : By w3 v3 c.val) (hW4 : MapW w4 mb (aput c.key v3 es)) (hU4 : Upd [mb] w3 w4) => show TdoRel w mb m l (.int .i64 ((i + 1 : Nat) : Int)) w4 from ⟨i + 1, rfl, hlt, hU.trans (((hUd.trans0 hU3).mono (T := [mb]) (by simp)).trans hU4 (fun j hj _ => hj)) (fun j hj _ => hj), by
          rw [HMS.out]
          have := MapB.put (hV1.upd hU3 (Off.nil _ _)) hPm hnd hv3 hW4 hU4 ((hW1.upd hU3 (by simp)).off (Off.nil _ _))
          unfold tdo1; rw [hg]; exact this⟩)
        have HW1 := Lib.hid hW1
        clear hg hV1 hVa hW hW1 hUd hpv hba hci hi hcv hll
        go_wp2_with ((with_reducible show wpList _ _ _ (⟨_, .indexAddr _ _ _, _, _, _, _⟩ :: _) _ _); refine wpl_indexAddr elTChg rfl rfl hRr rfl rfl (by omega) (by omega) ?_; intro ad hcell hspot; (have k0 := hcell 0 (by omega)); (have k1 := hcell 1 (by omega)); (have k2 := hcell 2 (by omega)); rw [Int.toNat_natCast, g0] at k0; rw [Int.toNat_natCast, g1] at k1; rw [Int.toNat_natCast, g2] at k2; clear hcell; obtain ⟨gb, gof, gs⟩ := ad; cases hspot; simp only [Addr.add_lit, Nat.add_zero] at k0 k1 k2)
        go_region_held3 (fun W => W.cell? ⟨tb, 1, none⟩ = some (.map (some mb)) ∧ W.cell? ⟨wr.heap.size, 0, none⟩ = some (encS c.key) ∧ W.cell? ⟨wr.heap.size, 2, none⟩ = some (Value.slice ap c.val.length cp))
          (first | go_keep | exact ⟨hU4.cell (hU3.cell d1 (by simp)) htm, hU4.cell (hU3.cell b0 (by simp)) hwn, hU4.cell (hU3.cell b2 (by simp)) hwn⟩ | exact ⟨hU3.cell d1 (by simp), hU3.cell b0 (by simp), hU3.cell b2 (by simp)⟩)
          ((go_at_call 107; refine hcl.mono ?_; rintro e w3 ⟨v3, rfl, hv3, hU3⟩; obtain ⟨w4, hr4, hW4, hU4⟩ := run_mapUpdate_s (P := Tryz.prog) mapTab (HW1.out.upd hU3 (by simp)) c.key v3))
        have hll := HL.out
        go_wp2_with fail
        go_roundw
        case rel => have h := HFIN.out v3 _ w4 hU3 hv3.by hW4 hU4; rw [show (((i + 1 : Nat) : Int)) = (i : Int) + 1 from by omega] at h; exact h
        case measure => simp [intOf]; omega
    · have htt : decide ((i : Int) < (l.length : Int)) = false := by simp; omega
      have hie : i = l.length := by omega
      go_wp2_with fail
      go_end0
      rw [hie, List.take_length] at hMr
      exact ⟨rfl, hU, hMr⟩
end Go.Proofs.YthfbfdkjgkkpcaaGreat

namespace Go.Proofs.YthfbfdkjgkkpcaaGreat
open Go Go.RowKit

/-- Does the key begin with head, behind after? -/
def okKey (head after k : List UInt8) : Bool := head.isPrefixOf k && decide (after < k)
def keysGo (head after : List UInt8) (most : Int) (out : List (List UInt8)) : List (List UInt8) → List (List UInt8)
  | [] => out
  | k :: r => if most ≤ out.length then out else if okKey head after k then keysGo head after most (out ++ [k]) r else keysGo head after most out r
theorem ext_take (k : List UInt8) (n : Nat) : ((⟨k.toArray⟩ : ByteArray).extract 0 n).toList = k.take n := by
  rw [ByteArray.toList_eq]
  simp [ByteArray.data_extract]
theorem gt_lex {k after : List UInt8} : ((!Op.bytesLess k after) = true ∧ (!k == after) = true) ↔ after < k := by
  rw [bytesLess_eq]
  simp only [Bool.not_eq_true', decide_eq_false_iff_not, beq_eq_false_iff_ne, ne_eq]
  constructor
  · rintro ⟨h1, h2⟩
    rcases Decidable.em (after < k) with h | h
    · exact h
    · exact absurd (List.le_antisymm (List.not_lt.1 h) (List.not_lt.1 h1)) h2
  · intro h
    exact ⟨fun h1 => List.lt_irrefl _ (List.lt_trans h h1), fun h1 => by subst h1; exact List.lt_irrefl _ h⟩
theorem prefix_take {head k : List UInt8} : head.isPrefixOf k = true ↔ head.length ≤ k.length ∧ k.take head.length = head := by
  rw [List.isPrefixOf_iff_prefix]
  constructor
  · rintro ⟨t, rfl⟩
    simp
  · rintro ⟨_, h⟩
    exact ⟨k.drop head.length, by have := List.take_append_drop head.length k; rw [h] at this; exact this⟩
theorem ok_yes {head after k : List UInt8} (h1 : head.length ≤ k.length) (h2 : ((⟨k.toArray⟩ : ByteArray).extract 0 head.length).toList = head) (h3 : (!Op.bytesLess k after) = true ∧ (!k == after) = true) : okKey head after k = true := by
  unfold okKey
  rw [Bool.and_eq_true, prefix_take, decide_eq_true_iff, ← gt_lex]
  exact ⟨⟨h1, by rw [← ext_take]; exact h2⟩, h3⟩
theorem ok_no {head after k : List UInt8} (h : ¬ (head.length ≤ k.length ∧ ((⟨k.toArray⟩ : ByteArray).extract 0 head.length).toList = head ∧ ((!Op.bytesLess k after) = true ∧ (!k == after) = true))) : okKey head after k = false := by
  cases hc : okKey head after k with
  | false => rfl
  | true =>
    unfold okKey at hc
    rw [Bool.and_eq_true, prefix_take, decide_eq_true_iff, ← gt_lex] at hc
    exact absurd ⟨hc.1.1, by rw [ext_take]; exact hc.1.2, hc.2⟩ h
theorem ok_no1 {head after k : List UInt8} (h : ¬ head.length ≤ k.length) : okKey head after k = false := ok_no (fun h' => h h'.1)
theorem ok_no2 {head after k : List UInt8} (h : ¬ ((⟨k.toArray⟩ : ByteArray).extract 0 head.length).toList = head) : okKey head after k = false := ok_no (fun h' => h h'.2.1)
theorem ok_no3 {head after k : List UInt8} (h : (!Op.bytesLess k after) = false ∨ (!k == after) = false) : okKey head after k = false := ok_no (fun h' => by
  rcases h with h | h
  · rw [h] at h'; exact absurd h'.2.2.1 (by simp)
  · rw [h] at h'; exact absurd h'.2.2.2 (by simp))
theorem elStr : Elem Tryz.prog 142 9 1 16 := ⟨by kernel_rfl, by omega, by
  obtain ⟨i, h1, h2, h3, h4⟩ := info_parts (P := Tryz.prog) (e := 9) (z := .string ⟨#[]⟩) (size := 1) (bytes := 16) (by kernel_rfl)
  exact ⟨i, _, h1, h2, h3, h4, rfl⟩⟩
def KeysPost (w : World) (r : List (List UInt8)) (e : Ending) (w' : World) : Prop := ∃ v, e = .returned v ∧ w'.ownsRow w.heap.size 9 1 v r.length (r.map encS) ∧ Upd [] w w'
def KeysRel (w : World) (ks : List (List UInt8)) (head after : List UInt8) (most : Int) (x out : Value) (wr : World) : Prop :=
  ∃ (i : Nat) (o : List (List UInt8)), x = .int .i64 i ∧ i ≤ ks.length ∧ o.length ≤ i ∧ Upd [] w wr ∧ wr.ownsRow w.heap.size 9 1 out o.length (o.map encS) ∧ keysGo head after most [] ks = keysGo head after most o (ks.drop i)

set_option maxRecDepth 100000 in
set_option maxHeartbeats 1000000 in
theorem table_keys (w : World) (d tb : Nat) (S : List Nat) (T : TSt) (h : TAt w d tb S T) (head after : List UInt8) (most : Int) (hk : ∀ p ∈ T.m, p.1.length ≤ maxLen) (hn : T.m.length ≤ 1000000000) (hh : head.length ≤ maxLen) (hm : most ≤ 9223372036854775807) :
    Calls Tryz.prog 70 #[.pointer (some ⟨tb, 0, none⟩), encS head, encS after, .int .i64 most] w (KeysPost w (keysGo head after most [] (sortK T.m))) := by
  obtain ⟨jb, mb, S0, hS, hmb, hJ, hM, ht⟩ := h.ex
  have c1 : w.cell? ⟨tb, 1, none⟩ = some (.map (some mb)) := by rw [cell_lit w tb 1 _ _ _ ht]; rfl
  have hK := maps_keys w mb
  have hSo := sorted_keys w mb T.m hM hk hn
  have hlen : (sortK T.m).length = T.m.length := by unfold sortK; simp
  generalize sortK T.m = ks at *
  rw [← hlen] at hSo hn
  have HN := Lib.hid hn; have HH := Lib.hid hh; have HMO := Lib.hid hm
  clear hK hJ hM ht h hk hn hh hm hlen hS
  have hK := maps_keys w mb
  go_enter Tryz.func70, Tryz.ntmps70
  go_wp2_with (first
    | (go_at_call 86; refine hK.mono ?_; rintro e w1 ⟨rfl, rfl⟩)
    | (go_at_call 85; refine hSo.mono ?_; rintro e w1 ⟨v1, rfl, hv1, hU1⟩; obtain ⟨ao1, cap1, hs1, _⟩ := (Rd.of_own hv1).shape; subst hs1; (have hU2 : Upd [] w w1 := (Upd.alloc [] _ _).trans0 hU1)))
  go_loopw [21, 9] (fun x v wr => KeysRel w1 ks head after most x v wr) (fun x _ _ => ks.length - (intOf x).toNat)
  case atStart => exact ⟨0, [], rfl, Nat.zero_le _, Nat.zero_le _, Upd.refl _ _, World.ownsRow_nil _ _ _ _, rfl⟩
  case round =>
    obtain ⟨i, o, rfl, hi, ho, hU, hown, hkg⟩ := hrel
    have hll := HN.out
    by_cases hlt : i < ks.length
    · have htt : decide ((i : Int) < (ks.length : Int)) = true := by simp; omega
      obtain ⟨k, hki⟩ : ∃ k, ks[i]? = some k := ⟨_, List.getElem?_eq_getElem hlt⟩
      have hR : Rd wr 9 1 (.slice ao1 ks.length cap1) ks.length (ks.map encS) := (Rd.of_own hv1).upd0 hU
      have hku : (ks.map encS)[(i : Int).toNat]? = some (encS k) := by simp [hki]
      obtain ⟨ao9, cap9, hs9, _⟩ := (Rd.of_own hown).shape
      subst hs9
      have hstep : keysGo head after most o (ks.drop i) = if most ≤ o.length then o else if okKey head after k then keysGo head after most (o ++ [k]) (ks.drop (i + 1)) else keysGo head after most o (ks.drop (i + 1)) := by
        rw [List.drop_eq_getElem_cons hlt, (List.getElem?_eq_some_iff.1 hki).2]
        rfl
      rw [hstep] at hkg
      have HKG := Lib.hid hkg; have HO := Lib.hid hown
      clear hkg hown hstep hki
      by_cases hmo : most ≤ o.length
      · have hmt : decide (most ≤ (o.length : Int)) = true := by simpa using hmo
        have HF := Lib.hid (show KeysPost w (keysGo head after most [] ks) (.returned (.slice ao9 o.length cap9)) wr from by
          rw [HKG.out, if_pos hmo]
          exact ⟨_, rfl, Own.mono HO.out hU2.size, hU2.trans0 hU⟩)
        clear hmo
        go_wp2_with ((with_reducible show wpList _ _ _ (⟨_, .indexAddr _ _ _, _, _, _, _⟩ :: _) _ _); refine wpl_indexAddr1 elStr rfl rfl hR rfl rfl (by omega) (by omega) _ hku ?_; intro ad hcell)
        go_ret
        exact HF.out
      · have hmt : decide (most ≤ (o.length : Int)) = false := by simpa using hmo
        have HMO' := Lib.hid hmo
        clear hmo
        have HNO := Lib.hid (fun (hok : okKey head after k = false) => show KeysRel w1 ks head after most (.int .i64 ((i : Int) + 1)) (.slice ao9 o.length cap9) wr from ⟨i + 1, o, by simp, hlt, by omega, hU, HO.out, by rw [HKG.out, if_neg HMO'.out, hok]; rfl⟩)
        have HYES := Lib.hid (fun (hok : okKey head after k = true) (v' : Value) (w' : World) (ho' : w'.ownsRow w1.heap.size 9 1 v' (o.length + 1) (o.map encS ++ [encS k])) (hU' : Upd [] w1 w') => show KeysRel w1 ks head after most (.int .i64 ((i : Int) + 1)) v' w' from ⟨i + 1, o ++ [k], by simp, hlt, by simp; omega, hU', by simpa using ho', by rw [HKG.out, if_neg HMO'.out, hok]; rfl⟩)
        have hol : o.length + 1 ≤ 1000000001 := by omega
        have HOL := Lib.hid hol
        clear hol
        go_wp2_with (first
          | ((with_reducible show wpList _ _ _ (⟨_, .indexAddr _ _ _, _, _, _, _⟩ :: _) _ _); refine wpl_indexAddr1 elStr rfl rfl hR rfl rfl (by omega) (by omega) _ hku ?_; intro ad hcell)
          | ((with_reducible show wpList _ _ _ (⟨_, .buildSlice _ _ _, _, _, _, _⟩ :: _) _ _); (have hok : okKey head after k = true := ok_yes (by assumption) (by assumption) (by assumption)); refine wpl_lit elStr rfl rfl rfl (cs := [encS k]) rfl rfl (by omega) ?_; intro v5 w5 hv5 hU5 _)
          | ((with_reducible show wpList _ _ _ (⟨_, .call ⟨.builtin .append, _, _⟩, _, _, _, _⟩ :: _) _ _); refine wpl_append elStr rfl rfl (Own.upd0 HO.out hU5) rfl (Rd.of_own hv5) rfl (by intro u hu; simp at hu; subst hu; rfl) (by have := HOL.out; unfold maxLen; omega) (by have := HOL.out; omega) (hU.trans0 hU5).size ?_; intro v6 w6 hv6 hg6 _))
        all_goals try (first | exact ⟨HNO.out (ok_no1 (by assumption)), by simp [intOf]; omega⟩ | exact ⟨HNO.out (ok_no2 (by assumption)), by simp [intOf]; omega⟩ | exact ⟨HNO.out (ok_no3 (by assumption)), by simp [intOf]; omega⟩)
        exact ⟨HYES.out hok v6 w6 hv6 ((hU.trans0 hU5).own (Own.upd0 HO.out hU5) hg6), by simp [intOf]; omega⟩
    · have htt : decide ((i : Int) < (ks.length : Int)) = false := by simp; omega
      have hie : i = ks.length := by omega
      have HF := Lib.hid (show KeysPost w (keysGo head after most [] ks) (.returned u9) wr from by
        rw [hkg, hie, List.drop_length]
        exact ⟨_, rfl, Own.mono hown hU2.size, hU2.trans0 hU⟩)
      clear hkg hown
      go_wp2_with fail
      go_ret
      exact HF.out
theorem table_keys_nil (w : World) (head after : List UInt8) (most : Int) : Calls Tryz.prog 70 #[.pointer none, encS head, encS after, .int .i64 most] w fun e w' => e = .returned (.slice none 0 0) ∧ w = w' := by
  go_enter Tryz.func70, Tryz.ntmps70
  go_wp2
  go_ret
  exact ⟨rfl, rfl⟩
end Go.Proofs.YthfbfdkjgkkpcaaGreat

namespace Go.Proofs.YthfbfdkjgkkpcaaGreat

/-- In order by key, each key once. -/
def Srt (l : List (List UInt8 × List UInt8)) : Prop := l.Pairwise (fun p q => p.1 < q.1)
/-- How many pairs stand before a key. -/
def pfind (k : List UInt8) : List (List UInt8 × List UInt8) → Nat
  | [] => 0
  | p :: r => if p.1 < k then pfind k r + 1 else 0
def pdo1 (l : List (List UInt8 × List UInt8)) (c : TChg) : List (List UInt8 × List UInt8) :=
  l.take (pfind c.key l) ++ (if c.gone then [] else [(c.key, c.val)]) ++ fdel c.key (l.drop (pfind c.key l))
theorem pfind_le (k : List UInt8) : ∀ l : List (List UInt8 × List UInt8), pfind k l ≤ l.length
  | [] => Nat.le_refl _
  | p :: r => by
    unfold pfind
    split
    · simpa using pfind_le k r
    · simp
theorem pfind_lt (k : List UInt8) : ∀ (l : List (List UInt8 × List UInt8)) (i : Nat) (p : List UInt8 × List UInt8), i < pfind k l → l[i]? = some p → p.1 < k
  | [], i, p, h, _ => by simp [pfind] at h
  | q :: r, i, p, h, hi => by
    unfold pfind at h
    split at h
    · rename_i hq
      cases i with
      | zero => simp at hi; subst hi; exact hq
      | succ i => exact pfind_lt k r i p (by omega) (by simpa using hi)
    · omega
theorem pfind_ge (k : List UInt8) : ∀ (l : List (List UInt8 × List UInt8)) (p : List UInt8 × List UInt8), l[pfind k l]? = some p → ¬ p.1 < k
  | [], p, h => by simp [pfind] at h
  | q :: r, p, h => by
    by_cases hq : q.1 < k
    · simp only [pfind, if_pos hq, List.getElem?_cons_succ] at h
      exact pfind_ge k r p h
    · simp only [pfind, if_neg hq, List.getElem?_cons_zero, Option.some.injEq] at h
      subst h; exact hq
theorem pfind_next {k : List UInt8} {l : List (List UInt8 × List UInt8)} {i : Nat} {p : List UInt8 × List UInt8} (h : i ≤ pfind k l) (hp : l[i]? = some p) (hlt : p.1 < k) : i + 1 ≤ pfind k l := by
  rcases Nat.lt_or_ge i (pfind k l) with h1 | h1
  · exact h1
  · obtain rfl : i = pfind k l := by omega
    exact absurd hlt (pfind_ge k l p hp)
theorem pfind_stop {k : List UInt8} {l : List (List UInt8 × List UInt8)} {i : Nat} {p : List UInt8 × List UInt8} (h : i ≤ pfind k l) (hp : l[i]? = some p) (hn : ¬ p.1 < k) : i = pfind k l := by
  rcases Nat.lt_or_ge i (pfind k l) with h1 | h1
  · exact absurd (pfind_lt k l i p h1 hp) hn
  · omega
theorem fins_head (q : List UInt8 × List UInt8) (l : List (List UInt8 × List UInt8)) (h : ∀ p ∈ l, q.1 < p.1) : fins q l = q :: l := by
  cases l with
  | nil => rfl
  | cons p r => unfold fins; rw [if_pos (h p (by simp))]
theorem fdel_mem {k : List UInt8} {l : List (List UInt8 × List UInt8)} {p : List UInt8 × List UInt8} (h : p ∈ fdel k l) : p ∈ l ∧ p.1 ≠ k := by
  rw [fdel_eq_filter, List.mem_filter] at h
  exact ⟨h.1, by simpa using h.2⟩
theorem Srt.fdel {l : List (List UInt8 × List UInt8)} (h : Srt l) (k : List UInt8) : Srt (fdel k l) := by
  unfold Srt; rw [fdel_eq_filter]; exact List.Pairwise.filter _ h
theorem Srt.fins {l : List (List UInt8 × List UInt8)} (h : Srt l) (q : List UInt8 × List UInt8) (hq : ∀ p ∈ l, p.1 ≠ q.1) : Srt (fins q l) := by
  induction l with
  | nil => simp [Go.Proofs.YthfbfdkjgkkpcaaGreat.fins, Srt]
  | cons p r ih =>
    unfold Srt at h
    rw [List.pairwise_cons] at h
    unfold Go.Proofs.YthfbfdkjgkkpcaaGreat.fins
    split
    · rename_i hlt
      refine List.pairwise_cons.2 ⟨?_, List.pairwise_cons.2 h⟩
      intro x hx
      rcases List.mem_cons.1 hx with rfl | hx
      · exact hlt
      · exact List.lt_trans hlt (h.1 x hx)
    · rename_i hlt
      refine List.pairwise_cons.2 ⟨?_, ih h.2 (fun x hx => hq x (by simp [hx]))⟩
      intro x hx
      rcases List.mem_cons.1 ((fins_perm q r).mem_iff.1 hx) with rfl | hx
      · rcases Decidable.em (p.1 < x.1) with h1 | h1
        · exact h1
        · exact absurd (List.le_antisymm (List.not_lt.1 hlt) (List.not_lt.1 h1)) (hq p (by simp))
      · exact h.1 x hx
theorem Srt.tdo1 {l : List (List UInt8 × List UInt8)} (h : Srt l) (c : TChg) : Srt (tdo1 l c) := by
  unfold Go.Proofs.YthfbfdkjgkkpcaaGreat.tdo1
  split
  · exact h.fdel _
  · exact (h.fdel _).fins _ (fun p hp => (fdel_mem hp).2)
theorem Srt.tdo {l : List (List UInt8 × List UInt8)} (h : Srt l) (cs : List TChg) : Srt (tdo l cs) := by
  unfold Go.Proofs.YthfbfdkjgkkpcaaGreat.tdo
  induction cs generalizing l with
  | nil => exact h
  | cons c r ih => exact ih (h.tdo1 c)
theorem Srt.nil : Srt [] := List.Pairwise.nil
theorem Srt.nodup {l : List (List UInt8 × List UInt8)} (h : Srt l) : (l.map (·.1)).Nodup := by
  rw [List.nodup_iff_pairwise_ne, List.pairwise_map]
  unfold Srt at h
  refine List.Pairwise.imp ?_ h
  intro p q hlt he
  rw [he] at hlt
  exact List.lt_irrefl _ hlt
theorem pdo1_eq {l : List (List UInt8 × List UInt8)} (h : Srt l) (c : TChg) : pdo1 l c = tdo1 l c := by
  induction l with
  | nil => unfold pdo1 tdo1; cases c.gone <;> rfl
  | cons p r ih =>
    unfold Srt at h
    rw [List.pairwise_cons] at h
    have ih := ih h.2
    unfold pdo1 tdo1 at ih ⊢
    by_cases hlt : p.1 < c.key
    · have hne : p.1 ≠ c.key := fun e => List.lt_irrefl _ (e ▸ hlt)
      simp only [pfind, if_pos hlt, List.take_succ_cons, List.drop_succ_cons, List.cons_append, ih]
      split
      · simp only [fdel, if_neg hne]
      · have hn : ¬ c.key < p.1 := fun h2 => List.lt_irrefl _ (List.lt_trans hlt h2)
        simp only [fput, fdel, if_neg hne]
        rw [fins, if_neg hn]
    · simp only [pfind, if_neg hlt, List.take_zero, List.nil_append, List.drop_zero]
      cases c.gone
      · simp only [Bool.false_eq_true, if_false, List.singleton_append]
        unfold fput
        rw [fins_head]
        intro q hq
        obtain ⟨hq1, hq2⟩ := fdel_mem hq
        have hle : c.key ≤ q.1 := by
          rcases List.mem_cons.1 hq1 with rfl | hm
          · exact List.not_lt.1 hlt
          · exact List.not_lt.1 (fun h2 => hlt (List.lt_trans (h.1 q hm) h2))
        rcases Decidable.em (c.key < q.1) with h1 | h1
        · exact h1
        · exact absurd (List.le_antisymm (List.not_lt.1 h1) hle) hq2
      · simp
/-- A key and its value are where Find says. -/
theorem pfind_aget {l : List (List UInt8 × List UInt8)} (h : Srt l) (k : List UInt8) : aget k l = (match l[pfind k l]? with | some p => if p.1 = k then some p.2 else none | none => none) := by
  induction l with
  | nil => rfl
  | cons p r ih =>
    unfold Srt at h
    rw [List.pairwise_cons] at h
    have ih := ih h.2
    by_cases hlt : p.1 < k
    · have hne : p.1 ≠ k := fun e => List.lt_irrefl _ (e ▸ hlt)
      simp only [pfind, if_pos hlt, List.getElem?_cons_succ, aget, if_neg hne, ih]
    · simp only [pfind, if_neg hlt, List.getElem?_cons_zero, aget]
      by_cases he : p.1 = k
      · simp [he]
      · simp only [if_neg he]
        rw [aget_none]
        intro hm
        obtain ⟨q, hq, rfl⟩ := List.mem_map.1 hm
        exact hlt (h.1 q hq)
theorem sortK_srt {l : List (List UInt8 × List UInt8)} (h : Srt l) : sortK l = l.map (·.1) := by
  unfold sortK
  refine List.mergeSort_of_pairwise ?_
  rw [List.pairwise_map]
  unfold Srt at h
  refine List.Pairwise.imp ?_ h
  intro p q hlt
  unfold leK
  rw [decide_eq_true_iff]
  exact List.not_lt.1 (fun h2 => List.lt_irrefl _ (List.lt_trans hlt h2))
/-- All keys. -/
theorem keysGo_all : ∀ (ks o : List (List UInt8)) (n : Nat), (∀ k ∈ ks, k ≠ []) → o.length + ks.length ≤ n → keysGo [] [] n o ks = o ++ ks
  | [], o, n, _, _ => by simp [keysGo]
  | k :: r, o, n, h, hn => by
    simp only [List.length_cons] at hn
    have hk : k ≠ [] := h k (by simp)
    have hok : okKey [] [] k = true := by
      unfold okKey
      cases k with
      | nil => exact absurd rfl hk
      | cons a b => simp [List.isPrefixOf]
    rw [keysGo, if_neg (by omega), hok, if_pos rfl, keysGo_all r (o ++ [k]) n (fun x hx => h x (by simp [hx])) (by simp; omega)]
    simp
/-- Keys that are not empty stay so. -/
theorem tdo_keys {l : List (List UInt8 × List UInt8)} {cs : List TChg} (Q : List UInt8 × List UInt8 → Prop) (h : ∀ p ∈ l, Q p) (hc : ∀ c ∈ cs, Q (c.key, c.val)) : ∀ p ∈ tdo l cs, Q p := by
  unfold tdo
  induction cs generalizing l with
  | nil => exact h
  | cons c r ih =>
    refine ih ?_ (fun c' hc' => hc c' (by simp [hc']))
    intro p hp
    unfold tdo1 at hp
    split at hp
    · exact h p (fdel_mem hp).1
    · rcases List.mem_cons.1 ((fput_perm _ _ _).mem_iff.1 hp) with rfl | hm
      · exact hc c (by simp)
      · exact h p (fdel_mem hm).1
theorem tdo_length (cs : List TChg) : ∀ l : List (List UInt8 × List UInt8), (tdo l cs).length ≤ l.length + cs.length := by
  unfold tdo
  induction cs with
  | nil => intro l; simp
  | cons c r ih =>
    intro l
    have := ih (tdo1 l c)
    have h1 : (tdo1 l c).length ≤ l.length + 1 := by
      have hf : (fdel c.key l).length ≤ l.length := by rw [fdel_eq_filter]; exact List.length_filter_le _ _
      unfold tdo1
      split
      · omega
      · rw [(fput_perm _ _ _).length_eq]; simpa using hf
    simp only [List.foldl_cons, List.length_cons]
    omega
/-- What a record refuses: no change of a record that is made has an empty key. -/
theorem encGo_keys : ∀ (l : List TChg) (pre : List UInt8), (encGo pre l).2 = 0 → ∀ c ∈ l, c.key ≠ []
  | [], _, _, c, hc => by cases hc
  | a :: r, pre, h, c, hc => by
    unfold encGo at h
    split at h
    · simp at h
    · rename_i hb
      split at h
      · simp at h
      · rcases List.mem_cons.1 hc with rfl | hc
        · intro he
          apply hb
          unfold badChg
          simp [he]
        · exact encGo_keys r _ h c hc
theorem encB_keys {l : List TChg} (h : (encB l).2 = 0) : ∀ c ∈ l, c.key ≠ [] := by
  unfold encB at h
  split at h
  · simp at h
  · exact encGo_keys l _ h
/-- A record of small changes is short. -/
theorem encGo_small : ∀ (l : List TChg) (pre : List UInt8), (∀ c ∈ l, c.key.length ≤ 400 ∧ c.val.length ≤ 500) → (encGo pre l).1.length ≤ pre.length + 930 * l.length
  | [], pre, _ => by simp [encGo]
  | a :: r, pre, h => by
    have ha := h a (by simp)
    have hs : (encStep a).length ≤ 930 := by
      have h1 := countB_len10 (n := a.key.length) ⟨by omega⟩
      have h2 := countB_len10 (n := a.val.length) ⟨by omega⟩
      unfold encStep textB
      split <;> simp <;> omega
    unfold encGo
    split
    · simp
    split
    · simp
    · have := encGo_small r (pre ++ encStep a) (fun c hc => h c (by simp [hc]))
      simp only [List.length_append, List.length_cons] at this ⊢
      omega
theorem encB_small {l : List TChg} (h0 : l.length ≤ 40) (h : ∀ c ∈ l, c.key.length ≤ 400 ∧ c.val.length ≤ 500) : (encB l).1.length ≤ 37210 := by
  have h1 := countB_len10 (n := l.length) ⟨by omega⟩
  unfold encB
  split
  · simp
  · have := encGo_small l (countB l.length) h
    omega
end Go.Proofs.YthfbfdkjgkkpcaaGreat

namespace Go.Proofs.YthfbfdkjgkkpcaaGreat
open Go Go.RowKit

def convV (W : World) (l : List UInt8) : Value := .slice (some ⟨W.heap.size, 0, none⟩) l.length (grownCap W l.length 0 5)
def convW (W : World) (l : List UInt8) : World :=
  W.drew.alloc (.cells (bytesRow ⟨l.toArray⟩ (grownCap W l.length 0 5)) 5 ((bytesRow ⟨l.toArray⟩ (grownCap W l.length 0 5)).size, (bytesRow ⟨l.toArray⟩ (grownCap W l.length 0 5)).size + 1))
theorem conv_run (l : List UInt8) (W : World) : (convert 9 36 (encS l)).run Tryz.prog W = .ok (convV W l) (convW W l) := by
  have := run_bytes_of_string (P := Tryz.prog) W 9 36 5 ⟨l.toArray⟩ (by kernel_rfl) (by kernel_rfl) (by kernel_rfl)
  exact this
theorem conv_upd (W : World) (l : List UInt8) : Upd [] W (convW W l) := (Upd.drew [] _).trans0 (Upd.alloc [] _ _)
theorem conv_by (W : World) (l : List UInt8) (hl : l.length ≤ 1073741824) : By (convW W l) (convV W l) l := by
  have hcap : l.length ≤ grownCap W l.length 0 5 := grownCap_ge W _ _ _
  have hmax : grownCap W l.length 0 5 ≤ maxLen := grownCap_le_maxLen W _ _ _ (by unfold maxLen; omega)
  unfold convV convW
  generalize grownCap W l.length 0 5 = cap at *
  have hrow : (bytesRow ⟨l.toArray⟩ cap) = (l.map enc).toArray ++ Array.replicate (cap - l.length) (.int .u8 0) := by
    unfold bytesRow
    congr 1
    simp
  refine ⟨by simp, Nat.le_trans hcap hmax, .inr ⟨W.heap.size, 0, cap, bytesRow ⟨l.toArray⟩ cap, _, rfl, hcap, hmax, heap_alloc_new W.drew _, ?_, ?_⟩⟩
  · rw [hrow]; simp
  · rw [hrow]; simp
end Go.Proofs.YthfbfdkjgkkpcaaGreat

namespace Go.Proofs.YthfbfdkjgkkpcaaGreat
open Go Go.RowKit

theorem app_by {P : Program} {T ty : Nat} {w0 w : World} {v y : Value} {l l2 : List UInt8} (hE : Elem P T 5 1 1) (hown : OwnBy w w0.heap.size v l) (hR : By w y l2) (hU : Upd [] w0 w) (hb : l.length + l2.length ≤ 1073741824) :
    ∃ v' w', (Builtin.append_ #[T, T] ty #[v, y]).run P w = .ok v' w' ∧ OwnBy w' w0.heap.size v' (l ++ l2) ∧ Upd v.ownBlock.toList w w' ∧ Upd [] w0 w' ∧ (v'.ownBlock = v.ownBlock ∨ v'.ownBlock = some w.heap.size) := by
  obtain ⟨v', w', hr, h1, h2, h3⟩ := run_append_rd (ty := ty) hE hown hR (enc_oneCell l2) (by unfold maxLen; omega) (by omega) hU.size
  rw [← List.map_append, ← List.length_append] at h1
  have hU' : Upd v.ownBlock.toList w w' := Upd.grown h2 (fun k hk => by rw [hk]; simp)
  exact ⟨v', w', hr, h1, hU', hU.own hown hU', h3⟩
theorem ex_conv {a : Act} {x : Operand} (k : List UInt8) (W : World) (hx : a.eval x = encS k) {dst : Option Tmp} : ∀ ty pos after, (execOp a.eval (opr dst (.convert 9 36 x) ty pos after)).run Tryz.prog W = .ok (.value (convV W k)) (convW W k) := fun ty pos after => by
  simp [execOp, hx, conv_run k W, Result.andThen]
theorem ne_own {wa W : World} {k : Nat} {v2 u4 : Value} (h : v2.ownBlock = u4.ownBlock ∨ v2.ownBlock = some W.heap.size) (h4 : k ∉ u4.ownBlock.toList) (hlt : k < wa.heap.size) (hU : Upd [] wa W) : k ∉ v2.ownBlock.toList := by
  have hs := hU.size
  rcases h with h | h
  · rw [h]; exact h4
  · rw [h]; simp; omega
theorem away_conv {wr W : World} {k : List UInt8} {v : Value} (h : ∀ g, v.ownBlock = some g → g < wr.heap.size) (hU : Upd [] wr W) : Away (convV W k) v.ownBlock.toList := by
  intro g hg hm
  simp only [convV, Value.ownBlock, Option.some.injEq] at hg
  have h1 := h g (by simpa using hm)
  have h2 := hU.size
  omega

def EncPost (w : World) (l : List TChg) (e : Ending) (w' : World) : Prop := ∃ v, e = .returned (.tuple #[v, .int .i64 (encB l).2]) ∧ OwnBy w' w.heap.size v (encB l).1 ∧ Upd [] w w'
def EncRel (w : World) (l : List TChg) (x out : Value) (wr : World) : Prop := ∃ (i : Nat) (pre : List UInt8), x = .int .i64 i ∧ i ≤ l.length ∧ Upd [] w wr ∧ OwnBy wr w.heap.size out pre ∧ pre.length ≤ 1048568 ∧ encB l = encGo pre (l.drop i)

theorem textB_len (p : List UInt8) (h : p.length ≤ 1073741000) : (textB p).length ≤ p.length + 10 := by
  unfold textB
  have := countB_len10 (n := p.length) ⟨by omega⟩
  simp; omega
theorem encGo_cons (pre : List UInt8) (l : List TChg) (i : Nat) (c : TChg) (h : l[i]? = some c) : encGo pre (l.drop i) = if badChg c then ([], 1) else if 1048568 < (pre ++ encStep c).length then ([], 8) else encGo (pre ++ encStep c) (l.drop (i + 1)) := by
  have hi : i < l.length := (List.getElem?_eq_some_iff.1 h).1
  have hc : l[i] = c := (List.getElem?_eq_some_iff.1 h).2
  rw [List.drop_eq_getElem_cons hi, hc]
  rfl

theorem enc_big {w w6 : World} {l : List TChg} {pre q : List UInt8} {i : Nat} {c : TChg} (hE : encB l = if badChg c then ([], 1) else if 1048568 < (pre ++ encStep c).length then ([], 8) else encGo (pre ++ encStep c) (l.drop (i + 1))) (hb : badChg c = false)
    (hq : q = pre ++ encStep c) (hbig : 1048568 < q.length) (hU : Upd [] w w6) : EncPost w l (.returned (.tuple #[.slice none 0 0, .int .i64 8])) w6 := by
  rw [hb, ← hq, if_pos hbig] at hE
  unfold EncPost
  rw [hE]
  exact ⟨_, rfl, World.ownsRow_nil _ _ _ _, hU⟩
theorem enc_ok {w w6 : World} {l : List TChg} {pre q : List UInt8} {i : Nat} {c : TChg} {v : Value} (hE : encB l = if badChg c then ([], 1) else if 1048568 < (pre ++ encStep c).length then ([], 8) else encGo (pre ++ encStep c) (l.drop (i + 1))) (hb : badChg c = false)
    (hq : q = pre ++ encStep c) (hbig : ¬ 1048568 < q.length) (hU : Upd [] w w6) (hi : i < l.length) (hown : OwnBy w6 w.heap.size v q) : EncRel w l (.int .i64 ((i : Int) + 1)) v w6 := by
  rw [hb, ← hq, if_neg hbig] at hE
  exact ⟨i + 1, q, by simp, hi, hU, hown, by omega, hE⟩

set_option maxRecDepth 100000 in
set_option maxHeartbeats 4000000 in
theorem table_encode (w : World) (lv : Value) (l : List TChg) (hc : Chgs w lv l) (hll : l.length ≤ 1000000000) :
    Calls Tryz.prog 82 #[lv] w (EncPost w l) := by
  obtain ⟨cells, hR, hT⟩ := hc
  obtain ⟨ao, cap, rfl, _⟩ := hR.shape
  have HT := Lib.hid hT; have HR := Lib.hid hR
  clear hT hR
  by_cases h256 : 256 < l.length
  · have h1 : decide ((256 : Int) < (l.length : Int)) = true := by simp; omega
    have HF := Lib.hid (show encB l = ([], 8) from by unfold encB; rw [if_pos h256])
    go_enter Tryz.func82, Tryz.ntmps82
    go_wp2_with fail
    go_ret2
    unfold EncPost
    rw [HF.out]
    exact ⟨_, rfl, World.ownsRow_nil _ _ _ _, Upd.refl _ _⟩
  have h1 : decide ((256 : Int) < (l.length : Int)) = false := by simp; omega
  have HF := Lib.hid (show encB l = encGo (countB l.length) l from by unfold encB; rw [if_neg h256])
  have hU64 : U64 l.length := ⟨by omega⟩
  have HC := Lib.hid (countB_len10 hU64)
  go_enter Tryz.func82, Tryz.ntmps82
  go_wp2_with (go_at_call 141; refine (octet_Count _ hU64 _).mono ?_; rintro e w1 ⟨v1, rfl, hv1, hU1⟩)
  go_loopw [16, 4] (fun x v wr => EncRel w l x v wr) (fun x _ _ => l.length - (intOf x).toNat)
  case atStart => exact ⟨0, _, rfl, Nat.zero_le _, hU1, hv1, by have := HC.out; omega, HF.out⟩
  case round =>
    obtain ⟨i, pre, rfl, hi, hU, hown, hpl, henc⟩ := hrel
    by_cases hlt : i < l.length
    · have htt : decide ((i : Int) < (l.length : Int)) = true := by simp; omega
      obtain ⟨c, hci⟩ : ∃ c, l[i]? = some c := ⟨_, List.getElem?_eq_getElem hlt⟩
      obtain ⟨pv, g0, g1, g2, hpv⟩ := HT.out.get hci
      have hpr : By wr pv c.val := hpv.upd0 hU
      have HPW := Lib.hid hpv
      obtain ⟨ap, cp, hsp⟩ := By.val hpr
      subst hsp
      have hRr : Rd wr 60 3 (.slice ao l.length cap) l.length cells := HR.out.upd0 hU
      have hE := encGo_cons pre l i c hci
      rw [← henc] at hE
      have HE := Lib.hid hE; have HPL := Lib.hid hpl; have HPR := Lib.hid hpr; have HO := Lib.hid hown
      have hbadp : badChg c = true → EncPost w l (.returned (.tuple #[.slice none 0 0, .int .i64 1])) (wr.alloc (Obj.cells #[encS c.key, .bool c.gone, Value.slice ap c.val.length cp] 60)) := by
        intro hb
        unfold EncPost
        rw [HE.out, if_pos hb]
        exact ⟨_, rfl, World.ownsRow_nil _ _ _ _, hU.trans0 (Upd.alloc [] _ _)⟩
      have HB := Lib.hid hbadp
      clear hpv hE hpl hpr hown henc hci hbadp hi
      cases hk : c.key.isEmpty with
      | true =>
        have HB' := Lib.hid (HB.out (by simp at hk; simp [badChg, hk]))
        go_wp2_with ((with_reducible show wpList _ _ _ (⟨_, .indexAddr _ _ _, _, _, _, _⟩ :: _) _ _); refine wpl_indexAddr elTChg rfl rfl hRr rfl rfl (by omega) (by omega) ?_; intro ad hcell hspot; (have k0 := hcell 0 (by omega)); (have k1 := hcell 1 (by omega)); (have k2 := hcell 2 (by omega)); rw [Int.toNat_natCast, g0] at k0; rw [Int.toNat_natCast, g1] at k1; rw [Int.toNat_natCast, g2] at k2; clear hcell; obtain ⟨gb, gof, gs⟩ := ad; cases hspot; simp only [Addr.add_lit, Nat.add_zero] at k0 k1 k2)
        go_ret2
        exact HB'.out
      | false =>
        have hk0 : c.key ≠ [] := by simpa using hk
        by_cases h320 : 320 < c.key.length
        · have h2 : decide ((320 : Int) < (c.key.length : Int)) = true := by simp; omega
          have HB' := Lib.hid (HB.out (by simp [badChg, h320]))
          clear h320 hk0
          go_wp2_with ((with_reducible show wpList _ _ _ (⟨_, .indexAddr _ _ _, _, _, _, _⟩ :: _) _ _); refine wpl_indexAddr elTChg rfl rfl hRr rfl rfl (by omega) (by omega) ?_; intro ad hcell hspot; (have k0 := hcell 0 (by omega)); (have k1 := hcell 1 (by omega)); (have k2 := hcell 2 (by omega)); rw [Int.toNat_natCast, g0] at k0; rw [Int.toNat_natCast, g1] at k1; rw [Int.toNat_natCast, g2] at k2; clear hcell; obtain ⟨gb, gof, gs⟩ := ad; cases hspot; simp only [Addr.add_lit, Nat.add_zero] at k0 k1 k2)
          go_ret2
          exact HB'.out
        · have h2 : decide ((320 : Int) < (c.key.length : Int)) = false := by simp; omega
          by_cases h262 : 262144 < c.val.length
          · have h3 : decide ((262144 : Int) < (c.val.length : Int)) = true := by simp; omega
            have HB' := Lib.hid (HB.out (by simp [badChg, h262]))
            clear h320 hk0 h262
            go_wp2_with ((with_reducible show wpList _ _ _ (⟨_, .indexAddr _ _ _, _, _, _, _⟩ :: _) _ _); refine wpl_indexAddr elTChg rfl rfl hRr rfl rfl (by omega) (by omega) ?_; intro ad hcell hspot; (have k0 := hcell 0 (by omega)); (have k1 := hcell 1 (by omega)); (have k2 := hcell 2 (by omega)); rw [Int.toNat_natCast, g0] at k0; rw [Int.toNat_natCast, g1] at k1; rw [Int.toNat_natCast, g2] at k2; clear hcell; obtain ⟨gb, gof, gs⟩ := ad; cases hspot; simp only [Addr.add_lit, Nat.add_zero] at k0 k1 k2)
            go_ret2
            exact HB'.out
          · have h3 : decide ((262144 : Int) < (c.val.length : Int)) = false := by simp; omega
            have hnb : badChg c = false := by simp [badChg, h262, h320, hk0]
            have hpl := HPL.out
            have hkl : (textB c.key).length ≤ 330 := by have := textB_len c.key (by omega); omega
            have hvl : (textB c.val).length ≤ 262154 := by have := textB_len c.val (by omega); omega
            have hby1 : By (wr.alloc (Obj.cells #[encS c.key, .bool c.gone, Value.slice ap c.val.length cp] 60)) (.slice ap c.val.length cp) c.val := HPR.out.upd0 (Upd.alloc [] _ _)
            have hUa : Upd [] w (wr.alloc (Obj.cells #[encS c.key, .bool c.gone, Value.slice ap c.val.length cp] 60)) := hU.trans0 (Upd.alloc [] _ _)
            have hoa : OwnBy (wr.alloc (Obj.cells #[encS c.key, .bool c.gone, Value.slice ap c.val.length cp] 60)) w.heap.size u4 pre := Own.upd0 HO.out (Upd.alloc [] _ _)
            have hba := heap_alloc_new wr (Obj.cells #[encS c.key, .bool c.gone, Value.slice ap c.val.length cp] 60)
            generalize hwa : wr.alloc (Obj.cells #[encS c.key, .bool c.gone, Value.slice ap c.val.length cp] 60) = wa at *
            have hUwa : Upd [] wr wa := by rw [← hwa]; exact Upd.alloc [] _ _
            have hlta : wr.heap.size < wa.heap.size := by rw [← hwa]; simp
            have hlt4 : ∀ g, u4.ownBlock = some g → g < wr.heap.size := fun g hg => (HO.out.lt g hg).2
            have hne4 : wr.heap.size ∉ u4.ownBlock.toList := by intro hm; have := hlt4 wr.heap.size (by simpa using hm); omega
            have HK30 := Lib.hid (show c.key.length ≤ 1073741000 from by omega); have HK31 := Lib.hid (show c.key.length ≤ 1073741824 from by omega); have HV30 := Lib.hid (show c.val.length ≤ 1073741000 from by omega)
            have HOA := Lib.hid hoa
            have keepS : ∀ {T : List Nat} {W W' : World}, Upd T W W' → wr.heap.size ∉ T → (W.cell? ⟨wr.heap.size, 0, none⟩ = some (encS c.key) ∧ W.cell? ⟨wr.heap.size, 2, none⟩ = some (Value.slice ap c.val.length cp)) → (W'.cell? ⟨wr.heap.size, 0, none⟩ = some (encS c.key) ∧ W'.cell? ⟨wr.heap.size, 2, none⟩ = some (Value.slice ap c.val.length cp)) := fun h hn hS => ⟨h.cell hS.1 hn, h.cell hS.2 hn⟩
            have hUd0 : Upd [] wa wa.drew := Upd.drew [] _
            have hS0' : (wa.cell? ⟨wr.heap.size, 0, none⟩ = some (encS c.key) ∧ wa.cell? ⟨wr.heap.size, 2, none⟩ = some (Value.slice ap c.val.length cp)) := ⟨by rw [cell_lit _ _ 0 _ _ _ hba]; rfl, by rw [cell_lit _ _ 2 _ _ _ hba]; rfl⟩
            have hS0 := keepS hUd0 (by simp) hS0'
            cases hg : c.gone with
            | true =>
              rw [hg] at g1 hwa hba
              have b0 : wa.cell? ⟨wr.heap.size, 0, none⟩ = some (encS c.key) := by rw [cell_lit _ _ 0 _ _ _ hba]; rfl
              have b1 : wa.cell? ⟨wr.heap.size, 1, none⟩ = some (.bool true) := by rw [cell_lit _ _ 1 _ _ _ hba]; rfl
              have b2 : wa.cell? ⟨wr.heap.size, 2, none⟩ = some (.slice ap c.val.length cp) := by rw [cell_lit _ _ 2 _ _ _ hba]; rfl
              clear hba
              have hb1 : pre.length + [(0 : UInt8)].length ≤ 1073741824 := by simp; omega
              have hb2 : (pre ++ [(0 : UInt8)]).length + (textB c.key).length ≤ 1073741824 := by simp; omega
              have hb3 : (pre ++ [(0 : UInt8)] ++ textB c.key).length + (textB c.val).length ≤ 1073741824 := by simp; omega
              have HB1 := Lib.hid hb1; have HB2 := Lib.hid hb2; have HB3 := Lib.hid hb3
              have E9 := Lib.hid (show encStep c = 0 :: textB c.key from by unfold encStep; rw [hg]; rfl)
              clear hb1 hb2 hb3 hkl hvl hpl hoa
              go_wp2_with ((with_reducible show wpList _ _ _ (⟨_, .indexAddr _ _ _, _, _, _, _⟩ :: _) _ _); refine wpl_indexAddr elTChg rfl rfl hRr rfl rfl (by omega) (by omega) ?_; intro ad hcell hspot; (have k0 := hcell 0 (by omega)); (have k1 := hcell 1 (by omega)); (have k2 := hcell 2 (by omega)); rw [Int.toNat_natCast, g0] at k0; rw [Int.toNat_natCast, g1] at k1; rw [Int.toNat_natCast, g2] at k2; clear hcell; obtain ⟨gb, gof, gs⟩ := ad; cases hspot; simp only [Addr.add_lit, Nat.add_zero] at k0 k1 k2)
              --REGION 10
              refine wp_region_noPanic ?_
              refine wp_region_M 8 (fun W => W.cell? ⟨wr.heap.size, 0, none⟩ = some (encS c.key) ∧ W.cell? ⟨wr.heap.size, 2, none⟩ = some (Value.slice ap c.val.length cp)) (by kernel_rfl) ?_
              (refine wpAnyM_takeO (i := 0) (dst := (some 37)) (op := (Go.Op.move (Go.Operand.tmp 4))) (v := ?_) (by rfl) (by kernel_rfl) (by kernel_rfl) (by kernel_rfl) (by kernel_rfl) (by rfl) (fun _ _ _ h => h) ?_ hS0 ?_; rotate_left; (focus (intro _ _ _ W HW; (try dsimp only at HW); go_simp; (try with_reducible rfl))); (try simp only [Act.put, List.setIfInBounds_toArray, List.set_cons_zero, List.set_cons_succ]))
              (refine wpAnyM_takeO (i := 3) (dst := (some 40)) (op := (Go.Op.fieldAddr 60 (Go.Operand.tmp 6) 0)) (v := ?_) (by rfl) (by kernel_rfl) (by kernel_rfl) (by kernel_rfl) (by kernel_rfl) (by rfl) (fun _ _ _ h => h) ?_ hS0 ?_; rotate_left; (focus (intro _ _ _ W HW; (try dsimp only at HW); go_simp; (try with_reducible rfl))); (try simp only [Act.put, List.setIfInBounds_toArray, List.set_cons_zero, List.set_cons_succ]))
              (refine wpAnyM_takeO (i := 4) (dst := (some 41)) (op := (Go.Op.load 9 (Go.Operand.tmp 40))) (v := ?_) (by rfl) (by kernel_rfl) (by kernel_rfl) (by kernel_rfl) (by kernel_rfl) (by rfl) (fun _ _ _ h => h) ?_ hS0 ?_; rotate_left; (focus (intro _ _ _ W HW; (try dsimp only at HW); go_simp; (try with_reducible rfl))); (try simp only [Act.put, List.setIfInBounds_toArray, List.set_cons_zero, List.set_cons_succ]))
              refine wpAnyM_two (i := 1) (k := 5) (by kernel_rfl) ?_ ?_
              · refine opM_val (i := 1) (dst := (some 38)) (op := (Go.Op.buildSlice 36 1 #[(0, (Go.Operand.const (Go.Value.int Go.IntKind.u8 0)))])) (by rfl) (ex_lit (run_lit (w := wa.drew) elU8 (.int .u8 0) rfl (by omega)) (by rfl)) (.inr (keepS (Upd.alloc [] wa.drew _) (by simp) hS0)) ?_
                (try simp only [Act.put, List.setIfInBounds_toArray, List.set_cons_zero, List.set_cons_succ])
                have hSlA := keepS (Upd.alloc [] wa.drew (.cells #[.int .u8 0] 5)) (by simp) hS0
                have hUlA : Upd [] wa (wa.drew.alloc (.cells #[.int .u8 0] 5)) := hUd0.trans0 (Upd.alloc [] _ _)
                have hylA : By (wa.drew.alloc (.cells #[.int .u8 0] 5)) (.slice (some ⟨wa.drew.heap.size, 0, none⟩) 1 1) [0] := Rd.new (w := wa.drew) (n := 1) (cap := 1) (xs := [enc 0]) rfl (Nat.le_refl _) (by decide) rfl rfl
                refine wpAnyM_two (i := 2) (k := 5) (by kernel_rfl) ?_ ?_
                · obtain ⟨v2, w2, hr2, hv2, hUap, hU2, hob2⟩ := app_by (ty := 0) (P := Tryz.prog) (T := 36) (w0 := w) (w := (wa.drew.alloc (.cells #[.int .u8 0] 5))) elU8 (Own.upd0 HOA.out hUlA) hylA (hUa.trans0 hUlA) HB1.out
                  have hne6 := ne_own hob2 hne4 hlta hUlA
                  refine opM_val (i := 2) (dst := (some 39)) (op := (Go.Op.call { callee := (Go.Callee.builtin Go.Builtin.append), args := #[(Go.Operand.tmp 37), (Go.Operand.tmp 38)], argTypes := #[36, 36] })) (by rfl) (ex_append hr2 (by rfl) (by rfl)) (.inr (keepS hUap hne4 hSlA)) ?_
                  (try simp only [Act.put, List.setIfInBounds_toArray, List.set_cons_zero, List.set_cons_succ])
                  have hS2 := keepS hUap hne4 hSlA
                  refine wpAnyM_one (i := 5) (by kernel_rfl) ?_
                  refine opM_val (i := 5) (dst := (some 42)) (op := (Go.Op.convert 9 36 (Go.Operand.tmp 41))) (by rfl) (ex_conv c.key w2 (by rfl)) (.inr (keepS (conv_upd w2 c.key) (by simp) hS2)) ?_
                  (try simp only [Act.put, List.setIfInBounds_toArray, List.set_cons_zero, List.set_cons_succ])
                  have hSc := keepS (conv_upd w2 c.key) (by simp) hS2
                  have hyc : By (convW w2 c.key) (convV w2 c.key) c.key := conv_by _ _ HK31.out
                  refine wpAnyM_one (i := 6) (by kernel_rfl) ?_
                  refine opM_call (i := 6) (dst := (some 43)) (op := (Go.Op.call { callee := (Go.Callee.value (Go.Operand.func 142)), args := #[(Go.Operand.tmp 42)], argTypes := #[36] })) (f := 142) (vs := #[convV w2 c.key]) (by rfl) (fun _ _ _ => by go_simp) ?_
                  refine (octet_Text _ c.key _ hyc HK30.out).mono ?_
                  rintro e w5 ⟨v5, rfl, hv5, hU5⟩
                  have hS5 := keepS hU5 (by simp) hSc
                  refine ⟨v5, rfl, .inr hS5, ?_⟩
                  (try simp only [Act.put, List.setIfInBounds_toArray, List.set_cons_zero, List.set_cons_succ])
                  obtain ⟨v6, w6, hr6, hv6, hU6, hU06, hob6⟩ := app_by (ty := 0) (P := Tryz.prog) (T := 36) (w0 := w) (w := w5) elU8 (Own.upd0 (Own.upd0 hv2 (conv_upd w2 c.key)) hU5) hv5.by ((hU2.trans0 (conv_upd w2 c.key)).trans0 hU5) HB2.out
                  have hS6 := keepS hU6 hne6 hS5
                  refine wpAnyM_one (i := 7) (by kernel_rfl) ?_
                  refine opM_val (i := 7) (dst := (some 44)) (op := (Go.Op.call { callee := (Go.Callee.builtin Go.Builtin.append), args := #[(Go.Operand.tmp 39), (Go.Operand.tmp 43)], argTypes := #[36, 36] })) (by rfl) (ex_append hr6 (by rfl) (by rfl)) (.inr hS6) ?_
                  (try simp only [Act.put, List.setIfInBounds_toArray, List.set_cons_zero, List.set_cons_succ])
                  refine wpAnyM_one (i := 8) (by kernel_rfl) ?_
                  refine opM_val (i := 8) (dst := (some 4)) (op := (Go.Op.assign (Go.Operand.tmp 44))) (by rfl) (fun _ _ _ => by go_simp; rfl) (.inr hS6) ?_
                  (try simp only [Act.put, List.setIfInBounds_toArray, List.set_cons_zero, List.set_cons_succ])
                  refine wpAnyM_done (by kernel_rfl) ?_ _
                  refine NoPanic.normal ?_
                  obtain ⟨ao6, cap6, hs6⟩ := By.val hv6.by
                  subst hs6
                  generalize hq6 : pre ++ [0] ++ textB c.key = q6 at hv6 ⊢
                  have HQ6 := Lib.hid hq6
                  have HV6 := Lib.hid hv6
                  have HU6 := Lib.hid hU06
                  clear hq6 hv6 hU06 hU6 hob6 hS6 hS5 hU5 hv5
                  by_cases hbig : 1048568 < q6.length
                  · have hbt : decide ((1048568 : Int) < (q6.length : Int)) = true := by simp; omega
                    have HB8 := Lib.hid (enc_big HE.out hnb (by rw [← HQ6.out, E9.out]; simp) hbig HU6.out)
                    clear hbig
                    go_wp2_with fail
                    go_ret2
                    exact HB8.out
                  · have hbt : decide ((1048568 : Int) < (q6.length : Int)) = false := by simp; omega
                    have HR8 := Lib.hid (enc_ok HE.out hnb (by rw [← HQ6.out, E9.out]; simp) hbig HU6.out hlt HV6.out)
                    clear hbig
                    go_wp2_with fail
                    go_roundw
                    case rel => exact HR8.out
                    case measure => simp [intOf]; omega
                · refine opM_val (i := 5) (dst := (some 42)) (op := (Go.Op.convert 9 36 (Go.Operand.tmp 41))) (by rfl) (ex_conv c.key (wa.drew.alloc (.cells #[.int .u8 0] 5)) (by rfl)) (.inr (keepS (conv_upd (wa.drew.alloc (.cells #[.int .u8 0] 5)) c.key) (by simp) hSlA)) ?_
                  (try simp only [Act.put, List.setIfInBounds_toArray, List.set_cons_zero, List.set_cons_succ])
                  have hScB := keepS (conv_upd (wa.drew.alloc (.cells #[.int .u8 0] 5)) c.key) (by simp) hSlA
                  have hUcB : Upd [] wa (convW (wa.drew.alloc (.cells #[.int .u8 0] 5)) c.key) := hUlA.trans0 (conv_upd _ _)
                  have hycB : By (convW (wa.drew.alloc (.cells #[.int .u8 0] 5)) c.key) (convV (wa.drew.alloc (.cells #[.int .u8 0] 5)) c.key) c.key := conv_by _ _ HK31.out
                  refine wpAnyM_one (i := 2) (by kernel_rfl) ?_
                  have hylB := hylA.upd0 (conv_upd _ c.key)
                  obtain ⟨v2, w2, hr2, hv2, hUap, hU2, hob2⟩ := app_by (ty := 0) (P := Tryz.prog) (T := 36) (w0 := w) (w := (convW (wa.drew.alloc (.cells #[.int .u8 0] 5)) c.key)) elU8 (Own.upd0 HOA.out hUcB) hylB (hUa.trans0 hUcB) HB1.out
                  have hne6 := ne_own hob2 hne4 hlta hUcB
                  refine opM_val (i := 2) (dst := (some 39)) (op := (Go.Op.call { callee := (Go.Callee.builtin Go.Builtin.append), args := #[(Go.Operand.tmp 37), (Go.Operand.tmp 38)], argTypes := #[36, 36] })) (by rfl) (ex_append hr2 (by rfl) (by rfl)) (.inr (keepS hUap hne4 hScB)) ?_
                  (try simp only [Act.put, List.setIfInBounds_toArray, List.set_cons_zero, List.set_cons_succ])
                  have hS2 := keepS hUap hne4 hScB
                  have hy6 := hycB.upd_away hUap (away_conv hlt4 (hUwa.trans0 hUlA))
                  refine wpAnyM_one (i := 6) (by kernel_rfl) ?_
                  refine opM_call (i := 6) (dst := (some 43)) (op := (Go.Op.call { callee := (Go.Callee.value (Go.Operand.func 142)), args := #[(Go.Operand.tmp 42)], argTypes := #[36] })) (f := 142) (vs := #[convV (wa.drew.alloc (.cells #[.int .u8 0] 5)) c.key]) (by rfl) (fun _ _ _ => by go_simp) ?_
                  refine (octet_Text _ c.key _ hy6 HK30.out).mono ?_
                  rintro e w5 ⟨v5, rfl, hv5, hU5⟩
                  have hS5 := keepS hU5 (by simp) hS2
                  refine ⟨v5, rfl, .inr hS5, ?_⟩
                  (try simp only [Act.put, List.setIfInBounds_toArray, List.set_cons_zero, List.set_cons_succ])
                  obtain ⟨v6, w6, hr6, hv6, hU6, hU06, hob6⟩ := app_by (ty := 0) (P := Tryz.prog) (T := 36) (w0 := w) (w := w5) elU8 (Own.upd0 hv2 hU5) hv5.by (hU2.trans0 hU5) HB2.out
                  have hS6 := keepS hU6 hne6 hS5
                  refine wpAnyM_one (i := 7) (by kernel_rfl) ?_
                  refine opM_val (i := 7) (dst := (some 44)) (op := (Go.Op.call { callee := (Go.Callee.builtin Go.Builtin.append), args := #[(Go.Operand.tmp 39), (Go.Operand.tmp 43)], argTypes := #[36, 36] })) (by rfl) (ex_append hr6 (by rfl) (by rfl)) (.inr hS6) ?_
                  (try simp only [Act.put, List.setIfInBounds_toArray, List.set_cons_zero, List.set_cons_succ])
                  refine wpAnyM_one (i := 8) (by kernel_rfl) ?_
                  refine opM_val (i := 8) (dst := (some 4)) (op := (Go.Op.assign (Go.Operand.tmp 44))) (by rfl) (fun _ _ _ => by go_simp; rfl) (.inr hS6) ?_
                  (try simp only [Act.put, List.setIfInBounds_toArray, List.set_cons_zero, List.set_cons_succ])
                  refine wpAnyM_done (by kernel_rfl) ?_ _
                  refine NoPanic.normal ?_
                  obtain ⟨ao6, cap6, hs6⟩ := By.val hv6.by
                  subst hs6
                  generalize hq6 : pre ++ [0] ++ textB c.key = q6 at hv6 ⊢
                  have HQ6 := Lib.hid hq6
                  have HV6 := Lib.hid hv6
                  have HU6 := Lib.hid hU06
                  clear hq6 hv6 hU06 hU6 hob6 hS6 hS5 hU5 hv5
                  by_cases hbig : 1048568 < q6.length
                  · have hbt : decide ((1048568 : Int) < (q6.length : Int)) = true := by simp; omega
                    have HB8 := Lib.hid (enc_big HE.out hnb (by rw [← HQ6.out, E9.out]; simp) hbig HU6.out)
                    clear hbig
                    go_wp2_with fail
                    go_ret2
                    exact HB8.out
                  · have hbt : decide ((1048568 : Int) < (q6.length : Int)) = false := by simp; omega
                    have HR8 := Lib.hid (enc_ok HE.out hnb (by rw [← HQ6.out, E9.out]; simp) hbig HU6.out hlt HV6.out)
                    clear hbig
                    go_wp2_with fail
                    go_roundw
                    case rel => exact HR8.out
                    case measure => simp [intOf]; omega
              · refine opM_val (i := 5) (dst := (some 42)) (op := (Go.Op.convert 9 36 (Go.Operand.tmp 41))) (by rfl) (ex_conv c.key wa.drew (by rfl)) (.inr (keepS (conv_upd wa.drew c.key) (by simp) hS0)) ?_
                (try simp only [Act.put, List.setIfInBounds_toArray, List.set_cons_zero, List.set_cons_succ])
                have hScC := keepS (conv_upd wa.drew c.key) (by simp) hS0
                have hUcC : Upd [] wa (convW wa.drew c.key) := hUd0.trans0 (conv_upd _ _)
                have hycC : By (convW wa.drew c.key) (convV wa.drew c.key) c.key := conv_by _ _ HK31.out
                refine wpAnyM_one (i := 1) (by kernel_rfl) ?_
                refine opM_val (i := 1) (dst := (some 38)) (op := (Go.Op.buildSlice 36 1 #[(0, (Go.Operand.const (Go.Value.int Go.IntKind.u8 0)))])) (by rfl) (ex_lit (run_lit (w := (convW wa.drew c.key)) elU8 (.int .u8 0) rfl (by omega)) (by rfl)) (.inr (keepS (Upd.alloc [] (convW wa.drew c.key) _) (by simp) hScC)) ?_
                (try simp only [Act.put, List.setIfInBounds_toArray, List.set_cons_zero, List.set_cons_succ])
                have hSlC := keepS (Upd.alloc [] (convW wa.drew c.key) (.cells #[.int .u8 0] 5)) (by simp) hScC
                have hUlC : Upd [] wa ((convW wa.drew c.key).alloc (.cells #[.int .u8 0] 5)) := hUcC.trans0 (Upd.alloc [] _ _)
                have hylC : By ((convW wa.drew c.key).alloc (.cells #[.int .u8 0] 5)) (.slice (some ⟨(convW wa.drew c.key).heap.size, 0, none⟩) 1 1) [0] := Rd.new (w := (convW wa.drew c.key)) (n := 1) (cap := 1) (xs := [enc 0]) rfl (Nat.le_refl _) (by decide) rfl rfl
                refine wpAnyM_one (i := 2) (by kernel_rfl) ?_
                obtain ⟨v2, w2, hr2, hv2, hUap, hU2, hob2⟩ := app_by (ty := 0) (P := Tryz.prog) (T := 36) (w0 := w) (w := ((convW wa.drew c.key).alloc (.cells #[.int .u8 0] 5))) elU8 (Own.upd0 HOA.out hUlC) hylC (hUa.trans0 hUlC) HB1.out
                have hne6 := ne_own hob2 hne4 hlta hUlC
                refine opM_val (i := 2) (dst := (some 39)) (op := (Go.Op.call { callee := (Go.Callee.builtin Go.Builtin.append), args := #[(Go.Operand.tmp 37), (Go.Operand.tmp 38)], argTypes := #[36, 36] })) (by rfl) (ex_append hr2 (by rfl) (by rfl)) (.inr (keepS hUap hne4 hSlC)) ?_
                (try simp only [Act.put, List.setIfInBounds_toArray, List.set_cons_zero, List.set_cons_succ])
                have hS2 := keepS hUap hne4 hSlC
                have hy6 := (hycC.upd0 (Upd.alloc [] _ _)).upd_away hUap (away_conv hlt4 (hUwa.trans0 hUd0))
                refine wpAnyM_one (i := 6) (by kernel_rfl) ?_
                refine opM_call (i := 6) (dst := (some 43)) (op := (Go.Op.call { callee := (Go.Callee.value (Go.Operand.func 142)), args := #[(Go.Operand.tmp 42)], argTypes := #[36] })) (f := 142) (vs := #[convV wa.drew c.key]) (by rfl) (fun _ _ _ => by go_simp) ?_
                refine (octet_Text _ c.key _ hy6 HK30.out).mono ?_
                rintro e w5 ⟨v5, rfl, hv5, hU5⟩
                have hS5 := keepS hU5 (by simp) hS2
                refine ⟨v5, rfl, .inr hS5, ?_⟩
                (try simp only [Act.put, List.setIfInBounds_toArray, List.set_cons_zero, List.set_cons_succ])
                obtain ⟨v6, w6, hr6, hv6, hU6, hU06, hob6⟩ := app_by (ty := 0) (P := Tryz.prog) (T := 36) (w0 := w) (w := w5) elU8 (Own.upd0 hv2 hU5) hv5.by (hU2.trans0 hU5) HB2.out
                have hS6 := keepS hU6 hne6 hS5
                refine wpAnyM_one (i := 7) (by kernel_rfl) ?_
                refine opM_val (i := 7) (dst := (some 44)) (op := (Go.Op.call { callee := (Go.Callee.builtin Go.Builtin.append), args := #[(Go.Operand.tmp 39), (Go.Operand.tmp 43)], argTypes := #[36, 36] })) (by rfl) (ex_append hr6 (by rfl) (by rfl)) (.inr hS6) ?_
                (try simp only [Act.put, List.setIfInBounds_toArray, List.set_cons_zero, List.set_cons_succ])
                refine wpAnyM_one (i := 8) (by kernel_rfl) ?_
                refine opM_val (i := 8) (dst := (some 4)) (op := (Go.Op.assign (Go.Operand.tmp 44))) (by rfl) (fun _ _ _ => by go_simp; rfl) (.inr hS6) ?_
                (try simp only [Act.put, List.setIfInBounds_toArray, List.set_cons_zero, List.set_cons_succ])
                refine wpAnyM_done (by kernel_rfl) ?_ _
                refine NoPanic.normal ?_
                obtain ⟨ao6, cap6, hs6⟩ := By.val hv6.by
                subst hs6
                generalize hq6 : pre ++ [0] ++ textB c.key = q6 at hv6 ⊢
                have HQ6 := Lib.hid hq6
                have HV6 := Lib.hid hv6
                have HU6 := Lib.hid hU06
                clear hq6 hv6 hU06 hU6 hob6 hS6 hS5 hU5 hv5
                by_cases hbig : 1048568 < q6.length
                · have hbt : decide ((1048568 : Int) < (q6.length : Int)) = true := by simp; omega
                  have HB8 := Lib.hid (enc_big HE.out hnb (by rw [← HQ6.out, E9.out]; simp) hbig HU6.out)
                  clear hbig
                  go_wp2_with fail
                  go_ret2
                  exact HB8.out
                · have hbt : decide ((1048568 : Int) < (q6.length : Int)) = false := by simp; omega
                  have HR8 := Lib.hid (enc_ok HE.out hnb (by rw [← HQ6.out, E9.out]; simp) hbig HU6.out hlt HV6.out)
                  clear hbig
                  go_wp2_with fail
                  go_roundw
                  case rel => exact HR8.out
                  case measure => simp [intOf]; omega
              --END 10
            | false =>
              rw [hg] at g1 hwa hba
              have b0 : wa.cell? ⟨wr.heap.size, 0, none⟩ = some (encS c.key) := by rw [cell_lit _ _ 0 _ _ _ hba]; rfl
              have b1 : wa.cell? ⟨wr.heap.size, 1, none⟩ = some (.bool false) := by rw [cell_lit _ _ 1 _ _ _ hba]; rfl
              have b2 : wa.cell? ⟨wr.heap.size, 2, none⟩ = some (.slice ap c.val.length cp) := by rw [cell_lit _ _ 2 _ _ _ hba]; rfl
              clear hba
              have hb1 : pre.length + [(1 : UInt8)].length ≤ 1073741824 := by simp; omega
              have hb2 : (pre ++ [(1 : UInt8)]).length + (textB c.key).length ≤ 1073741824 := by simp; omega
              have hb3 : (pre ++ [(1 : UInt8)] ++ textB c.key).length + (textB c.val).length ≤ 1073741824 := by simp; omega
              have HB1 := Lib.hid hb1; have HB2 := Lib.hid hb2; have HB3 := Lib.hid hb3
              have E9 := Lib.hid (show encStep c = 1 :: (textB c.key ++ textB c.val) from by unfold encStep; rw [hg]; rfl)
              clear hb1 hb2 hb3 hkl hvl hpl hoa
              go_wp2_with ((with_reducible show wpList _ _ _ (⟨_, .indexAddr _ _ _, _, _, _, _⟩ :: _) _ _); refine wpl_indexAddr elTChg rfl rfl hRr rfl rfl (by omega) (by omega) ?_; intro ad hcell hspot; (have k0 := hcell 0 (by omega)); (have k1 := hcell 1 (by omega)); (have k2 := hcell 2 (by omega)); rw [Int.toNat_natCast, g0] at k0; rw [Int.toNat_natCast, g1] at k1; rw [Int.toNat_natCast, g2] at k2; clear hcell; obtain ⟨gb, gof, gs⟩ := ad; cases hspot; simp only [Addr.add_lit, Nat.add_zero] at k0 k1 k2)
              --REGION 11
              refine wp_region_noPanic ?_
              refine wp_region_M 8 (fun W => W.cell? ⟨wr.heap.size, 0, none⟩ = some (encS c.key) ∧ W.cell? ⟨wr.heap.size, 2, none⟩ = some (Value.slice ap c.val.length cp)) (by kernel_rfl) ?_
              (refine wpAnyM_takeO (i := 0) (dst := (some 45)) (op := (Go.Op.move (Go.Operand.tmp 4))) (v := ?_) (by rfl) (by kernel_rfl) (by kernel_rfl) (by kernel_rfl) (by kernel_rfl) (by rfl) (fun _ _ _ h => h) ?_ hS0 ?_; rotate_left; (focus (intro _ _ _ W HW; (try dsimp only at HW); go_simp; (try with_reducible rfl))); (try simp only [Act.put, List.setIfInBounds_toArray, List.set_cons_zero, List.set_cons_succ]))
              (refine wpAnyM_takeO (i := 3) (dst := (some 48)) (op := (Go.Op.fieldAddr 60 (Go.Operand.tmp 6) 0)) (v := ?_) (by rfl) (by kernel_rfl) (by kernel_rfl) (by kernel_rfl) (by kernel_rfl) (by rfl) (fun _ _ _ h => h) ?_ hS0 ?_; rotate_left; (focus (intro _ _ _ W HW; (try dsimp only at HW); go_simp; (try with_reducible rfl))); (try simp only [Act.put, List.setIfInBounds_toArray, List.set_cons_zero, List.set_cons_succ]))
              (refine wpAnyM_takeO (i := 4) (dst := (some 49)) (op := (Go.Op.load 9 (Go.Operand.tmp 48))) (v := ?_) (by rfl) (by kernel_rfl) (by kernel_rfl) (by kernel_rfl) (by kernel_rfl) (by rfl) (fun _ _ _ h => h) ?_ hS0 ?_; rotate_left; (focus (intro _ _ _ W HW; (try dsimp only at HW); go_simp; (try with_reducible rfl))); (try simp only [Act.put, List.setIfInBounds_toArray, List.set_cons_zero, List.set_cons_succ]))
              refine wpAnyM_two (i := 1) (k := 5) (by kernel_rfl) ?_ ?_
              · refine opM_val (i := 1) (dst := (some 46)) (op := (Go.Op.buildSlice 36 1 #[(0, (Go.Operand.const (Go.Value.int Go.IntKind.u8 1)))])) (by rfl) (ex_lit (run_lit (w := wa.drew) elU8 (.int .u8 1) rfl (by omega)) (by rfl)) (.inr (keepS (Upd.alloc [] wa.drew _) (by simp) hS0)) ?_
                (try simp only [Act.put, List.setIfInBounds_toArray, List.set_cons_zero, List.set_cons_succ])
                have hSlA := keepS (Upd.alloc [] wa.drew (.cells #[.int .u8 1] 5)) (by simp) hS0
                have hUlA : Upd [] wa (wa.drew.alloc (.cells #[.int .u8 1] 5)) := hUd0.trans0 (Upd.alloc [] _ _)
                have hylA : By (wa.drew.alloc (.cells #[.int .u8 1] 5)) (.slice (some ⟨wa.drew.heap.size, 0, none⟩) 1 1) [1] := Rd.new (w := wa.drew) (n := 1) (cap := 1) (xs := [enc 1]) rfl (Nat.le_refl _) (by decide) rfl rfl
                refine wpAnyM_two (i := 2) (k := 5) (by kernel_rfl) ?_ ?_
                · obtain ⟨v2, w2, hr2, hv2, hUap, hU2, hob2⟩ := app_by (ty := 0) (P := Tryz.prog) (T := 36) (w0 := w) (w := (wa.drew.alloc (.cells #[.int .u8 1] 5))) elU8 (Own.upd0 HOA.out hUlA) hylA (hUa.trans0 hUlA) HB1.out
                  have hne6 := ne_own hob2 hne4 hlta hUlA
                  refine opM_val (i := 2) (dst := (some 47)) (op := (Go.Op.call { callee := (Go.Callee.builtin Go.Builtin.append), args := #[(Go.Operand.tmp 45), (Go.Operand.tmp 46)], argTypes := #[36, 36] })) (by rfl) (ex_append hr2 (by rfl) (by rfl)) (.inr (keepS hUap hne4 hSlA)) ?_
                  (try simp only [Act.put, List.setIfInBounds_toArray, List.set_cons_zero, List.set_cons_succ])
                  have hS2 := keepS hUap hne4 hSlA
                  refine wpAnyM_one (i := 5) (by kernel_rfl) ?_
                  refine opM_val (i := 5) (dst := (some 50)) (op := (Go.Op.convert 9 36 (Go.Operand.tmp 49))) (by rfl) (ex_conv c.key w2 (by rfl)) (.inr (keepS (conv_upd w2 c.key) (by simp) hS2)) ?_
                  (try simp only [Act.put, List.setIfInBounds_toArray, List.set_cons_zero, List.set_cons_succ])
                  have hSc := keepS (conv_upd w2 c.key) (by simp) hS2
                  have hyc : By (convW w2 c.key) (convV w2 c.key) c.key := conv_by _ _ HK31.out
                  refine wpAnyM_one (i := 6) (by kernel_rfl) ?_
                  refine opM_call (i := 6) (dst := (some 51)) (op := (Go.Op.call { callee := (Go.Callee.value (Go.Operand.func 142)), args := #[(Go.Operand.tmp 50)], argTypes := #[36] })) (f := 142) (vs := #[convV w2 c.key]) (by rfl) (fun _ _ _ => by go_simp) ?_
                  refine (octet_Text _ c.key _ hyc HK30.out).mono ?_
                  rintro e w5 ⟨v5, rfl, hv5, hU5⟩
                  have hS5 := keepS hU5 (by simp) hSc
                  refine ⟨v5, rfl, .inr hS5, ?_⟩
                  (try simp only [Act.put, List.setIfInBounds_toArray, List.set_cons_zero, List.set_cons_succ])
                  obtain ⟨v6, w6, hr6, hv6, hU6, hU06, hob6⟩ := app_by (ty := 0) (P := Tryz.prog) (T := 36) (w0 := w) (w := w5) elU8 (Own.upd0 (Own.upd0 hv2 (conv_upd w2 c.key)) hU5) hv5.by ((hU2.trans0 (conv_upd w2 c.key)).trans0 hU5) HB2.out
                  have hS6 := keepS hU6 hne6 hS5
                  refine wpAnyM_one (i := 7) (by kernel_rfl) ?_
                  refine opM_val (i := 7) (dst := (some 52)) (op := (Go.Op.call { callee := (Go.Callee.builtin Go.Builtin.append), args := #[(Go.Operand.tmp 47), (Go.Operand.tmp 51)], argTypes := #[36, 36] })) (by rfl) (ex_append hr6 (by rfl) (by rfl)) (.inr hS6) ?_
                  (try simp only [Act.put, List.setIfInBounds_toArray, List.set_cons_zero, List.set_cons_succ])
                  refine wpAnyM_one (i := 8) (by kernel_rfl) ?_
                  refine opM_val (i := 8) (dst := (some 4)) (op := (Go.Op.assign (Go.Operand.tmp 52))) (by rfl) (fun _ _ _ => by go_simp; rfl) (.inr hS6) ?_
                  (try simp only [Act.put, List.setIfInBounds_toArray, List.set_cons_zero, List.set_cons_succ])
                  refine wpAnyM_done (by kernel_rfl) ?_ _
                  refine NoPanic.normal ?_
                  have HV6 := Lib.hid hv6
                  have HU6 := Lib.hid hU06
                  have k2 := hS6.2
                  clear hv6 hU06 hU6 hob6 hS6 hS5 hU5 hv5
                  by_cases hbig : 1048568 < (pre ++ encStep c).length
                  · have D8 := Lib.hid (fun (q : List UInt8) (hq : pre ++ [1] ++ textB c.key ++ textB c.val = q) => show decide ((1048568 : Int) < (q.length : Int)) = true from by rw [← hq, show pre ++ [1] ++ textB c.key ++ textB c.val = pre ++ encStep c from by rw [E9.out]; simp]; simp only [decide_eq_true_eq]; omega)
                    have HBG := Lib.hid hbig
                    clear hbig
                    go_wp2_with (first | (go_at_call 142; refine (octet_Text _ c.val _ (HPW.out.upd0 HU6.out) HV30.out).mono ?_; rintro e w7 ⟨v7, rfl, hv7, hU7⟩) | ((with_reducible show wpList _ _ _ (⟨_, .call ⟨.builtin .append, _, _⟩, _, _, _, _⟩ :: _) _ _); refine wpl_append_by elU8 rfl rfl (HU6.out.trans0 hU7) (Own.upd0 HV6.out hU7) rfl hv7.by rfl HB3.out ?_; intro v8 w8 hv8 _ hU8 hb8; obtain ⟨ao8, cap8, hs8⟩ := By.val hv8.by; subst hs8; generalize hq8 : pre ++ [1] ++ textB c.key ++ textB c.val = q8 at hv8 ⊢; have hbt := D8.out q8 hq8; have HQ8 := Lib.hid hq8; have HV8 := Lib.hid hv8; have HU8 := Lib.hid hU8; clear hq8 hv8 hU8 hb8))
                    go_ret2
                    exact enc_big (q := q8) HE.out hnb (by rw [← HQ8.out, E9.out]; simp) (by rw [← HQ8.out, show pre ++ [1] ++ textB c.key ++ textB c.val = pre ++ encStep c from by rw [E9.out]; simp]; exact HBG.out) HU8.out
                  · have D8 := Lib.hid (fun (q : List UInt8) (hq : pre ++ [1] ++ textB c.key ++ textB c.val = q) => show decide ((1048568 : Int) < (q.length : Int)) = false from by rw [← hq, show pre ++ [1] ++ textB c.key ++ textB c.val = pre ++ encStep c from by rw [E9.out]; simp]; simp only [decide_eq_false_iff_not]; omega)
                    have HBG := Lib.hid hbig
                    clear hbig
                    go_wp2_with (first | (go_at_call 142; refine (octet_Text _ c.val _ (HPW.out.upd0 HU6.out) HV30.out).mono ?_; rintro e w7 ⟨v7, rfl, hv7, hU7⟩) | ((with_reducible show wpList _ _ _ (⟨_, .call ⟨.builtin .append, _, _⟩, _, _, _, _⟩ :: _) _ _); refine wpl_append_by elU8 rfl rfl (HU6.out.trans0 hU7) (Own.upd0 HV6.out hU7) rfl hv7.by rfl HB3.out ?_; intro v8 w8 hv8 _ hU8 hb8; obtain ⟨ao8, cap8, hs8⟩ := By.val hv8.by; subst hs8; generalize hq8 : pre ++ [1] ++ textB c.key ++ textB c.val = q8 at hv8 ⊢; have hbt := D8.out q8 hq8; have HQ8 := Lib.hid hq8; have HV8 := Lib.hid hv8; have HU8 := Lib.hid hU8; clear hq8 hv8 hU8 hb8))
                    go_roundw
                    case rel => exact enc_ok (q := q8) HE.out hnb (by rw [← HQ8.out, E9.out]; simp) (by rw [← HQ8.out, show pre ++ [1] ++ textB c.key ++ textB c.val = pre ++ encStep c from by rw [E9.out]; simp]; exact HBG.out) HU8.out hlt HV8.out
                    case measure => simp [intOf]; omega
                · refine opM_val (i := 5) (dst := (some 50)) (op := (Go.Op.convert 9 36 (Go.Operand.tmp 49))) (by rfl) (ex_conv c.key (wa.drew.alloc (.cells #[.int .u8 1] 5)) (by rfl)) (.inr (keepS (conv_upd (wa.drew.alloc (.cells #[.int .u8 1] 5)) c.key) (by simp) hSlA)) ?_
                  (try simp only [Act.put, List.setIfInBounds_toArray, List.set_cons_zero, List.set_cons_succ])
                  have hScB := keepS (conv_upd (wa.drew.alloc (.cells #[.int .u8 1] 5)) c.key) (by simp) hSlA
                  have hUcB : Upd [] wa (convW (wa.drew.alloc (.cells #[.int .u8 1] 5)) c.key) := hUlA.trans0 (conv_upd _ _)
                  have hycB : By (convW (wa.drew.alloc (.cells #[.int .u8 1] 5)) c.key) (convV (wa.drew.alloc (.cells #[.int .u8 1] 5)) c.key) c.key := conv_by _ _ HK31.out
                  refine wpAnyM_one (i := 2) (by kernel_rfl) ?_
                  have hylB := hylA.upd0 (conv_upd _ c.key)
                  obtain ⟨v2, w2, hr2, hv2, hUap, hU2, hob2⟩ := app_by (ty := 0) (P := Tryz.prog) (T := 36) (w0 := w) (w := (convW (wa.drew.alloc (.cells #[.int .u8 1] 5)) c.key)) elU8 (Own.upd0 HOA.out hUcB) hylB (hUa.trans0 hUcB) HB1.out
                  have hne6 := ne_own hob2 hne4 hlta hUcB
                  refine opM_val (i := 2) (dst := (some 47)) (op := (Go.Op.call { callee := (Go.Callee.builtin Go.Builtin.append), args := #[(Go.Operand.tmp 45), (Go.Operand.tmp 46)], argTypes := #[36, 36] })) (by rfl) (ex_append hr2 (by rfl) (by rfl)) (.inr (keepS hUap hne4 hScB)) ?_
                  (try simp only [Act.put, List.setIfInBounds_toArray, List.set_cons_zero, List.set_cons_succ])
                  have hS2 := keepS hUap hne4 hScB
                  have hy6 := hycB.upd_away hUap (away_conv hlt4 (hUwa.trans0 hUlA))
                  refine wpAnyM_one (i := 6) (by kernel_rfl) ?_
                  refine opM_call (i := 6) (dst := (some 51)) (op := (Go.Op.call { callee := (Go.Callee.value (Go.Operand.func 142)), args := #[(Go.Operand.tmp 50)], argTypes := #[36] })) (f := 142) (vs := #[convV (wa.drew.alloc (.cells #[.int .u8 1] 5)) c.key]) (by rfl) (fun _ _ _ => by go_simp) ?_
                  refine (octet_Text _ c.key _ hy6 HK30.out).mono ?_
                  rintro e w5 ⟨v5, rfl, hv5, hU5⟩
                  have hS5 := keepS hU5 (by simp) hS2
                  refine ⟨v5, rfl, .inr hS5, ?_⟩
                  (try simp only [Act.put, List.setIfInBounds_toArray, List.set_cons_zero, List.set_cons_succ])
                  obtain ⟨v6, w6, hr6, hv6, hU6, hU06, hob6⟩ := app_by (ty := 0) (P := Tryz.prog) (T := 36) (w0 := w) (w := w5) elU8 (Own.upd0 hv2 hU5) hv5.by (hU2.trans0 hU5) HB2.out
                  have hS6 := keepS hU6 hne6 hS5
                  refine wpAnyM_one (i := 7) (by kernel_rfl) ?_
                  refine opM_val (i := 7) (dst := (some 52)) (op := (Go.Op.call { callee := (Go.Callee.builtin Go.Builtin.append), args := #[(Go.Operand.tmp 47), (Go.Operand.tmp 51)], argTypes := #[36, 36] })) (by rfl) (ex_append hr6 (by rfl) (by rfl)) (.inr hS6) ?_
                  (try simp only [Act.put, List.setIfInBounds_toArray, List.set_cons_zero, List.set_cons_succ])
                  refine wpAnyM_one (i := 8) (by kernel_rfl) ?_
                  refine opM_val (i := 8) (dst := (some 4)) (op := (Go.Op.assign (Go.Operand.tmp 52))) (by rfl) (fun _ _ _ => by go_simp; rfl) (.inr hS6) ?_
                  (try simp only [Act.put, List.setIfInBounds_toArray, List.set_cons_zero, List.set_cons_succ])
                  refine wpAnyM_done (by kernel_rfl) ?_ _
                  refine NoPanic.normal ?_
                  have HV6 := Lib.hid hv6
                  have HU6 := Lib.hid hU06
                  have k2 := hS6.2
                  clear hv6 hU06 hU6 hob6 hS6 hS5 hU5 hv5
                  by_cases hbig : 1048568 < (pre ++ encStep c).length
                  · have D8 := Lib.hid (fun (q : List UInt8) (hq : pre ++ [1] ++ textB c.key ++ textB c.val = q) => show decide ((1048568 : Int) < (q.length : Int)) = true from by rw [← hq, show pre ++ [1] ++ textB c.key ++ textB c.val = pre ++ encStep c from by rw [E9.out]; simp]; simp only [decide_eq_true_eq]; omega)
                    have HBG := Lib.hid hbig
                    clear hbig
                    go_wp2_with (first | (go_at_call 142; refine (octet_Text _ c.val _ (HPW.out.upd0 HU6.out) HV30.out).mono ?_; rintro e w7 ⟨v7, rfl, hv7, hU7⟩) | ((with_reducible show wpList _ _ _ (⟨_, .call ⟨.builtin .append, _, _⟩, _, _, _, _⟩ :: _) _ _); refine wpl_append_by elU8 rfl rfl (HU6.out.trans0 hU7) (Own.upd0 HV6.out hU7) rfl hv7.by rfl HB3.out ?_; intro v8 w8 hv8 _ hU8 hb8; obtain ⟨ao8, cap8, hs8⟩ := By.val hv8.by; subst hs8; generalize hq8 : pre ++ [1] ++ textB c.key ++ textB c.val = q8 at hv8 ⊢; have hbt := D8.out q8 hq8; have HQ8 := Lib.hid hq8; have HV8 := Lib.hid hv8; have HU8 := Lib.hid hU8; clear hq8 hv8 hU8 hb8))
                    go_ret2
                    exact enc_big (q := q8) HE.out hnb (by rw [← HQ8.out, E9.out]; simp) (by rw [← HQ8.out, show pre ++ [1] ++ textB c.key ++ textB c.val = pre ++ encStep c from by rw [E9.out]; simp]; exact HBG.out) HU8.out
                  · have D8 := Lib.hid (fun (q : List UInt8) (hq : pre ++ [1] ++ textB c.key ++ textB c.val = q) => show decide ((1048568 : Int) < (q.length : Int)) = false from by rw [← hq, show pre ++ [1] ++ textB c.key ++ textB c.val = pre ++ encStep c from by rw [E9.out]; simp]; simp only [decide_eq_false_iff_not]; omega)
                    have HBG := Lib.hid hbig
                    clear hbig
                    go_wp2_with (first | (go_at_call 142; refine (octet_Text _ c.val _ (HPW.out.upd0 HU6.out) HV30.out).mono ?_; rintro e w7 ⟨v7, rfl, hv7, hU7⟩) | ((with_reducible show wpList _ _ _ (⟨_, .call ⟨.builtin .append, _, _⟩, _, _, _, _⟩ :: _) _ _); refine wpl_append_by elU8 rfl rfl (HU6.out.trans0 hU7) (Own.upd0 HV6.out hU7) rfl hv7.by rfl HB3.out ?_; intro v8 w8 hv8 _ hU8 hb8; obtain ⟨ao8, cap8, hs8⟩ := By.val hv8.by; subst hs8; generalize hq8 : pre ++ [1] ++ textB c.key ++ textB c.val = q8 at hv8 ⊢; have hbt := D8.out q8 hq8; have HQ8 := Lib.hid hq8; have HV8 := Lib.hid hv8; have HU8 := Lib.hid hU8; clear hq8 hv8 hU8 hb8))
                    go_roundw
                    case rel => exact enc_ok (q := q8) HE.out hnb (by rw [← HQ8.out, E9.out]; simp) (by rw [← HQ8.out, show pre ++ [1] ++ textB c.key ++ textB c.val = pre ++ encStep c from by rw [E9.out]; simp]; exact HBG.out) HU8.out hlt HV8.out
                    case measure => simp [intOf]; omega
              · refine opM_val (i := 5) (dst := (some 50)) (op := (Go.Op.convert 9 36 (Go.Operand.tmp 49))) (by rfl) (ex_conv c.key wa.drew (by rfl)) (.inr (keepS (conv_upd wa.drew c.key) (by simp) hS0)) ?_
                (try simp only [Act.put, List.setIfInBounds_toArray, List.set_cons_zero, List.set_cons_succ])
                have hScC := keepS (conv_upd wa.drew c.key) (by simp) hS0
                have hUcC : Upd [] wa (convW wa.drew c.key) := hUd0.trans0 (conv_upd _ _)
                have hycC : By (convW wa.drew c.key) (convV wa.drew c.key) c.key := conv_by _ _ HK31.out
                refine wpAnyM_one (i := 1) (by kernel_rfl) ?_
                refine opM_val (i := 1) (dst := (some 46)) (op := (Go.Op.buildSlice 36 1 #[(0, (Go.Operand.const (Go.Value.int Go.IntKind.u8 1)))])) (by rfl) (ex_lit (run_lit (w := (convW wa.drew c.key)) elU8 (.int .u8 1) rfl (by omega)) (by rfl)) (.inr (keepS (Upd.alloc [] (convW wa.drew c.key) _) (by simp) hScC)) ?_
                (try simp only [Act.put, List.setIfInBounds_toArray, List.set_cons_zero, List.set_cons_succ])
                have hSlC := keepS (Upd.alloc [] (convW wa.drew c.key) (.cells #[.int .u8 1] 5)) (by simp) hScC
                have hUlC : Upd [] wa ((convW wa.drew c.key).alloc (.cells #[.int .u8 1] 5)) := hUcC.trans0 (Upd.alloc [] _ _)
                have hylC : By ((convW wa.drew c.key).alloc (.cells #[.int .u8 1] 5)) (.slice (some ⟨(convW wa.drew c.key).heap.size, 0, none⟩) 1 1) [1] := Rd.new (w := (convW wa.drew c.key)) (n := 1) (cap := 1) (xs := [enc 1]) rfl (Nat.le_refl _) (by decide) rfl rfl
                refine wpAnyM_one (i := 2) (by kernel_rfl) ?_
                obtain ⟨v2, w2, hr2, hv2, hUap, hU2, hob2⟩ := app_by (ty := 0) (P := Tryz.prog) (T := 36) (w0 := w) (w := ((convW wa.drew c.key).alloc (.cells #[.int .u8 1] 5))) elU8 (Own.upd0 HOA.out hUlC) hylC (hUa.trans0 hUlC) HB1.out
                have hne6 := ne_own hob2 hne4 hlta hUlC
                refine opM_val (i := 2) (dst := (some 47)) (op := (Go.Op.call { callee := (Go.Callee.builtin Go.Builtin.append), args := #[(Go.Operand.tmp 45), (Go.Operand.tmp 46)], argTypes := #[36, 36] })) (by rfl) (ex_append hr2 (by rfl) (by rfl)) (.inr (keepS hUap hne4 hSlC)) ?_
                (try simp only [Act.put, List.setIfInBounds_toArray, List.set_cons_zero, List.set_cons_succ])
                have hS2 := keepS hUap hne4 hSlC
                have hy6 := (hycC.upd0 (Upd.alloc [] _ _)).upd_away hUap (away_conv hlt4 (hUwa.trans0 hUd0))
                refine wpAnyM_one (i := 6) (by kernel_rfl) ?_
                refine opM_call (i := 6) (dst := (some 51)) (op := (Go.Op.call { callee := (Go.Callee.value (Go.Operand.func 142)), args := #[(Go.Operand.tmp 50)], argTypes := #[36] })) (f := 142) (vs := #[convV wa.drew c.key]) (by rfl) (fun _ _ _ => by go_simp) ?_
                refine (octet_Text _ c.key _ hy6 HK30.out).mono ?_
                rintro e w5 ⟨v5, rfl, hv5, hU5⟩
                have hS5 := keepS hU5 (by simp) hS2
                refine ⟨v5, rfl, .inr hS5, ?_⟩
                (try simp only [Act.put, List.setIfInBounds_toArray, List.set_cons_zero, List.set_cons_succ])
                obtain ⟨v6, w6, hr6, hv6, hU6, hU06, hob6⟩ := app_by (ty := 0) (P := Tryz.prog) (T := 36) (w0 := w) (w := w5) elU8 (Own.upd0 hv2 hU5) hv5.by (hU2.trans0 hU5) HB2.out
                have hS6 := keepS hU6 hne6 hS5
                refine wpAnyM_one (i := 7) (by kernel_rfl) ?_
                refine opM_val (i := 7) (dst := (some 52)) (op := (Go.Op.call { callee := (Go.Callee.builtin Go.Builtin.append), args := #[(Go.Operand.tmp 47), (Go.Operand.tmp 51)], argTypes := #[36, 36] })) (by rfl) (ex_append hr6 (by rfl) (by rfl)) (.inr hS6) ?_
                (try simp only [Act.put, List.setIfInBounds_toArray, List.set_cons_zero, List.set_cons_succ])
                refine wpAnyM_one (i := 8) (by kernel_rfl) ?_
                refine opM_val (i := 8) (dst := (some 4)) (op := (Go.Op.assign (Go.Operand.tmp 52))) (by rfl) (fun _ _ _ => by go_simp; rfl) (.inr hS6) ?_
                (try simp only [Act.put, List.setIfInBounds_toArray, List.set_cons_zero, List.set_cons_succ])
                refine wpAnyM_done (by kernel_rfl) ?_ _
                refine NoPanic.normal ?_
                have HV6 := Lib.hid hv6
                have HU6 := Lib.hid hU06
                have k2 := hS6.2
                clear hv6 hU06 hU6 hob6 hS6 hS5 hU5 hv5
                by_cases hbig : 1048568 < (pre ++ encStep c).length
                · have D8 := Lib.hid (fun (q : List UInt8) (hq : pre ++ [1] ++ textB c.key ++ textB c.val = q) => show decide ((1048568 : Int) < (q.length : Int)) = true from by rw [← hq, show pre ++ [1] ++ textB c.key ++ textB c.val = pre ++ encStep c from by rw [E9.out]; simp]; simp only [decide_eq_true_eq]; omega)
                  have HBG := Lib.hid hbig
                  clear hbig
                  go_wp2_with (first | (go_at_call 142; refine (octet_Text _ c.val _ (HPW.out.upd0 HU6.out) HV30.out).mono ?_; rintro e w7 ⟨v7, rfl, hv7, hU7⟩) | ((with_reducible show wpList _ _ _ (⟨_, .call ⟨.builtin .append, _, _⟩, _, _, _, _⟩ :: _) _ _); refine wpl_append_by elU8 rfl rfl (HU6.out.trans0 hU7) (Own.upd0 HV6.out hU7) rfl hv7.by rfl HB3.out ?_; intro v8 w8 hv8 _ hU8 hb8; obtain ⟨ao8, cap8, hs8⟩ := By.val hv8.by; subst hs8; generalize hq8 : pre ++ [1] ++ textB c.key ++ textB c.val = q8 at hv8 ⊢; have hbt := D8.out q8 hq8; have HQ8 := Lib.hid hq8; have HV8 := Lib.hid hv8; have HU8 := Lib.hid hU8; clear hq8 hv8 hU8 hb8))
                  go_ret2
                  exact enc_big (q := q8) HE.out hnb (by rw [← HQ8.out, E9.out]; simp) (by rw [← HQ8.out, show pre ++ [1] ++ textB c.key ++ textB c.val = pre ++ encStep c from by rw [E9.out]; simp]; exact HBG.out) HU8.out
                · have D8 := Lib.hid (fun (q : List UInt8) (hq : pre ++ [1] ++ textB c.key ++ textB c.val = q) => show decide ((1048568 : Int) < (q.length : Int)) = false from by rw [← hq, show pre ++ [1] ++ textB c.key ++ textB c.val = pre ++ encStep c from by rw [E9.out]; simp]; simp only [decide_eq_false_iff_not]; omega)
                  have HBG := Lib.hid hbig
                  clear hbig
                  go_wp2_with (first | (go_at_call 142; refine (octet_Text _ c.val _ (HPW.out.upd0 HU6.out) HV30.out).mono ?_; rintro e w7 ⟨v7, rfl, hv7, hU7⟩) | ((with_reducible show wpList _ _ _ (⟨_, .call ⟨.builtin .append, _, _⟩, _, _, _, _⟩ :: _) _ _); refine wpl_append_by elU8 rfl rfl (HU6.out.trans0 hU7) (Own.upd0 HV6.out hU7) rfl hv7.by rfl HB3.out ?_; intro v8 w8 hv8 _ hU8 hb8; obtain ⟨ao8, cap8, hs8⟩ := By.val hv8.by; subst hs8; generalize hq8 : pre ++ [1] ++ textB c.key ++ textB c.val = q8 at hv8 ⊢; have hbt := D8.out q8 hq8; have HQ8 := Lib.hid hq8; have HV8 := Lib.hid hv8; have HU8 := Lib.hid hU8; clear hq8 hv8 hU8 hb8))
                  go_roundw
                  case rel => exact enc_ok (q := q8) HE.out hnb (by rw [← HQ8.out, E9.out]; simp) (by rw [← HQ8.out, show pre ++ [1] ++ textB c.key ++ textB c.val = pre ++ encStep c from by rw [E9.out]; simp]; exact HBG.out) HU8.out hlt HV8.out
                  case measure => simp [intOf]; omega
              --END 11
    · have htt : decide ((i : Int) < (l.length : Int)) = false := by simp; omega
      have hie : i = l.length := by omega
      have HFIN := Lib.hid (show EncPost w l (.returned (.tuple #[u4, .int .i64 0])) wr from by
        unfold EncPost
        rw [henc, hie, List.drop_length]
        exact ⟨_, rfl, hown, hU⟩)
      clear henc hpl hown
      go_wp2_with fail
      go_ret2
      exact HFIN.out
end Go.Proofs.YthfbfdkjgkkpcaaGreat

namespace Go.Proofs.YthfbfdkjgkkpcaaGreat
open Go Go.RowKit

theorem fill_row (sz : Nat) : ∀ (us : List Value) (k : Nat) (arr : Array Value) (acc : List Value), (∀ u ∈ us, u.cells.size = sz) → arr.size = (k + us.length) * sz → arr.toList.take (k * sz) = acc →
    Instr.fill (fun i => some (i * sz, sz)) arr ((us.zipIdx k).map fun p => (p.2, p.1)) = some (acc ++ us.flatMap (fun u => u.cells.toList)).toArray := by
  intro us
  induction us with
  | nil =>
    intro k arr acc _ hs ha
    simp only [List.length_nil, Nat.add_zero] at hs
    rw [List.take_of_length_le (by simp [hs])] at ha
    simp [Instr.fill, ← ha]
  | cons u us ih =>
    intro k arr acc hu hs ha
    have hsz : u.cells.size = sz := hu u (by simp)
    have hb : k * sz + sz ≤ arr.size := by
      rw [hs, List.length_cons, ← Nat.succ_mul]
      exact Nat.mul_le_mul_right _ (by omega)
    simp only [List.zipIdx_cons, List.map_cons, Instr.fill, hsz]
    rw [if_neg (by simp; omega)]
    have hf : (u.cells.zipIdx.foldl (fun (cs : Array Value) (x : Value × Nat) => cs.setIfInBounds (k * sz + x.2) x.1) arr) = u.cells.toList.zipIdx.foldl (fun (cs : Array Value) (p : Value × Nat) => cs.setIfInBounds (k * sz + p.2) p.1) arr := by
      rw [← Array.foldl_toList, Array.toList_zipIdx]
    have hget : ∀ i, (u.cells.zipIdx.foldl (fun (cs : Array Value) (x : Value × Nat) => cs.setIfInBounds (k * sz + x.2) x.1) arr)[i]? = if k * sz ≤ i ∧ i < k * sz + sz then u.cells.toList[i - k * sz]? else arr[i]? := by
      intro i
      rw [hf, fold_get u.cells.toList 0 (k * sz) arr (by simp [hsz]; omega) i]
      simp [hsz]
    have hsize : (u.cells.zipIdx.foldl (fun (cs : Array Value) (x : Value × Nat) => cs.setIfInBounds (k * sz + x.2) x.1) arr).size = arr.size := by
      rw [hf]
      generalize u.cells.toList.zipIdx = l
      clear hget hf hb ih ha hs
      induction l generalizing arr with
      | nil => rfl
      | cons p l ih2 => rw [List.foldl_cons, ih2]; simp
    have hih := ih (k + 1) _ (acc ++ u.cells.toList) (fun v hv => hu v (List.mem_cons_of_mem _ hv)) (by rw [hsize, hs, List.length_cons]; congr 1; omega) (by
      have hk1 : (k + 1) * sz = k * sz + sz := Nat.succ_mul k sz
      apply List.ext_getElem?
      intro i
      rw [List.getElem?_take, Array.getElem?_toList, hget i, hk1]
      have hacc : acc.length = k * sz := by rw [← ha]; simp; omega
      by_cases h1 : i < k * sz
      · rw [if_pos (by omega), if_neg (by omega), List.getElem?_append_left (by omega), ← ha, List.getElem?_take, if_pos h1, Array.getElem?_toList]
      · by_cases h2 : i < k * sz + sz
        · rw [if_pos h2, if_pos (by omega), List.getElem?_append_right (by omega), hacc]
        · rw [if_neg h2, List.getElem?_eq_none]
          simp [hacc, hsz]
          omega)
    rw [show (fun (cs : Array Value) (x : Value × Nat) => match x with | (c, j) => cs.setIfInBounds (k * sz + j) c) = fun (cs : Array Value) (x : Value × Nat) => cs.setIfInBounds (k * sz + x.2) x.1 from rfl]
    rw [hih]
    simp

section
variable {P : Program} {w : World} {ops : Array Oper} {Q : Exit → Act → World → Prop} {rest : List Oper} {o : Oper} {a : Act}
theorem run_litN {T e sz b : Nat} (hE : Elem P T e sz b) (us : List Value) (hc : ∀ u ∈ us, u.cells.size = sz) (h0 : us ≠ []) (hs : us.length * sz ≤ 16777216) :
    (Instr.buildSlice T us.length ((us.zipIdx 0).map fun p => (p.2, p.1)).toArray).run P w = .ok (.slice (some ⟨w.heap.size, 0, none⟩) us.length us.length) (w.alloc (.cells (us.flatMap (fun u => u.cells.toList)).toArray e)) := by
  obtain ⟨i, z, hi, hz, hsz, hby, hzs⟩ := hE.info
  have hp := hE.pos
  have hl : 0 < us.length := List.length_pos_iff.2 h0
  have hne : ¬ (us.length * sz = 0) := Nat.ne_of_gt (Nat.mul_pos hl hp)
  have hbig : ¬ (us.length * sz > 2 ^ 24) := by omega
  have hzero : (zeroValue e).run P w = .ok z w := by simp [zeroValue, typeInfo, hi, hz]
  have hf := fill_row sz us 0 ((Array.range (us.length * sz)).map (z.cells[· % z.cells.size]!)) [] hc (by simp) (by simp)
  simp only [Instr.buildSlice, Sem.run_bind, run_underlying hE.und, Result.andThen_ok, sizeOf_run hE w, if_neg hbig, if_neg hne, hzero, Sem.run_pure, hf, newRow, List.nil_append]
  rfl
theorem wpl_litN {T e sz b : Nat} (hE : Elem P T e sz b) (us : List Value) (hc : ∀ u ∈ us, u.cells.size = sz) (h0 : us ≠ []) (hs : us.length * sz ≤ 16777216) (hw : Region.wanted o (yielded ops a.tmps) = true) {n : Nat} {xs : Array (Nat × Operand)} (ho : o.op = .buildSlice T n xs) (hn : n = us.length)
    (hx : xs.map (fun p => (p.1, a.eval p.2)) = ((us.zipIdx 0).map fun p => (p.2, p.1)).toArray)
    (hK : wpList P ops Q rest (a.put o.dst (.slice (some ⟨w.heap.size, 0, none⟩) n n)) (w.alloc (.cells (us.flatMap (fun u => u.cells.toList)).toArray e))) : wpList P ops Q (o :: rest) a w := by
  subst hn
  have hr := run_litN (w := w) hE us hc h0 hs
  refine wpl_run hw (w' := w.alloc (.cells (us.flatMap (fun u => u.cells.toList)).toArray e)) ?_ hK
  rw [← hx] at hr
  simp [execOp, ho, hr, Result.andThen]
end
end Go.Proofs.YthfbfdkjgkkpcaaGreat

namespace Go.Proofs.YthfbfdkjgkkpcaaGreat
open Go Go.RowKit

theorem str_append (a b : List UInt8) : ((⟨a.toArray⟩ : ByteArray) ++ ⟨b.toArray⟩) = ⟨(a ++ b).toArray⟩ := by
  apply ByteArray.ext
  rw [ByteArray.data_append]
  simp
theorem journal_fresh (w : World) (s : List UInt8) (h : s.length ≤ 1000000) : Calls Tryz.prog 54 #[encS s] w fun e w' => e = .returned (encS (s ++ [43])) ∧ w = w' := by
  go_enter Tryz.func54, Tryz.ntmps54
  go_wp2_with fail
  go_ret
  exact ⟨congrArg (fun b => Ending.returned (Value.string b)) (str_append s [43]), rfl⟩

theorem elFn : Elem Tryz.prog 195 62 1 8 := ⟨by kernel_rfl, by omega, by
  obtain ⟨i, h1, h2, h3, h4⟩ := info_parts (P := Tryz.prog) (e := 62) (z := .nilFunc) (size := 1) (bytes := 8) (by kernel_rfl)
  exact ⟨i, _, h1, h2, h3, h4, rfl⟩⟩

theorem journal_open_1 (w : World) (d a b : Nat) (S : List Nat) (D : DSt) (h : DiskAt w d S D) (name : List UInt8) (hn : name.length ≤ 1000000) (hl : D.loose.length ≤ 1000000000) (hnow : D.now.length ≤ 9223372036854775807)
    (ha : w.cell? ⟨a, 0, none⟩ = some (.pointer (some ⟨d, 0, none⟩))) (hb : w.cell? ⟨b, 0, none⟩ = some (encS name)) :
    Calls Tryz.prog 57 #[.pointer (some ⟨a, 0, none⟩), .pointer (some ⟨b, 0, none⟩)] w (DPost w d S (D.create name)) := by
  have hc := disk_create w d S D h name (by omega) hl hnow
  generalize D.create name = r at hc ⊢
  clear h hl hnow hn
  go_enter Tryz.func57, Tryz.ntmps57
  go_wp2_with (go_at_call 58; refine hc.mono ?_; rintro e w1 ⟨rfl, hp⟩)
  go_ret
  exact ⟨rfl, hp⟩

/-- A new file: Create, Sync. -/
def DSt.openNew (D : DSt) (name : List UInt8) : DSt × Nat := if (D.create name).2 = 0 then (D.create name).1.sync else D.create name
theorem does_loose (D : DSt) (c : Chg) : (D.does c).1.loose.length ≤ D.loose.length + 1 := by unfold DSt.does; split <;> simp
theorem create_loose (D : DSt) (name : List UInt8) : (D.create name).1.loose.length ≤ D.loose.length + 1 := by
  unfold DSt.create
  repeat' split
  all_goals first | (simp; done) | exact does_loose _ _

theorem journal_steps2 (w : World) (d a b : Nat) (S : List Nat) (D : DSt) (h : DiskAt w d S D) (name : List UInt8) (hn : name.length ≤ 1000000) (hl : D.loose.length ≤ 999999999) (hnow : D.now.length ≤ 9223372036854775807)
    (ha : w.cell? ⟨a, 0, none⟩ = some (.pointer (some ⟨d, 0, none⟩))) (hb : w.cell? ⟨b, 0, none⟩ = some (encS name)) (v : Value)
    (hv : Rd w 62 1 v 2 [.func (.func 57) #[] #[.pointer (some ⟨a, 0, none⟩), .pointer (some ⟨b, 0, none⟩)], .func (.func 59) #[.pointer (some ⟨d, 0, none⟩)] #[]]) :
    Calls Tryz.prog 56 #[v] w (DPost w d S (D.openNew name)) := by
  have h1 := journal_open_1 w d a b S D h name hn (by omega) hnow ha hb
  obtain ⟨ao, cap, rfl, hcp⟩ := hv.shape
  have hsync : ∀ w1 S1, DiskAt w1 d S1 (D.create name).1 → Calls Tryz.prog 59 #[.pointer (some ⟨d, 0, none⟩)] w1 (DPost w1 d S1 (D.create name).1.sync) := by
    intro w1 S1 hD
    exact disk_sync w1 d S1 _ hD (by have := create_loose D name; omega)
  have HF := Lib.hid (show D.openNew name = if (D.create name).2 = 0 then (D.create name).1.sync else D.create name from rfl)
  have HSY := Lib.hid hsync
  have hoff : Off w 62 S := h.off (by decide) (by decide)
  clear hsync h hl hn hnow ha hb hcp
  generalize hr : D.create name = r at *
  obtain ⟨D1, k⟩ := r
  go_enter Tryz.func56, Tryz.ntmps56
  go_wp2_with fail
  refine wp_loop_rounds 3 ?_
  rw [rounds_succ]
  go_wp2_with (first
    | ((with_reducible show wpList _ _ _ (⟨_, .indexAddr _ _ _, _, _, _, _⟩ :: _) _ _); refine wpl_indexAddr1 elFn rfl rfl hv rfl rfl (by omega) (by omega) _ rfl ?_; intro ad hcell))
  refine h1.mono ?_
  rintro e w1 ⟨rfl, S1, hD1, hU1, hS1⟩
  by_cases hk : k = 0
  · subst hk
    have HF' := Lib.hid (show D.openNew name = D1.sync from by rw [HF.out]; rfl)
    have hv1 := hv.upd hU1 hoff
    have hsy := HSY.out w1 S1 hD1
    generalize D1.sync = r2 at *
    obtain ⟨D2, k2⟩ := r2
    clear HF HSY
    go_wp2_with fail
    rw [rounds_succ]
    go_wp2_with (first
      | ((with_reducible show wpList _ _ _ (⟨_, .indexAddr _ _ _, _, _, _, _⟩ :: _) _ _); refine wpl_indexAddr1 elFn rfl rfl hv1 rfl rfl (by omega) (by omega) _ rfl ?_; intro ad2 hcell2))
    refine hsy.mono ?_
    rintro e w2 ⟨rfl, S2, hD2, hU2, hS2⟩
    have HFIN := Lib.hid (show DPost w d S (D2, k2) (.returned (.int .i64 k2)) w2 from ⟨rfl, S2, hD2, hU1.sub hS1 hU2, hS1.trans hS2 hU1.size⟩)
    by_cases hk2 : k2 = 0
    · subst hk2
      go_wp2_with fail
      rw [rounds_succ]
      go_wp2_with fail
      go_ret
      rw [HF'.out]
      exact HFIN.out
    · have h2 : ((k2 : Int) == 0) = false := by simp; omega
      have h3 : ((k2 : Int) = 0) = False := by simp; omega
      go_wp2_with fail
      go_ret
      rw [HF'.out]
      exact HFIN.out
  · have h2 : ((k : Int) == 0) = false := by simp; omega
    have h3 : ((k : Int) = 0) = False := by simp; omega
    have HF' := Lib.hid (show D.openNew name = (D1, k) from by rw [HF.out, if_neg hk])
    go_wp2_with fail
    go_ret
    rw [HF'.out]
    exact ⟨rfl, S1, hD1, hU1, hS1⟩

def OpenNewPost (w : World) (d : Nat) (S : List Nat) (D : DSt) (name : List UInt8) (e : Ending) (w' : World) : Prop :=
  if (D.openNew name).2 = 0 then
    ∃ j S', e = .returned (.tuple #[.pointer (some ⟨j, 0, none⟩), .slice none 0 0, .int .i64 0]) ∧ w.heap.size ≤ j ∧ JAt w' d j (j :: S') ⟨(D.openNew name).1, name, 0⟩ ∧ Upd S w w' ∧ Sub w S S'
  else e = .returned (.tuple #[.pointer none, .slice none 0 0, .int .i64 (D.openNew name).2]) ∧ ∃ S', DiskAt w' d S' (D.openNew name).1 ∧ Upd S w w' ∧ Sub w S S'

theorem journal_open_new (w : World) (d : Nat) (S : List Nat) (D : DSt) (h : DiskAt w d S D) (name : List UInt8) (h1 : isName name = true) (h2 : isName (name ++ [43]) = true) (h3 : D.there name = 6) (hl : D.loose.length ≤ 999999999) (hnow : D.now.length ≤ 9223372036854775807) :
    Calls Tryz.prog 12 #[.pointer (some ⟨d, 0, none⟩), encS name] w (OpenNewPost w d S D name) := by
  have hmf : ∀ (fn : Fn) (first cap : Array Value) (w : World), (Instr.makeFunc fn first cap).run Tryz.prog w = .ok (.func fn first cap) w := fun _ _ _ _ => rfl
  have hn : name.length ≤ 160 := by unfold isName at h1; simp at h1; exact h1.2
  have hs : D.size name = (0, 6) := by unfold DSt.size; rw [h3]; rfl
  have hsz : ∀ W : World, Upd [] w W → Calls Tryz.prog 55 #[.pointer (some ⟨d, 0, none⟩), encS name] W fun e w' => e = .returned (.tuple #[.int .i64 0, .int .i64 6]) ∧ W = w' := by
    intro W hU
    have := disk_size W d S D (h.upd0 hU) name
    rw [hs] at this
    exact this
  have hnm1 : ∀ W : World, Calls Tryz.prog 53 #[encS name] W fun e w' => e = .returned (.bool true) ∧ W = w' := by
    intro W
    have := disk_isName W name (by omega)
    rw [h1] at this
    exact this
  have hnm2 : ∀ W : World, Calls Tryz.prog 53 #[encS (name ++ [43])] W fun e w' => e = .returned (.bool true) ∧ W = w' := by
    intro W
    have := disk_isName W (name ++ [43]) (by simp; omega)
    rw [h2] at this
    exact this
  have hfr := fun W => journal_fresh W name (by omega)
  have hst := fun (W : World) (a b : Nat) (v : Value) (hU : Upd [] w W) => journal_steps2 W d a b S D (h.upd0 hU) name (by omega) hl hnow (v := v)
  have HST := Lib.hid hst; have H := Lib.hid h
  clear hs hst h1 h2 h3 hl hnow h hn
  go_enter Tryz.func12, Tryz.ntmps12
  go_wp2_with fail
  refine (hnm1 _).mono ?_
  rintro e w1 ⟨rfl, rfl⟩
  go_wp2_with fail
  refine (hfr _).mono ?_
  rintro e w1 ⟨rfl, rfl⟩
  go_wp2_with fail
  refine (hnm2 _).mono ?_
  rintro e w1 ⟨rfl, rfl⟩
  go_wp2_with fail
  refine (hsz _ (by repeat first | exact Upd.refl _ _ | exact Upd.alloc [] _ _ | refine Upd.trans0 ?_ (Upd.alloc [] _ _))).mono ?_
  rintro e w1 ⟨rfl, rfl⟩
  go_wp2_with ((with_reducible show wpList _ _ _ (⟨_, .buildSlice _ _ _, _, _, _, _⟩ :: _) _ _); refine wpl_litN elFn [.func (.func 57) #[] #[.pointer (some ⟨w.heap.size, 0, none⟩), .pointer (some ⟨w.heap.size + 1, 0, none⟩)], .func (.func 59) #[.pointer (some ⟨d, 0, none⟩)] #[]] (by simp [Value.cells]) (by simp) (by simp) rfl rfl rfl rfl ?_)
  have hz1 : ∀ o : Obj, (w.alloc o).heap.size = w.heap.size + 1 := fun o => by simp
  generalize hW4 : (((w.alloc (Obj.cells #[Value.pointer (some { block := d, off := 0 })] 23)).alloc (Obj.cells #[encS name] 9)).alloc (Obj.cells #[Value.pointer (some { block := d, off := 0 }), encS name, Value.int IntKind.i64 0] 124)) = W3
  have hU3 : Upd [] w W3 := by rw [← hW4]; exact ((Upd.alloc [] _ _).trans0 (Upd.alloc [] _ _)).trans0 (Upd.alloc [] _ _)
  have hs3 : W3.heap.size = w.heap.size + 1 + 1 + 1 := by rw [← hW4]; simp
  have ha : W3.cell? ⟨w.heap.size, 0, none⟩ = some (.pointer (some ⟨d, 0, none⟩)) := by
    rw [← hW4, cell_lit _ _ 0 #[.pointer (some ⟨d, 0, none⟩)] 23 (0, 0)]
    · rfl
    · rw [heap_alloc_old _ _ (by simp; omega), heap_alloc_old _ _ (by simp)]
      exact heap_alloc_new w _
  have hb : W3.cell? ⟨w.heap.size + 1, 0, none⟩ = some (encS name) := by
    rw [← hW4, cell_lit _ _ 0 #[encS name] 9 (0, 0)]
    · rfl
    · rw [heap_alloc_old _ _ (by simp)]
      have := heap_alloc_new (w.alloc (Obj.cells #[Value.pointer (some { block := d, off := 0 })] 23)) (Obj.cells #[encS name] 9)
      rwa [hz1] at this
  have hj : W3.heap[w.heap.size + 1 + 1]? = some (Obj.cells #[Value.pointer (some { block := d, off := 0 }), encS name, Value.int IntKind.i64 0] 124) := by
    rw [← hW4]
    have := heap_alloc_new ((w.alloc (Obj.cells #[Value.pointer (some { block := d, off := 0 })] 23)).alloc (Obj.cells #[encS name] 9)) (Obj.cells #[Value.pointer (some { block := d, off := 0 }), encS name, Value.int IntKind.i64 0] 124)
    simp only [World.size_alloc] at this
    exact this
  have hU4 : ∀ o, Upd [] W3 (W3.alloc o) := fun o => Upd.alloc [] _ _
  have hv : Rd (W3.alloc (Obj.cells #[Value.func (Fn.func 57) #[] #[Value.pointer (some { block := w.heap.size, off := 0 }), Value.pointer (some { block := w.heap.size + 1, off := 0 })], Value.func (Fn.func 59) #[Value.pointer (some { block := d, off := 0 })] #[]] 62)) 62 1 (Value.slice (some { block := W3.heap.size, off := 0 }) 2 2) 2 _ :=
    Rd.new rfl (Nat.le_refl _) (by decide) rfl rfl
  rw [hs3] at hv
  refine (HST.out _ w.heap.size (w.heap.size + 1) _ (hU3.trans0 (hU4 _)) ((hU4 _).cell ha (by simp)) ((hU4 _).cell hb (by simp)) hv).mono ?_
  rintro e w5 ⟨rfl, S', hD5, hU5, hS5⟩
  have hU15 : Upd S w w5 := ((hU3.trans0 (hU4 _)).mono (T := S) (by simp)).trans hU5 (fun i hi _ => hi)
  have hS15 : Sub w S S' := fun k hk => (hS5 k hk).imp_right (fun h => Nat.le_trans (hU3.trans0 (hU4 _)).size h)
  have hjS : w.heap.size + 1 + 1 ∉ S := fun hm => by have := H.out.lt _ hm; omega
  have hj5 := hU5.get ((hU4 _).get hj (by simp)) hjS
  generalize hr : D.openNew name = r at *
  obtain ⟨D', k⟩ := r
  have HR := Lib.hid hr
  have HJ5 := Lib.hid hj5; have HD5 := Lib.hid hD5; have HU := Lib.hid hU15; have HSS := Lib.hid hS15
  clear hv hj hb ha hU4 hU5 hD5 hS5 hj5 hU15 hS15 hr HST hsz hnm1 hnm2 hfr hmf hW4
  by_cases hk : k = 0
  · subst hk
    go_wp2_with fail
    go_ret3
    unfold OpenNewPost
    rw [HR.out]
    refine ⟨w.heap.size + 1 + 1, S', rfl, by omega, ⟨S', rfl, HD5.out, HJ5.out⟩, HU.out, HSS.out⟩
  · have h2 : ((k : Int) == 0) = false := by simp; omega
    have h3 : ((k : Int) = 0) = False := by simp; omega
    go_wp2_with fail
    go_ret3
    unfold OpenNewPost
    rw [HR.out, if_neg hk]
    exact ⟨rfl, S', HD5.out, HU.out, HSS.out⟩
end Go.Proofs.YthfbfdkjgkkpcaaGreat

namespace Go.Proofs.YthfbfdkjgkkpcaaGreat
open Go Go.RowKit

def TSt.apply (T : TSt) (l : List TChg) : TSt × Nat :=
  if T.down then (T, 5)
  else if (encB l).2 ≠ 0 then ({ T with down := decide ((encB l).2 = 5) }, (encB l).2)
  else if (T.J.append (encB l).1).2 ≠ 0 then ({ T with J := (T.J.append (encB l).1).1, down := decide ((T.J.append (encB l).1).2 = 5) }, (T.J.append (encB l).1).2)
  else if (T.J.append (encB l).1).1.sync.2 ≠ 0 then ({ T with J := (T.J.append (encB l).1).1.sync.1, down := decide ((T.J.append (encB l).1).1.sync.2 = 5) }, (T.J.append (encB l).1).1.sync.2)
  else (⟨(T.J.append (encB l).1).1.sync.1, tdo T.m l, false⟩, 0)
def TPost (w : World) (d tb : Nat) (S : List Nat) (r : TSt × Nat) (e : Ending) (w' : World) : Prop :=
  e = .returned (.int .i64 r.2) ∧ ∃ S', TAt w' d tb S' r.1 ∧ Upd S w w' ∧ Sub w S S'

theorem table_shut {w w3 : World} {d tb jb mb k : Nat} {S S0 S0' : List Nat} {J : JSt} {m : List (List UInt8 × List UInt8)} {b : Bool} {q : Value} (hS : S = tb :: mb :: S0) (hmb : mb ∉ S0) (hlt : mb < w.heap.size) (hJ : JAt w3 d jb S0' J) (hM : MapB w3 mb m)
    (ht : w3.heap[tb]? = some (.cells #[.pointer (some ⟨jb, 0, none⟩), .map (some mb), q] 146 (0, 0))) (hU : Upd S w w3) (hsub : Sub w S0 S0') : TPost w d tb S (⟨J, m, b⟩, k) (.returned (.int .i64 k)) (w3.setCell ⟨tb, 2, none⟩ (.bool b)) := by
  have hUs : Upd [tb] w3 (w3.setCell ⟨tb, 2, none⟩ (.bool b)) := Upd.setCell _ _ _ (by simp)
  have off8 : Off w3 5 [tb] := Off.cons_cells ht (by decide) (Off.nil _ _)
  have hn : tb ∉ S0' := not_mem_off (hJ.off (e := 146) (by decide) (by decide) (by decide)) ht
  refine ⟨rfl, tb :: mb :: S0', ⟨jb, mb, S0', rfl, hsub.not_mem hlt hmb, hJ.upd hUs off8 (fun j hj => by simp; rintro rfl; exact hn hj), hM.upd hUs off8 (by simp; exact hM.ne_cells ht), ?_⟩, ?_, ?_⟩
  · rw [setCell_get ht]; rfl
  · exact hU.trans hUs (fun i hi _ => by simp at hi; subst hi; rw [hS]; simp)
  · intro j hj
    rw [hS]
    simp only [List.mem_cons] at hj ⊢
    rcases hj with rfl | rfl | hj
    · simp
    · simp
    · rcases hsub j hj with h | h
      · left; right; right; exact h
      · right; exact h
theorem JAt.off8 {w : World} {d j : Nat} {S : List Nat} {J : JSt} (h : JAt w d j S J) : Off w 5 S := h.off (by decide) (by decide) (by decide)
theorem encGo_err : ∀ (l : List TChg) (pre : List UInt8), (encGo pre l).2 ≠ 5
  | [], pre => by simp [encGo]
  | c :: r, pre => by
    unfold encGo
    split
    · simp
    split
    · simp
    · exact encGo_err r _
theorem encB_err (l : List TChg) : (encB l).2 ≠ 5 := by
  unfold encB
  split
  · simp
  · exact encGo_err _ _
theorem encGo_len : ∀ (l : List TChg) (pre : List UInt8), pre.length ≤ 1048568 → (encGo pre l).1.length ≤ 1048568
  | [], pre, h => h
  | c :: r, pre, h => by
    unfold encGo
    split
    · simp
    split
    · simp
    · rename_i h1; exact encGo_len r _ (by omega)
theorem encB_len (l : List TChg) : (encB l).1.length ≤ 1048568 := by
  unfold encB
  split
  · simp
  · rename_i h
    have := countB_len10 (n := l.length) ⟨by omega⟩
    exact encGo_len _ _ (by omega)
theorem append_loose (J : JSt) (p : List UInt8) : (J.append p).1.D.loose.length ≤ J.D.loose.length + 1 := by
  have hd : ∀ n q, (J.D.append n q).1.loose.length ≤ J.D.loose.length + 1 := by
    intro n q
    unfold DSt.append
    repeat' split
    all_goals first | (simp; done) | exact does_loose _ _
  unfold JSt.append
  repeat' split
  · simp
  · exact hd _ _
  · exact hd _ _

set_option maxRecDepth 100000 in
set_option maxHeartbeats 2000000 in
theorem table_apply (w : World) (d tb : Nat) (S : List Nat) (T : TSt) (h : TAt w d tb S T) (lv : Value) (l : List TChg) (hc : Chgs w lv l) (hll : l.length ≤ 1000000000) (hvl : ∀ c ∈ l, c.val.length ≤ 1073741824)
    (hlo : T.J.D.loose.length ≤ 999999999) (hsz : T.J.size ≤ 4611686018427387904) :
    Calls Tryz.prog 22 #[.pointer (some ⟨tb, 0, none⟩), lv] w (TPost w d tb S (T.apply l)) := by
  have hup := table_up w d tb S T h
  obtain ⟨jb, mb, S0, hS, hmb, hJ, hM, ht⟩ := h.ex
  have henc := table_encode w lv l hc hll
  by_cases hdn : T.down = true
  · rw [hdn] at hup
    have HP := Lib.hid (show TPost w d tb S (T.apply l) (.returned (.int .i64 (5 : Nat))) w from by
      have : T.apply l = (T, 5) := by unfold TSt.apply; rw [if_pos hdn]
      rw [this]
      exact ⟨rfl, S, h, Upd.refl _ _, Sub.refl _ _⟩)
    clear henc h hJ hM ht hc hll hvl hlo hsz
    go_enter Tryz.func22, Tryz.ntmps22
    go_wp2_with (go_at_call 81; refine hup.mono ?_; rintro e w1 ⟨rfl, rfl⟩)
    go_ret
    exact HP.out
  have hdn' : T.down = false := by simpa using hdn
  rw [hdn'] at hup ht
  have hne5 := encB_err l
  have hlen := encB_len l
  have hF : T.apply l = if (encB l).2 ≠ 0 then ({ T with down := decide ((encB l).2 = 5) }, (encB l).2)
      else if (T.J.append (encB l).1).2 ≠ 0 then ({ T with J := (T.J.append (encB l).1).1, down := decide ((T.J.append (encB l).1).2 = 5) }, (T.J.append (encB l).1).2)
      else if (T.J.append (encB l).1).1.sync.2 ≠ 0 then ({ T with J := (T.J.append (encB l).1).1.sync.1, down := decide ((T.J.append (encB l).1).1.sync.2 = 5) }, (T.J.append (encB l).1).1.sync.2)
      else (⟨(T.J.append (encB l).1).1.sync.1, tdo T.m l, false⟩, 0) := by unfold TSt.apply; rw [if_neg hdn]
  unfold EncPost at henc
  generalize hr : encB l = r at *
  obtain ⟨rec, k⟩ := r
  have c0 : w.cell? ⟨tb, 0, none⟩ = some (.pointer (some ⟨jb, 0, none⟩)) := by rw [cell_lit w tb 0 _ _ _ ht]; rfl
  have c2 : w.cell? ⟨tb, 2, none⟩ = some (.bool false) := by rw [cell_lit w tb 2 _ _ _ ht]; rfl
  have f2 := frozen_lit w tb 2 _ _ ht
  have hn0 : tb ∉ S0 := not_mem_off (hJ.off (e := 146) (by decide) (by decide) (by decide)) ht
  have hmlt := hM.lt
  have HS := Lib.hid hS; have HMB := Lib.hid hmb; have HJ := Lib.hid hJ; have HM := Lib.hid hM; have HT := Lib.hid ht
  by_cases hk : k ≠ 0
  · have h1 : ((k : Int) == 0) = false := by simp; omega
    have h2 : ((k : Int) = 0) = False := by simp; omega
    have h3 : decide ((k : Int) = 5) = false := by simp; omega
    have h4 : ((k : Int) == 5) = false := by simp; omega
    have HP := Lib.hid (show ∀ w3, Upd [] w w3 → TPost w d tb S (T.apply l) (.returned (.int .i64 k)) (w3.setCell ⟨tb, 2, none⟩ (.bool false)) from by
      intro w3 hU
      rw [hF, if_pos hk, show decide (k = 5) = false from by simpa using hne5]
      exact table_shut HS.out HMB.out hmlt (HJ.out.upd0 hU) (HM.out.upd hU (Off.nil _ _) (by simp)) (hU.get HT.out (by simp)) (hU.mono (by simp)) (Sub.refl _ _))
    clear hr hlen hvl hlo hsz hll hc h hF hJ hM ht hS
    go_enter Tryz.func22, Tryz.ntmps22
    go_wp2_with (first
      | (go_at_call 81; refine hup.mono ?_; rintro e w1 ⟨rfl, rfl⟩)
      | (go_at_call 82; refine henc.mono ?_; rintro e w1 ⟨v1, rfl, hv1, hU1⟩; (have c2' := hU1.cell c2 (by simp)); (have f2' := frozen_lit w1 tb 2 _ _ (hU1.get HT.out (by simp)))))
    go_ret
    exact HP.out w1 hU1
  have hk : k = 0 := Classical.not_not.1 hk
  subst hk
  rw [if_neg (by simp)] at hF
  have hap := fun (w1 : World) (v1 : Value) (hU : Upd [] w w1) (hv : By w1 v1 rec) => journal_append w1 d jb S0 T.J (hJ.upd0 hU) v1 rec hv.x (by dsimp only at hlen; omega) (by omega) hsz
  have hal := append_loose T.J rec
  have HAP := Lib.hid hap
  clear hap
  dsimp only at hF
  generalize hr2 : T.J.append rec = r2 at *
  obtain ⟨J2, k2⟩ := r2
  by_cases hk2 : k2 ≠ 0
  · have h1 : ((k2 : Int) == 0) = false := by simp; omega
    have h2 : ((k2 : Int) = 0) = False := by simp; omega
    generalize hq : decide (k2 = 5) = q at hF
    have h3 : ((k2 : Int) == 5) = q := by rw [← hq]; by_cases h5 : k2 = 5 <;> simp [h5]; omega
    have h4 : decide ((k2 : Int) = 5) = q := by rw [← hq]; by_cases h5 : k2 = 5 <;> simp [h5]; omega
    have HP := Lib.hid (show ∀ w3 S0', JAt w3 d jb S0' J2 → Upd S0 w w3 → Sub w S0 S0' → TPost w d tb S (T.apply l) (.returned (.int .i64 k2)) (w3.setCell ⟨tb, 2, none⟩ (.bool q)) from by
      intro w3 S0' hJ3 hU hsub
      rw [hF, if_pos hk2]
      exact table_shut HS.out HMB.out hmlt hJ3 (HM.out.upd hU HJ.out.off8 HMB.out) (hU.get HT.out hn0) (hU.mono (fun i hi _ => by rw [HS.out]; simp [hi])) hsub)
    have HH4 := Lib.hid h4
    clear hr hlen hvl hlo hsz hll hc h hF hJ hM ht hS hr2 hal hk2 hq
    go_enter Tryz.func22, Tryz.ntmps22
    go_wp2_with (first
      | (go_at_call 81; refine hup.mono ?_; rintro e w1 ⟨rfl, rfl⟩)
      | (go_at_call 82; refine henc.mono ?_; rintro e w1 ⟨v1, rfl, hv1, hU1⟩; (have c0' := hU1.cell c0 (by simp)))
      | (go_at_call 15; refine (HAP.out w1 v1 hU1 hv1.by).mono ?_; rintro e w2 ⟨rfl, S2, hJ2, hU2, hS2⟩; (have hU12 : Upd S0 w w2 := (hU1.mono (T := S0) (by simp)).trans hU2 (fun i hi _ => hi)); (have c2' := hU12.cell c2 hn0); (have f2' := frozen_lit w2 tb 2 _ _ (hU12.get HT.out hn0))))
    go_ret
    have hsub : Sub w S0 S2 := fun j hj => (hS2 j hj).imp_right (fun h => Nat.le_trans hU1.size h)
    first | exact HP.out w2 S2 hJ2 hU12 hsub | (rw [HH4.out]; exact HP.out w2 S2 hJ2 hU12 hsub)
  have hk2 : k2 = 0 := Classical.not_not.1 hk2
  subst hk2
  rw [if_neg (by simp)] at hF
  dsimp only at hF
  have hsy := fun (w2 : World) (S2 : List Nat) (hJ2 : JAt w2 d jb S2 J2) => journal_sync w2 d jb S2 J2 hJ2 (by dsimp only at hal; omega)
  have HSY := Lib.hid hsy
  clear hsy
  generalize hr3 : J2.sync = r3 at *
  obtain ⟨J3, k3⟩ := r3
  by_cases hk3 : k3 ≠ 0
  · have h1 : ((k3 : Int) == 0) = false := by simp; omega
    have h2 : ((k3 : Int) = 0) = False := by simp; omega
    generalize hq : decide (k3 = 5) = q at hF
    have h3 : ((k3 : Int) == 5) = q := by rw [← hq]; by_cases h5 : k3 = 5 <;> simp [h5]; omega
    have h4 : decide ((k3 : Int) = 5) = q := by rw [← hq]; by_cases h5 : k3 = 5 <;> simp [h5]; omega
    have HP := Lib.hid (show ∀ w3 S0', JAt w3 d jb S0' J3 → Upd S0 w w3 → Sub w S0 S0' → TPost w d tb S (T.apply l) (.returned (.int .i64 k3)) (w3.setCell ⟨tb, 2, none⟩ (.bool q)) from by
      intro w3 S0' hJ3 hU hsub
      rw [hF, if_pos hk3]
      exact table_shut HS.out HMB.out hmlt hJ3 (HM.out.upd hU HJ.out.off8 HMB.out) (hU.get HT.out hn0) (hU.mono (fun i hi _ => by rw [HS.out]; simp [hi])) hsub)
    have HH4 := Lib.hid h4
    clear hr hlen hvl hlo hsz hll hc h hF hJ hM ht hS hr2 hal hk3 hq hr3
    go_enter Tryz.func22, Tryz.ntmps22
    go_wp2_with (first
      | (go_at_call 81; refine hup.mono ?_; rintro e w1 ⟨rfl, rfl⟩)
      | (go_at_call 82; refine henc.mono ?_; rintro e w1 ⟨v1, rfl, hv1, hU1⟩; (have c0' := hU1.cell c0 (by simp)))
      | (go_at_call 15; refine (HAP.out w1 v1 hU1 hv1.by).mono ?_; rintro e w2 ⟨rfl, S2, hJ2, hU2, hS2⟩; (have hU12 : Upd S0 w w2 := (hU1.mono (T := S0) (by simp)).trans hU2 (fun i hi _ => hi)); (have hsub : Sub w S0 S2 := fun j hj => (hS2 j hj).imp_right (fun h => Nat.le_trans hU1.size h)); (have c0'' := hU12.cell c0 hn0))
      | (go_at_call 83; refine (HSY.out w2 S2 hJ2).mono ?_; rintro e w3 ⟨rfl, S3, hJ3, hU3, hS3⟩; (have hU13 := hU12.sub hsub hU3); (have hsub3 := hsub.trans hS3 hU12.size); (have c2' := hU13.cell c2 hn0); (have f2' := frozen_lit w3 tb 2 _ _ (hU13.get HT.out hn0))))
    go_ret
    first | exact HP.out w3 S3 hJ3 hU13 hsub3 | (rw [HH4.out]; exact HP.out w3 S3 hJ3 hU13 hsub3)
  have hk3 : k3 = 0 := Classical.not_not.1 hk3
  subst hk3
  rw [if_neg (by simp)] at hF
  dsimp only at hF
  have hdo := fun (w3 : World) (hU : Upd S0 w w3) => table_do w3 tb jb mb T.m (.bool false) (hM.upd hU hJ.off8 hmb) (hU.get ht hn0) lv l (hc.upd hU hJ.off8 (hJ.off (by decide) (by decide) (by decide))) hll hvl
  have HDO := Lib.hid hdo
  have HP := Lib.hid (show ∀ w3 w4 S0', JAt w3 d jb S0' J3 → Upd S0 w w3 → Sub w S0 S0' → Upd [mb] w3 w4 → MapB w4 mb (tdo T.m l) → TPost w d tb S (T.apply l) (.returned (.int .i64 (0 : Nat))) (w4.setCell ⟨tb, 2, none⟩ (.bool false)) from by
    intro w3 w4 S0' hJ3 hU hsub hU4 hM4
    rw [hF]
    have hm3 := HM.out.upd hU HJ.out.off8 HMB.out
    have htm : tb ∉ [mb] := by simp; exact (hm3.ne_cells (hU.get HT.out hn0)).symm
    exact table_shut HS.out HMB.out hmlt (hJ3.upd hU4 (hm3.off (Off.nil _ _)) (fun j hj => by simp; rintro rfl; exact hsub.not_mem hmlt HMB.out hj)) hM4 (hU4.get (hU.get HT.out hn0) htm) ((hU.mono (fun i hi _ => by rw [HS.out]; simp [hi])).trans hU4 (fun i hi _ => by simp at hi; subst hi; rw [HS.out]; simp)) hsub)
  have hmt : tb ≠ mb := (hM.ne_cells ht).symm
  clear hr hlen hvl hlo hsz hll hc h hF hJ hM ht hS hr2 hal hr3 hdo
  go_enter Tryz.func22, Tryz.ntmps22
  go_wp2_with (first
    | (go_at_call 81; refine hup.mono ?_; rintro e w1 ⟨rfl, rfl⟩)
    | (go_at_call 82; refine henc.mono ?_; rintro e w1 ⟨v1, rfl, hv1, hU1⟩; (have c0' := hU1.cell c0 (by simp)))
    | (go_at_call 15; refine (HAP.out w1 v1 hU1 hv1.by).mono ?_; rintro e w2 ⟨rfl, S2, hJ2, hU2, hS2⟩; (have hU12 : Upd S0 w w2 := (hU1.mono (T := S0) (by simp)).trans hU2 (fun i hi _ => hi)); (have hsub : Sub w S0 S2 := fun j hj => (hS2 j hj).imp_right (fun h => Nat.le_trans hU1.size h)); (have c0'' := hU12.cell c0 hn0))
    | (go_at_call 83; refine (HSY.out w2 S2 hJ2).mono ?_; rintro e w3 ⟨rfl, S3, hJ3, hU3, hS3⟩; (have hU13 := hU12.sub hsub hU3); (have hsub3 := hsub.trans hS3 hU12.size))
    | (go_at_call 76; refine (HDO.out w3 hU13).mono ?_; rintro e w4 ⟨rfl, hU4, hM4⟩; (have hg4 := hU4.get (hU13.get HT.out hn0) (by simp; exact hmt)); (have c2' : w4.cell? ⟨tb, 2, none⟩ = some (.bool false) := by rw [cell_lit w4 tb 2 _ _ _ hg4]; rfl); (have f2' := frozen_lit w4 tb 2 _ _ hg4)))
  go_ret
  exact HP.out w3 w4 S3 hJ3 hU13 hsub3 hU4 hM4
end Go.Proofs.YthfbfdkjgkkpcaaGreat

namespace Go.Proofs.YthfbfdkjgkkpcaaGreat
open Go Go.RowKit

theorem Own.off {w : World} {B e sz : Nat} {v : Value} {n : Nat} {xs : List Value} (h : w.ownsRow B e sz v n xs) {e' : TypeId} (hne : e ≠ e') : Off w e' v.ownBlock.toList := by
  rcases h.2 with ⟨rfl, _⟩ | ⟨g, cap, cur, rfl, _, hg, _⟩
  · exact Off.nil _ _
  · exact Off.cons_cells hg hne (Off.nil _ _)
/-- The cells of pairs. -/
def PCells (w : World) : List Value → List (List UInt8 × List UInt8) → Prop
  | [], [] => True
  | k :: v :: r, p :: l => k = encS p.1 ∧ By w v p.2 ∧ PCells w r l
  | _, _ => False
theorem PCells.upd {S : List Nat} {w w' : World} (hU : Upd S w w') (hS : Off w 5 S) : ∀ {cs : List Value} {l : List (List UInt8 × List UInt8)}, PCells w cs l → PCells w' cs l
  | [], [], _ => trivial
  | _ :: _ :: _, _ :: _, h => ⟨h.1, h.2.1.upd hU hS, PCells.upd hU hS h.2.2⟩
theorem PCells.len {w : World} : ∀ {cs : List Value} {l : List (List UInt8 × List UInt8)}, PCells w cs l → cs.length = l.length * 2
  | [], [], _ => rfl
  | _ :: _ :: _, _ :: _, h => by have := PCells.len h.2.2; simp only [List.length_cons]; omega
theorem PCells.append {w : World} {ds : List Value} {m : List (List UInt8 × List UInt8)} (hd : PCells w ds m) : ∀ {cs : List Value} {l : List (List UInt8 × List UInt8)}, PCells w cs l → PCells w (cs ++ ds) (l ++ m)
  | [], [], _ => hd
  | _ :: _ :: _, _ :: _, h => ⟨h.1, h.2.1, PCells.append hd h.2.2⟩
theorem PCells.get {w : World} : ∀ {cs : List Value} {l : List (List UInt8 × List UInt8)}, PCells w cs l → ∀ {i : Nat} {p : List UInt8 × List UInt8}, l[i]? = some p →
    ∃ pv, cs[i * 2 + 0]? = some (encS p.1) ∧ cs[i * 2 + 1]? = some pv ∧ By w pv p.2
  | [], [], _, _, _, h => by simp at h
  | k :: a :: r, p0 :: l, hc, 0, c, h => by
    simp only [List.getElem?_cons_zero, Option.some.injEq] at h
    subst h
    obtain ⟨rfl, hp, _⟩ := hc
    exact ⟨a, rfl, rfl, hp⟩
  | k :: a :: r, p0 :: l, hc, i + 1, c, h => by
    simp only [List.getElem?_cons_succ] at h
    obtain ⟨pv, h0, h1, h4⟩ := PCells.get hc.2.2 h
    refine ⟨pv, ?_, ?_, h4⟩
    · rw [show (i + 1) * 2 + 0 = (i * 2 + 0) + 2 by omega]; simpa using h0
    · rw [show (i + 1) * 2 + 1 = (i * 2 + 1) + 2 by omega]; simpa using h1
theorem PCells.take {w : World} : ∀ {cs : List Value} {l : List (List UInt8 × List UInt8)}, PCells w cs l → ∀ (i : Nat), PCells w (cs.take (i * 2)) (l.take i)
  | [], [], _, i => by simp; trivial
  | k :: a :: r, p0 :: l, hc, 0 => by simp; trivial
  | k :: a :: r, p0 :: l, hc, i + 1 => by
    rw [show (i + 1) * 2 = i * 2 + 1 + 1 from by omega]
    exact ⟨hc.1, hc.2.1, PCells.take hc.2.2 i⟩
theorem TCells.append {w : World} {ds : List Value} {m : List TChg} (hd : TCells w ds m) : ∀ {cs : List Value} {l : List TChg}, TCells w cs l → TCells w (cs ++ ds) (l ++ m)
  | [], [], _ => hd
  | _ :: _ :: _ :: _, _ :: _, h => ⟨h.1, h.2.1, h.2.2.1, TCells.append hd h.2.2.2⟩
/-- A slice that reads as pairs; the call's own one. -/
def Prs (w : World) (v : Value) (l : List (List UInt8 × List UInt8)) : Prop := ∃ cells, Rd w 165 2 v l.length cells ∧ PCells w cells l
def OwnPrs (w : World) (B : Nat) (v : Value) (l : List (List UInt8 × List UInt8)) : Prop := ∃ cells, w.ownsRow B 165 2 v l.length cells ∧ PCells w cells l
theorem OwnPrs.prs {w : World} {B : Nat} {v : Value} {l : List (List UInt8 × List UInt8)} (h : OwnPrs w B v l) : Prs w v l := by
  obtain ⟨cells, h1, h2⟩ := h
  exact ⟨cells, Rd.of_own h1, h2⟩
theorem OwnPrs.upd0 {w w' : World} {B : Nat} {v : Value} {l : List (List UInt8 × List UInt8)} (h : OwnPrs w B v l) (hU : Upd [] w w') : OwnPrs w' B v l := by
  obtain ⟨cells, h1, h2⟩ := h
  exact ⟨cells, Own.upd0 h1 hU, h2.upd hU (Off.nil _ _)⟩
theorem OwnPrs.mono {w : World} {B B' : Nat} {v : Value} {l : List (List UInt8 × List UInt8)} (h : OwnPrs w B v l) (hB : B' ≤ B) : OwnPrs w B' v l := by
  obtain ⟨cells, h1, h2⟩ := h
  exact ⟨cells, Own.mono h1 hB, h2⟩
theorem OwnPrs.nil (w : World) (B : Nat) : OwnPrs w B (.slice none 0 0) [] := ⟨[], World.ownsRow_nil _ _ _ _, trivial⟩
theorem Prs.upd {S : List Nat} {w w' : World} {v : Value} {l : List (List UInt8 × List UInt8)} (h : Prs w v l) (hU : Upd S w w') (h1 : Off w 5 S) (h2 : Off w 165 S) : Prs w' v l := by
  obtain ⟨cells, ha, hb⟩ := h
  exact ⟨cells, ha.upd hU h2, hb.upd hU h1⟩
theorem Prs.upd0 {w w' : World} {v : Value} {l : List (List UInt8 × List UInt8)} (h : Prs w v l) (hU : Upd [] w w') : Prs w' v l := h.upd hU (Off.nil _ _) (Off.nil _ _)
theorem Prs.nil (w : World) : Prs w (.slice none 0 0) [] := ⟨[], Rd.nil _ _ _, trivial⟩
theorem Prs.shape {w : World} {v : Value} {l : List (List UInt8 × List UInt8)} (h : Prs w v l) : ∃ ao cap, v = .slice ao l.length cap := by
  obtain ⟨cells, h1, _⟩ := h
  obtain ⟨ao, cap, h2, _⟩ := h1.shape
  exact ⟨ao, cap, h2⟩
section
variable {P : Program} {ops : Array Oper} {Q : Exit → Act → World → Prop} {a : Act} {w : World} {rest : List Oper} {o : Oper}
theorem addr_none {w : World} {ad : Addr} {u : Value} (h : w.cell? ad = some u) : ad.spot = none := by
  unfold World.cell? at h
  split at h
  · split at h
    · cases h
    · rename_i hs; simpa using hs
  · cases h
theorem Rdx.at {sz n cap : Nat} {ao : Option Addr} {xs : List Value} (hR : Rdx w sz (.slice ao n cap) n xs) (h0 : 0 < xs.length) : ∃ b off, ao = some ⟨b, off, none⟩ ∧ ∀ j u, xs[j]? = some u → w.cell? ⟨b, off + j, none⟩ = some u := by
  rcases hR.2.2 with ⟨hv, hn⟩ | ⟨ad, cap', hv, h2, h3⟩
  · rw [hR.1, hn] at h0; simp at h0
  · cases hv
    have h4 := h3 0 _ (List.getElem?_eq_getElem h0)
    rw [show ad.add 0 = ad from by simp [Addr.add]] at h4
    have hnone := addr_none h4
    obtain ⟨bl, off, sp⟩ := ad
    cases hnone
    exact ⟨bl, off, rfl, fun j u hj => by have := h3 j u hj; rwa [Addr.add_lit] at this⟩
theorem run_indexAtX {T e sz b : Nat} (hE : Elem P T e sz b) {v : Value} {n : Nat} {xs : List Value} (hR : Rdx w sz v n xs) (k : IntKind) (i : Int) (h0 : 0 ≤ i) (h1 : i < n) :
    ∃ ad, (Instr.indexAt T v (.int k i)).run P w = .ok (.pointer (some ad)) w ∧ (∀ j, j < sz → w.cell? (ad.add j) = xs[i.toNat * sz + j]?) ∧ ad.spot = none := by
  rcases hR.2.2 with ⟨rfl, h2⟩ | ⟨ad, cap, rfl, h2, h3⟩
  · omega
  · have hlt : ∀ j, j < sz → i.toNat * sz + j < xs.length := by
      intro j hj
      have hn : i.toNat + 1 ≤ n := by omega
      have := Nat.mul_le_mul_right sz hn
      rw [Nat.add_mul, Nat.one_mul] at this
      rw [hR.1]; omega
    have hp := hE.pos
    have hnone : ad.spot = none := by
      have hx0 : 0 < xs.length := by have := hlt 0 hp; omega
      have h4 : xs[0]? = some xs[0] := List.getElem?_eq_getElem hx0
      have := h3 0 _ h4
      rw [show ad.add 0 = ad from by simp [Addr.add]] at this
      exact addr_none this
    obtain ⟨bl, off, sp⟩ := ad
    cases hnone
    refine ⟨⟨bl, off + i.toNat * sz, none⟩, ?_, ?_, rfl⟩
    · have hs := sizeOf_run hE w
      simp only [Instr.indexAt, asIntOf, Sem.run_bind, Sem.run_pure, Result.andThen_ok, run_underlying hE.und]
      simp only [h0, h1, and_self, if_true, Sem.run_bind, hs, Result.andThen_ok, Sem.run_pure, Addr.add_lit]
    · intro j hj
      have h5 := List.getElem?_eq_getElem (hlt j hj)
      have := h3 _ _ h5
      rw [Addr.add_lit] at this ⊢
      rw [Nat.add_assoc, this, h5]
theorem wpl_indexAddrX {T e sz b : Nat} (hE : Elem P T e sz b) (hw : Region.wanted o (yielded ops a.tmps) = true) {x ix : Operand} (ho : o.op = .indexAddr T x ix)
    {v : Value} {n : Nat} {xs : List Value} (hR : Rdx w sz v n xs) (hx : a.eval x = v) {k : IntKind} {i : Int} (hi : a.eval ix = .int k i) (h0 : 0 ≤ i) (h1 : i < n)
    (h : ∀ ad, (∀ j, j < sz → w.cell? (ad.add j) = xs[i.toNat * sz + j]?) → ad.spot = none → wpList P ops Q rest (a.put o.dst (.pointer (some ad))) w) : wpList P ops Q (o :: rest) a w := by
  obtain ⟨ad, hr, hc, hs⟩ := run_indexAtX (w := w) hE hR k i h0 h1
  refine wpl_run hw (v := .pointer (some ad)) (w' := w) ?_ (h ad hc hs)
  simp [execOp, ho, hx, hi, hr, Sem.run_bind, Result.andThen]
theorem wpl_indexAddr1X {T e b : Nat} (hE : Elem P T e 1 b) (hw : Region.wanted o (yielded ops a.tmps) = true) {x ix : Operand} (ho : o.op = .indexAddr T x ix)
    {v : Value} {n : Nat} {xs : List Value} (hR : Rdx w 1 v n xs) (hx : a.eval x = v) {k : IntKind} {i : Int} (hi : a.eval ix = .int k i) (h0 : 0 ≤ i) (h1 : i < n) (u : Value) (hu : xs[i.toNat]? = some u)
    (h : ∀ ad, w.cell? ad = some u → wpList P ops Q rest (a.put o.dst (.pointer (some ad))) w) : wpList P ops Q (o :: rest) a w := by
  refine wpl_indexAddrX hE hw ho hR hx hi h0 h1 fun ad hc hs => h ad ?_
  have := hc 0 (by omega)
  rw [Nat.mul_one, Nat.add_zero, hu] at this
  simpa [Addr.add] using this
end
/-- The document's changes: the cells, and a slice of them. -/
def XCells (w : World) : List Value → List TChg → Prop
  | [], [] => True
  | k :: g :: v :: r, c :: l => k = encS c.key ∧ g = .bool c.gone ∧ ByX w v c.val ∧ XCells w r l
  | _, _ => False
theorem XCells.upd0 {w w' : World} (hU : Upd [] w w') : ∀ {cs : List Value} {l : List TChg}, XCells w cs l → XCells w' cs l
  | [], [], _ => trivial
  | _ :: _ :: _ :: _, _ :: _, h => ⟨h.1, h.2.1, h.2.2.1.upd0 hU, XCells.upd0 hU h.2.2.2⟩
theorem XCells.get {w : World} : ∀ {cs : List Value} {l : List TChg}, XCells w cs l → ∀ {i : Nat} {c : TChg}, l[i]? = some c →
    ∃ pv, cs[i * 3 + 0]? = some (encS c.key) ∧ cs[i * 3 + 1]? = some (.bool c.gone) ∧ cs[i * 3 + 2]? = some pv ∧ ByX w pv c.val
  | [], [], _, _, _, h => by simp at h
  | k :: a :: b :: r, c0 :: l, hc, 0, c, h => by
    simp only [List.getElem?_cons_zero, Option.some.injEq] at h
    subst h
    obtain ⟨rfl, rfl, hp, _⟩ := hc
    exact ⟨b, rfl, rfl, rfl, hp⟩
  | k :: a :: b :: r, c0 :: l, hc, i + 1, c, h => by
    simp only [List.getElem?_cons_succ] at h
    obtain ⟨pv, h0, h1, h2, h4⟩ := XCells.get hc.2.2.2 h
    refine ⟨pv, ?_, ?_, ?_, h4⟩
    · rw [show (i + 1) * 3 + 0 = (i * 3 + 0) + 3 by omega]; simpa using h0
    · rw [show (i + 1) * 3 + 1 = (i * 3 + 1) + 3 by omega]; simpa using h1
    · rw [show (i + 1) * 3 + 2 = (i * 3 + 2) + 3 by omega]; simpa using h2
def RChgs (w : World) (v : Value) (l : List TChg) : Prop := ∃ cells, Rdx w 3 v l.length cells ∧ XCells w cells l
theorem RChgs.upd0 {w w' : World} {v : Value} {l : List TChg} (h : RChgs w v l) (hU : Upd [] w w') : RChgs w' v l := by
  obtain ⟨cells, ha, hb⟩ := h
  exact ⟨cells, ha.upd0 hU, hb.upd0 hU⟩
theorem RChgs.shape {w : World} {v : Value} {l : List TChg} (h : RChgs w v l) : ∃ ao cap, v = .slice ao l.length cap := by
  obtain ⟨cells, h1, _⟩ := h
  obtain ⟨ao, cap, h2, _⟩ := h1.shape
  exact ⟨ao, cap, h2⟩
theorem elPair : Elem Tryz.prog 46 165 2 40 := ⟨by kernel_rfl, by omega, by
  obtain ⟨i, h1, h2, h3, h4⟩ := info_parts (P := Tryz.prog) (e := 165) (z := .agg #[.string ⟨#[]⟩, .slice none 0 0]) (size := 2) (bytes := 40) (by kernel_rfl)
  exact ⟨i, _, h1, h2, h3, h4, rfl⟩⟩
theorem elRChg : Elem Tryz.prog 52 72 3 48 := ⟨by kernel_rfl, by omega, by
  obtain ⟨i, h1, h2, h3, h4⟩ := info_parts (P := Tryz.prog) (e := 72) (z := .agg #[.string ⟨#[]⟩, .bool false, .slice none 0 0]) (size := 3) (bytes := 48) (by kernel_rfl)
  exact ⟨i, _, h1, h2, h3, h4, rfl⟩⟩
end Go.Proofs.YthfbfdkjgkkpcaaGreat

namespace Go.Proofs.YthfbfdkjgkkpcaaGreat
open Go Go.RowKit

def TwinRel (w : World) (l : List UInt8) (x v : Value) (wr : World) : Prop := ∃ i : Nat, x = .int .i64 i ∧ i ≤ l.length ∧ OwnBy wr w.heap.size v (l.take i) ∧ Upd [] w wr
theorem ref_Twin (w : World) (p : Value) (l : List UInt8) (hp : ByX w p l) (hl : l.length ≤ 1000000000) :
    Calls Tryz.prog 48 #[p] w (RetBy w l) := by
  obtain ⟨ao, cap, rfl, _⟩ := hp.shape
  have HL := Lib.hid hl; clear hl
  go_enter Tryz.func48, Tryz.ntmps48
  go_wp2_with fail
  go_loopw [4, 3] (fun x v wr => TwinRel w l x v wr) (fun x _ _ => l.length - (intOf x).toNat)
  case atStart => exact ⟨0, rfl, Nat.zero_le _, World.ownsRow_nil _ _ _ _, Upd.refl _ _⟩
  case round =>
    obtain ⟨i, rfl, hi, hown, hU⟩ := hrel
    have hll := HL.out
    by_cases hlt : i < l.length
    · have htt : decide ((i : Int) < (l.length : Int)) = true := by simp; omega
      obtain ⟨b, hb⟩ : ∃ b, l[i]? = some b := ⟨_, List.getElem?_eq_getElem hlt⟩
      have hR : ByX wr (.slice ao l.length cap) l := hp.upd0 hU
      have hu : (l.map enc)[(i : Int).toNat]? = some (enc b) := by simp [hb]
      have htk : l.take (i + 1) = l.take i ++ [b] := by rw [List.take_add_one, hb]; rfl
      have HTK := Lib.hid htk
      clear htk
      go_wp2_with (first
        | ((with_reducible show wpList _ _ _ (⟨_, .indexAddr _ _ _, _, _, _, _⟩ :: _) _ _); refine wpl_indexAddr1X elU8 rfl rfl hR rfl rfl (by omega) (by omega) _ hu ?_; intro ad hcell)
        | ((with_reducible show wpList _ _ _ (⟨_, .buildSlice _ _ _, _, _, _, _⟩ :: _) _ _); refine wpl_lit_byte b elU8 rfl rfl rfl ?_; intro v1 w1 hv1 hU1 hb1)
        | ((with_reducible show wpList _ _ _ (⟨_, .call ⟨.builtin .append, _, _⟩, _, _, _, _⟩ :: _) _ _); refine wpl_append_by elU8 rfl rfl (hU.trans0 hU1) (Own.upd0 hown hU1) rfl hv1.by rfl (by have := HL.out; simp; omega) ?_; intro v2 w2 hv2 _ hU2 hb2))
      exact ⟨⟨i + 1, by simp, hlt, by rw [HTK.out]; exact hv2, hU2⟩, by simp [intOf]; omega⟩
    · have htt : decide ((i : Int) < (l.length : Int)) = false := by simp; omega
      have hie : i = l.length := by omega
      subst hie
      rw [List.take_length] at hown
      go_wp2_with fail
      go_ret
      exact ⟨_, rfl, hown, hU⟩

def SameRel (n : Nat) (a b : List UInt8) (w : World) (x : Value) (wr : World) : Prop := ∃ i : Nat, x = .int .i64 i ∧ i ≤ n ∧ Upd [] w wr ∧ a.take i = b.take i
theorem enc_ne (x y : UInt8) : ((x.toNat : Int) != (y.toNat : Int)) = decide (x ≠ y) := by
  rw [Bool.eq_iff_iff, bne_iff_ne, decide_eq_true_iff, ne_eq, ne_eq]
  constructor
  · intro h e; exact h (by rw [e])
  · intro h e; exact h (UInt8.toNat_inj.1 (by omega))
theorem ref_Same (w : World) (p q : Value) (a b : List UInt8) (hp : ByX w p a) (hq : ByX w q b) (hl : a.length ≤ 1000000000) :
    Calls Tryz.prog 46 #[p, q] w fun e w' => e = .returned (.bool (decide (a = b))) ∧ Upd [] w w' := by
  obtain ⟨ao, cap, rfl, _⟩ := hp.shape
  obtain ⟨bo, cap2, rfl, _⟩ := hq.shape
  by_cases hlen : a.length = b.length
  · go_enter Tryz.func46, Tryz.ntmps46
    have h1 : ((a.length : Int) != (b.length : Int)) = false := by simp [hlen]
    have HL := Lib.hid hl
    have HLE := Lib.hid hlen
    clear hlen hl
    go_wp2_with fail
    go_loopw [5] (fun x wr => SameRel a.length a b w x wr) (fun x _ => a.length - (intOf x).toNat)
    case atStart => exact ⟨0, rfl, Nat.zero_le _, Upd.refl _ _, by simp⟩
    case round =>
      obtain ⟨i, rfl, hi, hU, htk⟩ := hrel
      have hp := hp.upd0 hU
      have hq := hq.upd0 hU
      have hlen := HLE.out
      have hll := HL.out
      by_cases hlt : i < a.length
      · have htt : decide ((i : Int) < (a.length : Int)) = true := by simp; omega
        obtain ⟨x, hx⟩ : ∃ x, a[i]? = some x := ⟨_, List.getElem?_eq_getElem hlt⟩
        obtain ⟨y, hy⟩ : ∃ y, b[i]? = some y := ⟨_, List.getElem?_eq_getElem (by omega)⟩
        obtain ⟨b1, o1, rfl, hc1⟩ := hp.at (by simp; omega)
        obtain ⟨b2, o2, rfl, hc2⟩ := hq.at (by simp; omega)
        have k1 := hc1 i (enc x) (by simp [hx])
        have k2 := hc2 i (enc y) (by simp [hy])
        have i0 : (0 : Int) ≤ (i : Int) := by omega
        have i1 : (i : Int) < (a.length : Int) := by omega
        have i2 : (i : Int) < (b.length : Int) := by omega
        have HTK := Lib.hid htk
        clear hlen hc1 hc2 htk
        by_cases hxy : x = y
        · have hne : ((x.toNat : Int) != (y.toNat : Int)) = false := by rw [enc_ne]; simpa using hxy
          have HR := Lib.hid (show SameRel a.length a b w (.int .i64 ((i : Int) + 1)) wr.drew from ⟨i + 1, by simp, hlt, hU.trans0 (Upd.drew [] _), by rw [List.take_add_one, List.take_add_one, HTK.out, hx, hy, hxy]⟩)
          clear hxy hx hy
          go_wp2_with fail
          go_region_held3 (fun W => W.cell? ⟨b1, o1 + i, none⟩ = some (enc x) ∧ W.cell? ⟨b2, o2 + i, none⟩ = some (enc y)) (first | exact ⟨k1, k2⟩ | go_keep) (fail)
          go_wp2_with fail
          exact ⟨HR.out, by simp [intOf]; omega⟩
        · have hne : ((x.toNat : Int) != (y.toNat : Int)) = true := by rw [enc_ne]; simpa using hxy
          have hab : decide (a = b) = false := by simp; intro e; subst e; rw [hx] at hy; exact hxy (by injection hy)
          clear hxy hx hy
          go_wp2_with fail
          go_region_held3 (fun W => W.cell? ⟨b1, o1 + i, none⟩ = some (enc x) ∧ W.cell? ⟨b2, o2 + i, none⟩ = some (enc y)) (first | exact ⟨k1, k2⟩ | go_keep) (fail)
          go_wp2_with fail
          go_ret
          exact ⟨by rw [hab]; rfl, hU.trans0 (Upd.drew [] _)⟩
      · have htt : decide ((i : Int) < (a.length : Int)) = false := by simp; omega
        have hie : i = a.length := by omega
        go_wp2_with fail
        go_ret
        rw [hie, List.take_length, hlen, List.take_length] at htk
        exact ⟨by rw [decide_eq_true htk]; rfl, hU⟩
  · have h1 : ((a.length : Int) != (b.length : Int)) = true := by simp; omega
    have h2 : decide (a = b) = false := by simp; intro h; exact hlen (by rw [h])
    go_enter Tryz.func46, Tryz.ntmps46
    go_wp2_with fail
    go_ret
    exact ⟨by rw [h2]; rfl, Upd.refl _ _⟩

theorem ext_yes {head k : List UInt8} (h1 : head.length ≤ k.length) (h2 : ((⟨k.toArray⟩ : ByteArray).extract 0 head.length).toList = head) : head.isPrefixOf k = true := prefix_take.2 ⟨h1, by rw [← ext_take]; exact h2⟩
theorem ext_no {head k : List UInt8} (h2 : ¬ ((⟨k.toArray⟩ : ByteArray).extract 0 head.length).toList = head) : head.isPrefixOf k = false := by
  cases hc : head.isPrefixOf k with
  | false => rfl
  | true => exact absurd (by rw [ext_take]; exact (prefix_take.1 hc).2) h2
theorem ext_no1 {head k : List UInt8} (h2 : ¬ head.length ≤ k.length) : head.isPrefixOf k = false := by
  cases hc : head.isPrefixOf k with
  | false => rfl
  | true => exact absurd (prefix_take.1 hc).1 h2
theorem ext_beq {head k : List UInt8} (h1 : head.length ≤ k.length) : ((((⟨k.toArray⟩ : ByteArray).extract 0 head.length).toList) == head) = head.isPrefixOf k := by
  by_cases h : ((⟨k.toArray⟩ : ByteArray).extract 0 head.length).toList = head
  · rw [ext_yes h1 h, beq_iff_eq]; exact h
  · rw [ext_no h, beq_eq_false_iff_ne]; exact h
theorem ref_Begins (w : World) (k head : List UInt8) : Calls Tryz.prog 117 #[encS k, encS head] w fun e w' => e = .returned (.bool (head.isPrefixOf k)) ∧ w = w' := by
  by_cases h1 : head.length ≤ k.length
  · have ht : decide ((head.length : Int) ≤ (k.length : Int)) = true := by simpa using h1
    have HE1 := Lib.hid (ext_beq h1)
    go_enter Tryz.func117, Tryz.ntmps117
    go_wp2_with fail
    go_ret
    exact ⟨congrArg (fun b => Ending.returned (.bool b)) HE1.out, rfl⟩
  · have ht : decide ((head.length : Int) ≤ (k.length : Int)) = false := by simpa using h1
    rw [ext_no1 h1]
    go_enter Tryz.func117, Tryz.ntmps117
    go_wp2_with fail
    go_ret
    exact ⟨rfl, rfl⟩
def FindRel (w : World) (k : List UInt8) (l : List (List UInt8 × List UInt8)) (x : Value) (wr : World) : Prop := ∃ i : Nat, x = .int .i64 i ∧ i ≤ pfind k l ∧ wr = w
theorem ref_Find (w : World) (v : Value) (l : List (List UInt8 × List UInt8)) (hl : Prs w v l) (k : List UInt8) (hn : l.length ≤ 1000000000) : Calls Tryz.prog 140 #[v, encS k] w fun e w' => e = .returned (.int .i64 (pfind k l)) ∧ w = w' := by
  obtain ⟨cells, hR, hC⟩ := hl
  obtain ⟨ao, cap, rfl, _⟩ := hR.shape
  have HP := Lib.hid (pfind_le k l)
  have HN9 := Lib.hid hn; clear hn
  go_enter Tryz.func140, Tryz.ntmps140
  go_wp2_with fail
  go_loopw [5] (fun x wr => FindRel w k l x wr) (fun x _ => l.length - (intOf x).toNat)
  case atStart => exact ⟨0, rfl, Nat.zero_le _, rfl⟩
  case round =>
    obtain ⟨i, rfl, hi, rfl⟩ := hrel
    have hle := HP.out
    have hll := HN9.out
    by_cases hlt : i < l.length
    · have htt : decide ((i : Int) < (l.length : Int)) = true := by simp; omega
      obtain ⟨p, hp⟩ : ∃ p, l[i]? = some p := ⟨_, List.getElem?_eq_getElem hlt⟩
      obtain ⟨pv, g0, g1, hpv⟩ := hC.get hp
      by_cases hk : p.1 < k
      · have hb : Op.bytesLess p.1 k = true := by rw [bytesLess_eq]; simpa using hk
        have HN := Lib.hid (pfind_next hi hp hk)
        clear hk hle hi hp
        go_wp2_with ((with_reducible show wpList _ _ _ (⟨_, .indexAddr _ _ _, _, _, _, _⟩ :: _) _ _); refine wpl_indexAddr elPair rfl rfl hR rfl rfl (by omega) (by omega) ?_; intro ad hcell hspot; (have k0 := hcell 0 (by omega)); (have k1 := hcell 1 (by omega)); rw [Int.toNat_natCast, g0] at k0; rw [Int.toNat_natCast, g1] at k1; clear hcell; obtain ⟨gb, gof, gs⟩ := ad; cases hspot; simp only [Addr.add_lit, Nat.add_zero] at k0 k1)
        exact ⟨⟨i + 1, by simp, HN.out, rfl⟩, by simp [intOf]; omega⟩
      · have hb : Op.bytesLess p.1 k = false := by rw [bytesLess_eq]; simpa using hk
        have HN := Lib.hid (pfind_stop hi hp hk)
        clear hk hle hi hp
        go_wp2_with ((with_reducible show wpList _ _ _ (⟨_, .indexAddr _ _ _, _, _, _, _⟩ :: _) _ _); refine wpl_indexAddr elPair rfl rfl hR rfl rfl (by omega) (by omega) ?_; intro ad hcell hspot; (have k0 := hcell 0 (by omega)); (have k1 := hcell 1 (by omega)); rw [Int.toNat_natCast, g0] at k0; rw [Int.toNat_natCast, g1] at k1; clear hcell; obtain ⟨gb, gof, gs⟩ := ad; cases hspot; simp only [Addr.add_lit, Nat.add_zero] at k0 k1)
        go_ret
        exact ⟨by rw [← HN.out]; rfl, rfl⟩
    · have htt : decide ((i : Int) < (l.length : Int)) = false := by simp; omega
      have hie : i = pfind k l := by omega
      clear hle hi
      go_wp2_with fail
      go_ret
      exact ⟨by rw [← hie]; rfl, rfl⟩
end Go.Proofs.YthfbfdkjgkkpcaaGreat

namespace Go.Proofs.YthfbfdkjgkkpcaaGreat
open Go Go.RowKit

/-- The number of which these are the bytes, the highest first. -/
def getB (b : List UInt8) : Nat := b.foldl (fun n c => n * 256 + c.toNat) 0
theorem getB_snoc (b : List UInt8) (c : UInt8) : getB (b ++ [c]) = getB b * 256 + c.toNat := by simp [getB]
theorem foldl_get (b : List UInt8) : ∀ n : Nat, b.foldl (fun n c => n * 256 + c.toNat) n = n * 256 ^ b.length + getB b := by
  induction b with
  | nil => intro n; simp [getB]
  | cons c r ih =>
    intro n
    unfold getB
    simp only [List.foldl_cons, List.length_cons, Nat.zero_mul, Nat.zero_add]
    rw [ih, ih c.toNat, Nat.add_mul, Nat.pow_succ, Nat.mul_assoc, Nat.mul_comm 256, Nat.add_assoc]
theorem getB_cons (c : UInt8) (r : List UInt8) : getB (c :: r) = c.toNat * 256 ^ r.length + getB r := by
  show (c :: r).foldl _ 0 = _
  rw [List.foldl_cons, foldl_get]
  simp
theorem getB_lt (b : List UInt8) : getB b < 256 ^ b.length := by
  induction b with
  | nil => simp [getB]
  | cons c r ih =>
    rw [getB_cons, List.length_cons, Nat.pow_succ]
    have h1 := c.toNat_lt
    have h2 : c.toNat * 256 ^ r.length ≤ 255 * 256 ^ r.length := Nat.mul_le_mul_right _ (by omega)
    omega
theorem wrap_u64 (x : Int) : IntKind.u64.wrap x = x % 18446744073709551616 := by
  simp [IntKind.wrap, IntKind.signed, IntKind.bits]
theorem or_byte (n : Nat) (c : UInt8) (hn : n < 72057594037927936) : bits .or .u64 (IntKind.u64.wrap ((n : Int) * 256)) (IntKind.u64.wrap (c.toNat : Int)) = ((n * 256 + c.toNat : Nat) : Int) := by
  have hc := c.toNat_lt
  rw [wrap_u64, wrap_u64, show ((n : Int) * 256) % 18446744073709551616 = ((n * 256 : Nat) : Int) from by omega, show ((c.toNat : Int)) % 18446744073709551616 = ((c.toNat : Nat) : Int) from by omega, u64_or_nat _ _ (by omega) (by omega)]
  have := Nat.two_pow_add_eq_or_of_lt (i := 8) (b := c.toNat) (by omega) n
  rw [show (2 : Nat) ^ 8 * n = n * 256 from by omega] at this
  rw [← this]
def GetRel (w : World) (l : List UInt8) (x v : Value) (wr : World) : Prop := ∃ i : Nat, x = .int .i64 i ∧ i ≤ l.length ∧ v = .int .u64 (getB (l.take i)) ∧ wr = w
theorem octet_Get (w : World) (p : Value) (l : List UInt8) (hp : By w p l) (hl : l.length ≤ 8) :
    Calls Tryz.prog 163 #[p] w fun e w' => e = .returned (.tuple #[.int .u64 (getB l), .bool true]) ∧ w = w' := by
  obtain ⟨ao, cap, rfl⟩ := By.val hp
  have h8 : decide ((8 : Int) < (l.length : Int)) = false := by simp; omega
  have HL := Lib.hid hl; clear hl
  go_enter Tryz.func163, Tryz.ntmps163
  go_wp2_with fail
  go_loopw [12, 4] (fun x v wr => GetRel w l x v wr) (fun x _ _ => l.length - (intOf x).toNat)
  case atStart => exact ⟨0, rfl, Nat.zero_le _, rfl, rfl⟩
  case round =>
    obtain ⟨i, rfl, hi, rfl, rfl⟩ := hrel
    have hll := HL.out
    by_cases hlt : i < l.length
    · have htt : decide ((i : Int) < (l.length : Int)) = true := by simp; omega
      obtain ⟨b, hb⟩ : ∃ b, l[i]? = some b := ⟨_, List.getElem?_eq_getElem hlt⟩
      have hu : (l.map enc)[(i : Int).toNat]? = some (enc b) := by simp [hb]
      go_wp2_with ((with_reducible show wpList _ _ _ (⟨_, .indexAddr _ _ _, _, _, _, _⟩ :: _) _ _); refine wpl_indexAddr1 elU8 rfl rfl hp rfl rfl (by omega) (by omega) _ hu ?_; intro ad hcell)
      have hlt2 := getB_lt (l.take i)
      have hpw : 256 ^ (l.take i).length ≤ 256 ^ 7 := Nat.pow_le_pow_right (by omega) (by simp; omega)
      rw [or_byte _ _ (by omega)]
      exact ⟨⟨i + 1, by simp, hlt, by rw [List.take_add_one, hb]; exact congrArg (fun n : Nat => Value.int .u64 (n : Int)) (getB_snoc _ _).symm, rfl⟩, by simp [intOf]; omega⟩
    · have htt : decide ((i : Int) < (l.length : Int)) = false := by simp; omega
      have hie : i = l.length := by omega
      subst hie
      rw [List.take_length] at *
      go_wp2_with fail
      go_ret2
      exact ⟨rfl, rfl⟩
theorem by_cut {w : World} {v : Value} {l : List UInt8} {lo k : Nat} (h : Rd w 5 1 v k (((l.map enc).drop (lo * 1)).take (k * 1))) (hk : lo + k ≤ l.length) : By w v ((l.drop lo).take k) := by
  have hl : ((l.drop lo).take k).length = k := by simp; omega
  unfold By
  rw [hl, List.map_take, List.map_drop]
  simpa using h
section
variable {P : Program} {ops : Array Oper} {Q : Exit → Act → World → Prop} {a : Act} {w : World} {rest : List Oper} {o : Oper}
/-- x[n : n + k] of bytes. -/
theorem wpl_cut_by {T : Nat} (hE : Elem P T 5 1 1) (hw : Region.wanted o (yielded ops a.tmps) = true) {x lo hi : Operand} (ho : o.op = .slice T x (some lo) (some hi) none)
    {v : Value} {l : List UInt8} (hp : By w v l) (hx : a.eval x = v) {k k' : IntKind} {n m : Nat} {i h : Int} (hlo : a.eval lo = .int k i) (hhi : a.eval hi = .int k' h) (h0 : i = ((n : Nat) : Int)) (hh : h = ((n + m : Nat) : Int)) (hle : n + m ≤ l.length)
    (hK : ∀ v', By w v' ((l.drop n).take m) → (∀ g, v'.ownBlock = some g → v.ownBlock = some g) → wpList P ops Q rest (a.put o.dst v') w) : wpList P ops Q (o :: rest) a w := by
  subst h0
  subst hh
  refine wpl_cut hE hw ho hp hx hlo hhi (by omega) (by omega) (by omega) (fun v' h1 h2 => hK v' (by_cut ?_ hle) h2)
  rw [Int.toNat_natCast, Int.toNat_natCast, show n + m - n = m from by omega] at h1
  exact h1
/-- x[n:] of bytes. -/
theorem wpl_from_by {T : Nat} (hE : Elem P T 5 1 1) (hw : Region.wanted o (yielded ops a.tmps) = true) {x lo : Operand} (ho : o.op = .slice T x (some lo) none none)
    {v : Value} {l : List UInt8} (hp : By w v l) (hx : a.eval x = v) {k : IntKind} {n : Nat} {i : Int} (hlo : a.eval lo = .int k i) (h0 : i = ((n : Nat) : Int)) (hle : n ≤ l.length)
    (hK : ∀ v', By w v' (l.drop n) → (∀ g, v'.ownBlock = some g → v.ownBlock = some g) → wpList P ops Q rest (a.put o.dst v') w) : wpList P ops Q (o :: rest) a w := by
  subst h0
  refine wpl_cut_from hE hw ho hp hx hlo (by omega) (by omega) (fun v' h1 h2 => hK v' ?_ h2)
  rw [Int.toNat_natCast] at h1
  unfold By
  rw [List.length_drop, List.map_drop]
  simpa using h1
/-- x[:n] of bytes. -/
theorem wpl_to_by {T : Nat} (hE : Elem P T 5 1 1) (hw : Region.wanted o (yielded ops a.tmps) = true) {x hi : Operand} (ho : o.op = .slice T x none (some hi) none)
    {v : Value} {l : List UInt8} (hp : By w v l) (hx : a.eval x = v) {k : IntKind} {n : Nat} {i : Int} (hhi : a.eval hi = .int k i) (h0 : i = ((n : Nat) : Int)) (hle : n ≤ l.length)
    (hK : ∀ v', By w v' (l.take n) → (∀ g, v'.ownBlock = some g → v.ownBlock = some g) → wpList P ops Q rest (a.put o.dst v') w) : wpList P ops Q (o :: rest) a w := by
  subst h0
  refine wpl_cut_to hE hw ho hp hx hhi (by omega) (by omega) (fun v' h1 h2 => hK v' ?_ h2)
  rw [Int.toNat_natCast] at h1
  unfold By
  rw [List.length_take, Nat.min_eq_left hle, List.map_take]
  simpa using h1
end
/-- Four bytes at a place, as a number. -/
def wordB (b : List UInt8) (n : Nat) : Option Nat := if n + 4 ≤ b.length then some (getB ((b.drop n).take 4)) else none
theorem wordB_lt {b : List UInt8} {n v : Nat} (h : wordB b n = some v) : v < 4294967296 := by
  unfold wordB at h
  split at h
  · cases h
    have := getB_lt ((b.drop n).take 4)
    rw [List.length_take, List.length_drop, Nat.min_eq_left (by omega)] at this
    exact this
  · cases h
theorem octet_Word (w : World) (p : Value) (l : List UInt8) (hp : By w p l) (n : Nat) (hl : l.length ≤ 1000000000) (hn : n ≤ 1000000004) :
    Calls Tryz.prog 125 #[p, .int .i64 n] w fun e w' => e = .returned (.tuple #[.int .u32 ((wordB l n).getD 0 : Nat), .bool (wordB l n).isSome]) ∧ w = w' := by
  obtain ⟨ao, cap, rfl⟩ := By.val hp
  have h0 : decide ((n : Int) < 0) = false := by simp
  by_cases hle : n + 4 ≤ l.length
  · have h1 : decide ((l.length : Int) - 4 < (n : Int)) = false := by simp; omega
    have hlt := getB_lt ((l.drop n).take 4)
    rw [List.length_take, List.length_drop, Nat.min_eq_left (by omega)] at hlt
    have hw : wordB l n = some (getB ((l.drop n).take 4)) := by unfold wordB; rw [if_pos hle]
    have hlen : ((l.drop n).take 4).length ≤ 8 := by simp; omega
    have hget := fun (v : Value) (hv : By w v ((l.drop n).take 4)) => octet_Get w v _ hv hlen
    generalize getB ((l.drop n).take 4) = g at *
    have HW := Lib.hid hw; have HL := Lib.hid hlt; have HLE := Lib.hid hle
    clear hw hlt hlen
    go_enter Tryz.func125, Tryz.ntmps125
    go_wp2_with (first
      | ((with_reducible show wpList _ _ _ (⟨_, .slice _ _ _ _ _, _, _, _, _⟩ :: _) _ _); refine wpl_cut_by (m := 4) elU8 rfl rfl hp rfl rfl rfl rfl (by omega) (by omega) ?_; intro v1 hb1 _)
      | (go_at_call 163; refine (hget v1 hb1).mono ?_; rintro e w1 ⟨rfl, rfl⟩))
    have hg : (g : Int) % 4294967296 = (g : Int) := by have := HL.out; omega
    go_ret2
    rw [HW.out, hg]
    exact ⟨rfl, rfl⟩
  · have h1 : decide ((l.length : Int) - 4 < (n : Int)) = true := by simp; omega
    have hw : wordB l n = none := by unfold wordB; rw [if_neg hle]
    rw [hw]
    go_enter Tryz.func125, Tryz.ntmps125
    go_wp2_with fail
    go_ret2
    exact ⟨rfl, rfl⟩
/-- A number with its length: the number, how many bytes, and why there is none. -/
def readCountGo : List UInt8 → Nat → Nat → Nat × Nat × Nat
  | [], _, _ => (0, 0, 9)
  | c :: r, i, n =>
    if i = 9 ∧ 1 < c.toNat then (0, 0, 10)
    else if c.toNat < 128 then (if c.toNat = 0 ∧ 0 < i then (0, 0, 10) else (n + c.toNat % 128 * 128 ^ i, i + 1, 0))
    else readCountGo r (i + 1) (n + c.toNat % 128 * 128 ^ i)
def readCountB (b : List UInt8) : Nat × Nat × Nat := readCountGo b 0 0
theorem and127 : ∀ y : Nat, y < 256 → bits .and .u8 (y : Int) 127 = ((y % 128 : Nat) : Int) := by decide +kernel
theorem rc_step (n i : Nat) (c : UInt8) (hn : n < 128 ^ i) (hb : c.toNat % 128 * 128 ^ i < 18446744073709551616) (h9 : i ≤ 9) :
    bits .or .u64 (n : Int) (IntKind.u64.wrap (IntKind.u64.wrap (bits .and .u8 (c.toNat : Int) 127) * 2 ^ (7 * i))) = ((n + c.toNat % 128 * 128 ^ i : Nat) : Int) := by
  have hc := c.toNat_lt
  have hp : (128 : Nat) ^ i = 2 ^ (7 * i) := by rw [Nat.pow_mul]
  have hpi : ((2 : Int) ^ (7 * i)) = ((128 ^ i : Nat) : Int) := by rw [hp]; simp
  have h63 : 128 ^ i ≤ 128 ^ 9 := Nat.pow_le_pow_right (by omega) h9
  rw [and127 _ hc, wrap_u64, wrap_u64, hpi, show (((c.toNat % 128 : Nat) : Int)) % 18446744073709551616 = ((c.toNat % 128 : Nat) : Int) from by omega, ← Int.natCast_mul,
    show (((c.toNat % 128 * 128 ^ i : Nat) : Int)) % 18446744073709551616 = ((c.toNat % 128 * 128 ^ i : Nat) : Int) from by omega, u64_or_nat _ _ (by omega) hb]
  have := Nat.two_pow_add_eq_or_of_lt (i := 7 * i) (b := n) (by rw [← hp]; exact hn) (c.toNat % 128)
  rw [← hp, Nat.mul_comm] at this
  rw [Nat.or_comm, ← this, Nat.add_comm]
theorem rc_lt {n i : Nat} {c : UInt8} (hn : n < 128 ^ i) : n + c.toNat % 128 * 128 ^ i < 128 ^ (i + 1) := by
  have h1 : c.toNat % 128 * 128 ^ i ≤ 127 * 128 ^ i := Nat.mul_le_mul_right _ (by omega)
  rw [Nat.pow_succ]
  omega
def RcRel (w : World) (l : List UInt8) (x v : Value) (wr : World) : Prop :=
  ∃ i n : Nat, x = .int .i64 i ∧ i ≤ l.length ∧ i ≤ 9 ∧ v = .int .u64 n ∧ n < 128 ^ i ∧ wr = w ∧ readCountB l = readCountGo (l.drop i) i n
set_option maxRecDepth 100000 in
set_option maxHeartbeats 1000000 in
theorem octet_ReadCount (w : World) (p : Value) (l : List UInt8) (hp : By w p l) (hl : l.length ≤ 1000000000) :
    Calls Tryz.prog 136 #[p] w fun e w' => e = .returned (.tuple #[.int .u64 (readCountB l).1, .int .i64 (readCountB l).2.1, .int .i64 (readCountB l).2.2]) ∧ w = w' := by
  obtain ⟨ao, cap, rfl⟩ := By.val hp
  have HL := Lib.hid hl; clear hl
  go_enter Tryz.func136, Tryz.ntmps136
  go_wp2_with fail
  go_loopw [10, 5] (fun x v wr => RcRel w l x v wr) (fun x _ _ => l.length - (intOf x).toNat)
  case atStart => exact ⟨0, 0, rfl, Nat.zero_le _, Nat.zero_le _, rfl, by simp, rfl, rfl⟩
  case round =>
    obtain ⟨i, n, rfl, hi, hi9, rfl, hn, rfl, hrc⟩ := hrel
    have hll := HL.out
    by_cases hlt : i < l.length
    · have htt : decide ((i : Int) < (l.length : Int)) = true := by simp; omega
      obtain ⟨c, hc⟩ : ∃ c, l[i]? = some c := ⟨_, List.getElem?_eq_getElem hlt⟩
      have hu : (l.map enc)[(i : Int).toNat]? = some (enc c) := by simp [hc]
      rw [List.drop_eq_getElem_cons hlt, (List.getElem?_eq_some_iff.1 hc).2] at hrc
      have HRC := Lib.hid hrc
      have HN := Lib.hid hn
      clear hrc hn
      have hc256 := c.toNat_lt
      have hbnd : ¬ (i = 9 ∧ 1 < c.toNat) → c.toNat % 128 * 128 ^ i < 18446744073709551616 := by
        intro h
        rcases Nat.lt_or_ge i 9 with h8 | h8
        · have h1 : 128 ^ i ≤ 128 ^ 8 := Nat.pow_le_pow_right (by omega) (by omega)
          have h2 : c.toNat % 128 * 128 ^ i ≤ 127 * 128 ^ 8 := Nat.mul_le_mul (by omega) h1
          omega
        · obtain rfl : i = 9 := by omega
          have h1 : c.toNat % 128 * 128 ^ 9 ≤ 1 * 128 ^ 9 := Nat.mul_le_mul_right _ (by omega)
          omega
      have HB := Lib.hid hbnd
      clear hbnd
      by_cases h9 : i = 9 ∧ 1 < c.toNat
      · have b9 : ((i : Int) == 9) = true := by simp; omega
        have hi8 : i = 9 := h9.1
        have b1 : decide ((1 : Int) < (c.toNat : Int)) = true := by simp; omega
        have HR := Lib.hid (show readCountB l = (0, 0, 10) from by rw [HRC.out, readCountGo, if_pos h9])
        clear h9
        go_wp2_with ((with_reducible show wpList _ _ _ (⟨_, .indexAddr _ _ _, _, _, _, _⟩ :: _) _ _); refine wpl_indexAddr1 elU8 rfl rfl hp rfl rfl (by omega) (by omega) _ hu ?_; intro ad hcell)
        go_ret3
        rw [HR.out]
        exact ⟨rfl, rfl⟩
      · have HS := Lib.hid (rc_step n i c HN.out (HB.out h9) hi9)
        by_cases h128 : c.toNat < 128
        · have b1 : decide ((c.toNat : Int) < 128) = true := by simp; omega
          by_cases h00 : c.toNat = 0 ∧ 0 < i
          · have HR := Lib.hid (show readCountB l = (0, 0, 10) from by rw [HRC.out, readCountGo, if_neg h9, if_pos h128, if_pos h00])
            have c0 : ((c.toNat : Int) == 0) = true := by simp; omega
            have ci : decide ((0 : Int) < (i : Int)) = true := by simp; omega
            have c1 : decide ((1 : Int) < (c.toNat : Int)) = false := by simp; omega
            clear h9
            go_wp2_with ((with_reducible show wpList _ _ _ (⟨_, .indexAddr _ _ _, _, _, _, _⟩ :: _) _ _); refine wpl_indexAddr1 elU8 rfl rfl hp rfl rfl (by omega) (by omega) _ hu ?_; intro ad hcell)
            all_goals
              go_ret3
              rw [HR.out]
              exact ⟨rfl, rfl⟩
          · have HR := Lib.hid (show readCountB l = (n + c.toNat % 128 * 128 ^ i, i + 1, 0) from by rw [HRC.out, readCountGo, if_neg h9, if_pos h128, if_neg h00])
            by_cases hi8 : i = 9
            · have b9 : ((i : Int) == 9) = true := by simp; omega
              have c1 : decide ((1 : Int) < (c.toNat : Int)) = false := by simp; omega
              have c0 : ((c.toNat : Int) == 0) = false := by simp; omega
              have b9' : (i = 9) = True := eq_true hi8
              clear h9 h00 hi8
              go_wp2_with ((with_reducible show wpList _ _ _ (⟨_, .indexAddr _ _ _, _, _, _, _⟩ :: _) _ _); refine wpl_indexAddr1 elU8 rfl rfl hp rfl rfl (by omega) (by omega) _ hu ?_; intro ad hcell)
              go_ret3
              rw [HR.out, HS.out]
              exact ⟨rfl, rfl⟩
            · have b9 : ((i : Int) == 9) = false := by simp; omega
              by_cases hc0 : c.toNat = 0
              · have c0 : ((c.toNat : Int) == 0) = true := by simp; omega
                have ci : decide ((0 : Int) < (i : Int)) = false := by simp; omega
                have i0 : (0 < i) = False := by simp; omega
                have c0' : (c.toNat = 0) = True := eq_true hc0
                clear h9 h00 hc0
                go_wp2_with ((with_reducible show wpList _ _ _ (⟨_, .indexAddr _ _ _, _, _, _, _⟩ :: _) _ _); refine wpl_indexAddr1 elU8 rfl rfl hp rfl rfl (by omega) (by omega) _ hu ?_; intro ad hcell)
                go_ret3
                rw [HR.out, HS.out]
                exact ⟨rfl, rfl⟩
              · have c0 : ((c.toNat : Int) == 0) = false := by simp; omega
                clear h9 h00
                go_wp2_with ((with_reducible show wpList _ _ _ (⟨_, .indexAddr _ _ _, _, _, _, _⟩ :: _) _ _); refine wpl_indexAddr1 elU8 rfl rfl hp rfl rfl (by omega) (by omega) _ hu ?_; intro ad hcell)
                go_ret3
                rw [HR.out, HS.out]
                exact ⟨rfl, rfl⟩
        · have b1 : decide ((c.toNat : Int) < 128) = false := by simp; omega
          have hi8 : ¬ i = 9 := by omega
          have b9 : ((i : Int) == 9) = false := by simp; omega
          have HR := Lib.hid (show readCountB l = readCountGo (l.drop (i + 1)) (i + 1) (n + c.toNat % 128 * 128 ^ i) from by rw [HRC.out, readCountGo, if_neg h9, if_neg h128])
          clear h9
          go_wp2_with ((with_reducible show wpList _ _ _ (⟨_, .indexAddr _ _ _, _, _, _, _⟩ :: _) _ _); refine wpl_indexAddr1 elU8 rfl rfl hp rfl rfl (by omega) (by omega) _ hu ?_; intro ad hcell)
          rw [HS.out]
          exact ⟨⟨i + 1, _, by simp, hlt, by omega, rfl, rc_lt HN.out, rfl, HR.out⟩, by simp [intOf]; omega⟩
    · have htt : decide ((i : Int) < (l.length : Int)) = false := by simp; omega
      have hie : i = l.length := by omega
      subst hie
      rw [List.drop_length] at hrc
      have HRC := Lib.hid hrc
      clear hrc hn
      go_wp2_with fail
      go_ret3
      rw [HRC.out]
      exact ⟨rfl, rfl⟩
end Go.Proofs.YthfbfdkjgkkpcaaGreat

namespace Go.Proofs.YthfbfdkjgkkpcaaGreat
open Go Go.RowKit

def RpRel (w : World) (n size : Nat) (x v : Value) (wr : World) : Prop := ∃ (k : Nat) (out : List UInt8), x = .int .i64 ((k : Int) - 1) ∧ k ≤ size ∧ out.length = size - k ∧ out ++ putB n k = putB n size ∧ OwnBy wr w.heap.size v out ∧ Upd [] w wr
theorem rf_put (n size : Nat) (hn : U64 n) (h1 : 1 ≤ size) (hs : size ≤ 8) (w : World) :
    Calls Tryz.prog 114 #[.int .u64 n, .int .i64 size] w (RetBy w (putB n size)) := by
  have t1 : decide ((size : Int) < 1) = false := by simp; omega
  have t2 : decide ((8 : Int) < (size : Int)) = false := by simp; omega
  have HS := Lib.hid hs
  go_enter Tryz.func114, Tryz.ntmps114
  go_wp2_with fail
  go_loopw [6, 5] (fun x v wr => RpRel w n size x v wr) (fun x _ _ => (intOf x + 1).toNat)
  case atStart => exact ⟨size, [], rfl, Nat.le_refl _, by simp, by simp, World.ownsRow_nil _ _ _ _, Upd.refl _ _⟩
  case round =>
    obtain ⟨k, out, rfl, hk, hlen, heq, hown, hU⟩ := hrel
    have HEQ := Lib.hid heq
    have HLEN := Lib.hid hlen
    clear heq hlen
    cases k with
    | zero =>
      have HF := Lib.hid (show RetBy w (putB n size) (.returned u5) wr from ⟨_, rfl, by have := HEQ.out; simp [putB] at this; rw [← this]; exact hown, hU⟩)
      clear hown
      go_wp2_with fail
      go_ret
      exact HF.out
    | succ j =>
      have e : (((j + 1 : Nat) : Int) - 1) = (j : Int) := by omega
      rw [e]
      clear e
      have h0 : decide ((0 : Int) ≤ (j : Int)) = true := by simp
      have HB := Lib.hid (show out.length + 1 ≤ 1073741824 by have := HLEN.out; omega)
      go_wp2_with (first
        | ((with_reducible show wpList _ _ _ (⟨_, .buildSlice _ _ _, _, _, _, _⟩ :: _) _ _); refine wpl_lit_byte (UInt8.ofNat (n / 256 ^ j % 256)) elU8 rfl rfl (by rw [← put_byte]; rfl) ?_; intro v1 w1 hv1 hU1 hb1)
        | ((with_reducible show wpList _ _ _ (⟨_, .call ⟨.builtin .append, _, _⟩, _, _, _, _⟩ :: _) _ _); refine wpl_append_by elU8 rfl rfl (hU.trans0 hU1) (Own.upd0 hown hU1) rfl hv1.by rfl HB.out ?_; intro v2 w2 hv2 _ hU2 hb2))
      exact ⟨⟨j, _, rfl, by omega, by have := HLEN.out; simp; omega, by rw [← HEQ.out]; simp [putB], hv2, hU2⟩, by simp [intOf]⟩
theorem get_add (n : Nat) (c : UInt8) (hn : n < 72057594037927936) : IntKind.u64.wrap (IntKind.u64.wrap ((n : Int) * 256) + IntKind.u64.wrap (c.toNat : Int)) = ((n * 256 + c.toNat : Nat) : Int) := by
  have hc := c.toNat_lt
  rw [wrap_u64, wrap_u64, wrap_u64]
  omega
theorem rf_get (w : World) (p : Value) (l : List UInt8) (hp : By w p l) (hl : l.length ≤ 8) :
    Calls Tryz.prog 134 #[p] w fun e w' => e = .returned (.tuple #[.int .u64 (getB l), .bool true]) ∧ w = w' := by
  obtain ⟨ao, cap, rfl⟩ := By.val hp
  have h8 : decide ((8 : Int) < (l.length : Int)) = false := by simp; omega
  have HL := Lib.hid hl; clear hl
  go_enter Tryz.func134, Tryz.ntmps134
  go_wp2_with fail
  go_loopw [5, 4] (fun x v wr => GetRel w l x v wr) (fun x _ _ => l.length - (intOf x).toNat)
  case atStart => exact ⟨0, rfl, Nat.zero_le _, rfl, rfl⟩
  case round =>
    obtain ⟨i, rfl, hi, rfl, rfl⟩ := hrel
    have hll := HL.out
    by_cases hlt : i < l.length
    · have htt : decide ((i : Int) < (l.length : Int)) = true := by simp; omega
      obtain ⟨b, hb⟩ : ∃ b, l[i]? = some b := ⟨_, List.getElem?_eq_getElem hlt⟩
      have hu : (l.map enc)[(i : Int).toNat]? = some (enc b) := by simp [hb]
      have hlt2 := getB_lt (l.take i)
      have hpw : 256 ^ (l.take i).length ≤ 256 ^ 7 := Nat.pow_le_pow_right (by omega) (by simp; omega)
      have HG := Lib.hid (get_add (getB (l.take i)) b (by omega))
      have HN := Lib.hid (show getB (l.take (i + 1)) = getB (l.take i) * 256 + b.toNat from by rw [List.take_add_one, hb]; exact getB_snoc _ _)
      clear hlt2 hpw hb
      go_wp2_with ((with_reducible show wpList _ _ _ (⟨_, .indexAddr _ _ _, _, _, _, _⟩ :: _) _ _); refine wpl_indexAddr1 elU8 rfl rfl hp rfl rfl (by omega) (by omega) _ hu ?_; intro ad hcell)
      rw [HG.out]
      exact ⟨⟨i + 1, by simp, hlt, by rw [HN.out], rfl⟩, by simp [intOf]; omega⟩
    · have htt : decide ((i : Int) < (l.length : Int)) = false := by simp; omega
      have hie : i = l.length := by omega
      subst hie
      rw [List.take_length] at *
      go_wp2_with fail
      go_ret2
      exact ⟨rfl, rfl⟩
theorem rf_crc (w : World) (p : Value) (l : List UInt8) (hp : By w p l) :
    Calls Tryz.prog 135 #[p] w fun e w' => e = .returned (.int .u32 (crcB l : Nat)) ∧ w = w' := by
  obtain ⟨ao, cap, rfl⟩ := hp.val
  have hlen : l.length ≤ maxLen := hp.2.1
  have hlen : l.length ≤ 9223372036854775807 := hlen
  go_enter Tryz.func135, Tryz.ntmps135
  go_wp2_with fail
  go_loop [3, 4] (fun c i => CrcOut l c i) (fun _ i => l.length - (intOf i).toNat)
  case atStart => exact ⟨0, by omega, rfl, rfl⟩
  case round =>
    obtain ⟨k, hk, rfl, rfl⟩ := hrel
    have hc32 := crcC_lt (l.take k)
    by_cases hlt : k < l.length
    · have h1 : (k : Int) < (l.length : Int) := by omega
      have hsnoc : l.take (k + 1) = l.take k ++ [l[k]] := List.take_succ_eq_append_getElem hlt
      have Hs := Lib.hid hsnoc; clear hsnoc
      go_wp2_with ((with_reducible show wpList _ _ _ (⟨_, .indexAddr _ _ _, _, _, _, _⟩ :: _) _ _); refine wpl_indexAddr1 elU8 rfl rfl hp (by rfl) (by rfl) ?_ ?_ (enc l[k]) ?_ ?_; rotate_right; intro ad hc)
      · go_loop [3, 5] (fun c i => CrcIn (crcC (l.take k) ^^^ l[k].toNat) c i) (fun _ i => 8 - (intOf i).toNat)
        case atStart => exact ⟨0, by omega, rfl, by rw [crc_xor hc32]; rfl⟩
        case round =>
          obtain ⟨j, hj, rfl, rfl⟩ := hrel
          have hb32 := crcBits_lt (crcXor_lt hc32 l[k]) j
          obtain ⟨c, hcd⟩ : ∃ c, c = crcBits (crcC (l.take k) ^^^ l[k].toNat) j := ⟨_, rfl⟩
          rw [← hcd] at hb32 ⊢
          have Hcd := Lib.hid hcd; clear hcd
          by_cases hj8 : j < 8
          · have h8 : (j : Int) < 8 := by omega
            have hcl := hb32.lt
            by_cases hbit : c % 2 = 1
            · have hb : ((c : Int) % 2 == 1) = true := by simp; omega
              have HX := Lib.hid (show bits .xor .u32 ((c : Int) / 2) 3988292384 = ((crcBit c : Nat) : Int) from by
                rw [show ((c : Int) / 2) = ((c / 2 : Nat) : Int) from by omega, show (3988292384 : Int) = ((3988292384 : Nat) : Int) from rfl, u32_xor_nat _ _ (by omega) (by omega)]
                unfold crcBit
                rw [if_pos hbit])
              clear hbit
              go_wp2_with fail
              rw [HX.out, Hcd.out]
              exact ⟨⟨j + 1, by omega, by go_num, rfl⟩, by simp [intOf]; omega⟩
            · have hb : ((c : Int) % 2 == 1) = false := by simp; omega
              have HX := Lib.hid (show ((c : Int) / 2) = ((crcBit c : Nat) : Int) from by
                unfold crcBit
                rw [if_neg hbit]
                omega)
              clear hbit
              go_wp2_with fail
              rw [HX.out, Hcd.out]
              exact ⟨⟨j + 1, by omega, by go_num, rfl⟩, by simp [intOf]; omega⟩
          · obtain rfl : j = 8 := by omega
            go_wp2_with fail
            refine ⟨⟨k + 1, by omega, by go_num, ?_⟩, by simp [intOf]; omega⟩
            rw [Hs.out, crcC_snoc, Hcd.out]
            rfl
    · obtain rfl : k = l.length := by omega
      rw [List.take_length] at hc32 ⊢
      have hcl := hc32.lt
      have HC := Lib.hid (show ((4294967295 : Int) - (crcC l : Int)) = ((crcB l : Nat) : Int) from by unfold crcB; omega)
      go_wp2_with fail
      go_ret
      refine ⟨?_, rfl⟩
      rw [← HC.out]
      rfl
end Go.Proofs.YthfbfdkjgkkpcaaGreat

namespace Go.Proofs.YthfbfdkjgkkpcaaGreat
open Go Go.RowKit

theorem app_row {T e sz b : Nat} {P : Program} (hE : Elem P T e sz b) {w0 w : World} (hU : Upd [] w0 w) {v : Value} {n : Nat} {xs : List Value} (hown : w.ownsRow w0.heap.size e sz v n xs) {y : Value} {m : Nat} {ys : List Value} (hR : Rd w e sz y m ys)
    (h1 : ∀ u ∈ ys, u.oneCell' = true) (h63 : n + m ≤ maxLen) (hb : (n + m) * b ≤ 140737488355328) (ty : Nat) :
    ∃ v' w', (Builtin.append_ #[T, T] ty #[v, y]).run P w = .ok v' w' ∧ w'.ownsRow w0.heap.size e sz v' (n + m) (xs ++ ys) ∧ Upd v.ownBlock.toList w w' ∧ Upd [] w0 w' := by
  obtain ⟨v', w', r1, r2, r3, _⟩ := run_append_rd (P := P) (ty := ty) hE hown hR h1 h63 hb hU.size
  have hg : Upd v.ownBlock.toList w w' := Upd.grown r3 (fun k hk => by rw [hk]; simp)
  exact ⟨v', w', r1, r2, hg, hU.own hown hg⟩
theorem app_pr {w0 w : World} (hU : Upd [] w0 w) {v y pv : Value} {l : List (List UInt8 × List UInt8)} {p : List UInt8 × List UInt8} (hown : OwnPrs w w0.heap.size v l) (hR : Rd w 165 2 y 1 [encS p.1, pv]) (hpv : By w pv p.2) (hb : l.length + 1 ≤ 1000000001) (ty : Nat) :
    ∃ v' w', (Builtin.append_ #[46, 46] ty #[v, y]).run Tryz.prog w = .ok v' w' ∧ OwnPrs w' w0.heap.size v' (l ++ [p]) ∧ Upd v.ownBlock.toList w w' ∧ Upd [] w0 w' := by
  obtain ⟨cells, ho, hC⟩ := hown
  obtain ⟨ao, cap, rfl⟩ := By.val hpv
  obtain ⟨v', w', r1, r2, r3, r4⟩ := app_row (P := Tryz.prog) elPair hU ho hR (by intro u hu; simp at hu; rcases hu with rfl | rfl <;> rfl) (by unfold maxLen; omega) (by omega) ty
  have hoff : Off w 5 v.ownBlock.toList := Own.off ho (by decide)
  have hd : PCells w' [encS p.1, .slice ao p.2.length cap] [p] := ⟨rfl, hpv.upd r3 hoff, trivial⟩
  exact ⟨v', w', r1, ⟨cells ++ [encS p.1, .slice ao p.2.length cap], by rw [List.length_append]; exact r2, hd.append (hC.upd r3 hoff)⟩, r3, r4⟩
def OwnChgs (w : World) (B : Nat) (v : Value) (l : List TChg) : Prop := ∃ cells, w.ownsRow B 60 3 v l.length cells ∧ TCells w cells l
theorem OwnChgs.chgs {w : World} {B : Nat} {v : Value} {l : List TChg} (h : OwnChgs w B v l) : Chgs w v l := by
  obtain ⟨cells, h1, h2⟩ := h
  exact ⟨cells, Rd.of_own h1, h2⟩
theorem OwnChgs.upd0 {w w' : World} {B : Nat} {v : Value} {l : List TChg} (h : OwnChgs w B v l) (hU : Upd [] w w') : OwnChgs w' B v l := by
  obtain ⟨cells, h1, h2⟩ := h
  exact ⟨cells, Own.upd0 h1 hU, h2.upd hU (Off.nil _ _)⟩
theorem app_chg {w0 w : World} (hU : Upd [] w0 w) {v y pv : Value} {l : List TChg} {c : TChg} (hown : OwnChgs w w0.heap.size v l) (hR : Rd w 60 3 y 1 [encS c.key, .bool c.gone, pv]) (hpv : By w pv c.val) (hb : l.length + 1 ≤ 1000000001) (ty : Nat) :
    ∃ v' w', (Builtin.append_ #[56, 56] ty #[v, y]).run Tryz.prog w = .ok v' w' ∧ OwnChgs w' w0.heap.size v' (l ++ [c]) ∧ Upd v.ownBlock.toList w w' ∧ Upd [] w0 w' := by
  obtain ⟨cells, ho, hC⟩ := hown
  obtain ⟨ao, cap, rfl⟩ := By.val hpv
  obtain ⟨v', w', r1, r2, r3, r4⟩ := app_row (P := Tryz.prog) elTChg hU ho hR (by intro u hu; simp at hu; rcases hu with rfl | rfl | rfl <;> rfl) (by unfold maxLen; omega) (by omega) ty
  have hoff : Off w 5 v.ownBlock.toList := Own.off ho (by decide)
  have hd : TCells w' [encS c.key, .bool c.gone, .slice ao c.val.length cap] [c] := ⟨rfl, rfl, hpv.upd r3 hoff, trivial⟩
  exact ⟨v', w', r1, ⟨cells ++ [encS c.key, .bool c.gone, .slice ao c.val.length cap], by rw [List.length_append]; exact r2, hd.append (hC.upd r3 hoff)⟩, r3, r4⟩
theorem not_mem_own {w : World} {B e sz n : Nat} {v : Value} {xs : List Value} (h : w.ownsRow B e sz v n xs) {k : Nat} (hk : w.heap.size ≤ k ∨ k < B) : k ∉ v.ownBlock.toList := by
  intro hm
  cases hv : v.ownBlock with
  | none => rw [hv] at hm; cases hm
  | some g =>
    rw [hv] at hm
    simp at hm
    have := h.lt g hv
    omega
theorem OwnChgs.not_mem {w : World} {B : Nat} {v : Value} {l : List TChg} (h : OwnChgs w B v l) {k : Nat} (hk : w.heap.size ≤ k ∨ k < B) : k ∉ v.ownBlock.toList := by
  obtain ⟨cells, h1, _⟩ := h
  exact not_mem_own h1 hk
theorem lit_row {T e sz b : Nat} {P : Program} (hE : Elem P T e sz b) (w : World) (u : Value) {cs : List Value} (hc : u.cells = cs.toArray) (hn : cs.length = sz) (hs : sz ≤ 16777216) :
    ∃ v w', (Instr.buildSlice T 1 #[(0, u)]).run P w = .ok v w' ∧ Rd w' e sz v 1 cs ∧ Upd [] w w' := by
  have hr := run_lit (P := P) (w := w) hE u (by rw [hc]; simpa using hn) hs
  refine ⟨_, _, hr, ?_, Upd.alloc [] _ _⟩
  rw [hc]
  exact Rd.new (by simpa using hn) (Nat.le_refl _) (by decide) (by simp [← hn]) (by simpa using hn)

def ToRel (w : World) (l : List TChg) (x v : Value) (wr : World) : Prop := ∃ i : Nat, x = .int .i64 i ∧ i ≤ l.length ∧ OwnChgs wr w.heap.size v (l.take i) ∧ Upd [] w wr
set_option maxRecDepth 100000 in
set_option maxHeartbeats 1000000 in
theorem law_to (w : World) (lv : Value) (l : List TChg) (hl : RChgs w lv l) (hn : l.length ≤ 1000000000) (hv : ∀ c ∈ l, c.val.length ≤ 1000000000) :
    Calls Tryz.prog 21 #[lv] w fun e w' => ∃ v, e = .returned v ∧ OwnChgs w' w.heap.size v l ∧ Upd [] w w' := by
  obtain ⟨cells, hR, hC⟩ := hl
  obtain ⟨ao, cap, rfl, _⟩ := hR.shape
  have HV := Lib.hid hv; have HN := Lib.hid hn
  clear hv hn
  go_enter Tryz.func21, Tryz.ntmps21
  go_wp2_with fail
  go_loopw [8, 3] (fun x v wr => ToRel w l x v wr) (fun x _ _ => l.length - (intOf x).toNat)
  case atStart => exact ⟨0, rfl, Nat.zero_le _, ⟨[], World.ownsRow_nil _ _ _ _, trivial⟩, Upd.refl _ _⟩
  case round =>
    obtain ⟨i, rfl, hi, hown, hU⟩ := hrel
    by_cases hlt : i < l.length
    · have htt : decide ((i : Int) < (l.length : Int)) = true := by simp; omega
      obtain ⟨c, hc⟩ : ∃ c, l[i]? = some c := ⟨_, List.getElem?_eq_getElem hlt⟩
      obtain ⟨pv, c0, c1, c2, hpv⟩ := hC.get hc
      have hRr : Rdx wr 3 (.slice ao l.length cap) l.length cells := hR.upd0 hU
      have hpr : ByX wr pv c.val := hpv.upd0 hU
      have hcv := HV.out c (List.mem_of_getElem? hc)
      have htk : l.take (i + 1) = l.take i ++ [c] := by rw [List.take_add_one, hc]; rfl
      obtain ⟨ap, cp, hsp, _⟩ := hpr.shape
      subst hsp
      have hUa : Upd [] wr (wr.alloc (Obj.cells #[encS c.key, .bool c.gone, Value.slice ap c.val.length cp] 72)) := Upd.alloc [] _ _
      have hba := heap_alloc_new wr (Obj.cells #[encS c.key, .bool c.gone, Value.slice ap c.val.length cp] 72)
      generalize hwa : wr.alloc (Obj.cells #[encS c.key, .bool c.gone, Value.slice ap c.val.length cp] 72) = wa at hUa hba
      have HWA := Lib.hid hwa
      have hUd : Upd [] wr wa.drew := hUa.trans0 (Upd.drew [] _)
      have hnm := hown.not_mem (k := wr.heap.size) (.inl (Nat.le_refl _))
      have q0 : ∀ W : World, W.heap[wr.heap.size]? = some (Obj.cells #[encS c.key, .bool c.gone, Value.slice ap c.val.length cp] 72) →
          W.cell? ⟨wr.heap.size, 0, none⟩ = some (encS c.key) ∧ W.cell? ⟨wr.heap.size, 1, none⟩ = some (.bool c.gone) ∧ W.cell? ⟨wr.heap.size, 2, none⟩ = some (.slice ap c.val.length cp) := by
        intro W hW
        refine ⟨?_, ?_, ?_⟩
        all_goals
          rw [cell_lit W _ _ _ _ _ hW]
          rfl
      have hS0 := q0 wa.drew hba
      have hlt2 : (l.take i).length + 1 ≤ 1000000001 := by have := HN.out; simp; omega
      have HTK := Lib.hid htk; have HL2 := Lib.hid hlt2; have HB := Lib.hid hba; have HQ := Lib.hid q0
      clear htk hlt2 hba hwa hi q0
      go_wp2_with ((with_reducible show wpList _ _ _ (⟨_, .indexAddr _ _ _, _, _, _, _⟩ :: _) _ _); refine wpl_indexAddrX elRChg rfl rfl hRr rfl rfl (by omega) (by omega) ?_; intro ad hcell hspot; (have k0 := hcell 0 (by omega)); (have k1 := hcell 1 (by omega)); (have k2 := hcell 2 (by omega)); rw [Int.toNat_natCast, c0] at k0; rw [Int.toNat_natCast, c1] at k1; rw [Int.toNat_natCast, c2] at k2; clear hcell; obtain ⟨gb, gof, gs⟩ := ad; cases hspot; simp only [Addr.add_lit, Nat.add_zero] at k0 k1 k2)
      rw [HWA.out]
      refine wp_region_noPanic ?_
      refine wp_region_M 11 (fun W => W.cell? ⟨wr.heap.size, 0, none⟩ = some (encS c.key) ∧ W.cell? ⟨wr.heap.size, 1, none⟩ = some (.bool c.gone) ∧ W.cell? ⟨wr.heap.size, 2, none⟩ = some (.slice ap c.val.length cp)) (by kernel_rfl) ?_
      (refine wpAnyM_takeO (i := 0) (dst := (some 12)) (op := (Go.Op.move (Go.Operand.tmp 3))) (v := ?_) (by rfl) (by kernel_rfl) (by kernel_rfl) (by kernel_rfl) (by kernel_rfl) (by rfl) (fun _ _ _ h => h) ?_ hS0 ?_; rotate_left; (focus (intro _ _ _ W HW; (try dsimp only at HW); go_simp; (try with_reducible rfl))); (try simp only [Act.put, List.setIfInBounds_toArray, List.set_cons_zero, List.set_cons_succ]))
      (refine wpAnyM_takeO (i := 1) (dst := (some 13)) (op := (Go.Op.fieldAddr 72 (Go.Operand.tmp 5) 0)) (v := ?_) (by rfl) (by kernel_rfl) (by kernel_rfl) (by kernel_rfl) (by kernel_rfl) (by rfl) (fun _ _ _ h => h) ?_ hS0 ?_; rotate_left; (focus (intro _ _ _ W HW; (try dsimp only at HW); go_simp; (try with_reducible rfl))); (try simp only [Act.put, List.setIfInBounds_toArray, List.set_cons_zero, List.set_cons_succ]))
      (refine wpAnyM_takeO (i := 2) (dst := (some 14)) (op := (Go.Op.load 9 (Go.Operand.tmp 13))) (v := ?_) (by rfl) (by kernel_rfl) (by kernel_rfl) (by kernel_rfl) (by kernel_rfl) (by rfl) (fun _ _ _ h => h) ?_ hS0 ?_; rotate_left; (focus (intro _ _ _ W HW; (try dsimp only at HW); go_simp; (try with_reducible rfl))); (try simp only [Act.put, List.setIfInBounds_toArray, List.set_cons_zero, List.set_cons_succ]))
      (refine wpAnyM_takeO (i := 3) (dst := (some 15)) (op := (Go.Op.fieldAddr 72 (Go.Operand.tmp 5) 1)) (v := ?_) (by rfl) (by kernel_rfl) (by kernel_rfl) (by kernel_rfl) (by kernel_rfl) (by rfl) (fun _ _ _ h => h) ?_ hS0 ?_; rotate_left; (focus (intro _ _ _ W HW; (try dsimp only at HW); go_simp; (try with_reducible rfl))); (try simp only [Act.put, List.setIfInBounds_toArray, List.set_cons_zero, List.set_cons_succ]))
      (refine wpAnyM_takeO (i := 4) (dst := (some 16)) (op := (Go.Op.load 4 (Go.Operand.tmp 15))) (v := ?_) (by rfl) (by kernel_rfl) (by kernel_rfl) (by kernel_rfl) (by kernel_rfl) (by rfl) (fun _ _ _ h => h) ?_ hS0 ?_; rotate_left; (focus (intro _ _ _ W HW; (try dsimp only at HW); go_simp; (try with_reducible rfl))); (try simp only [Act.put, List.setIfInBounds_toArray, List.set_cons_zero, List.set_cons_succ]))
      (refine wpAnyM_takeO (i := 5) (dst := (some 17)) (op := (Go.Op.fieldAddr 72 (Go.Operand.tmp 5) 2)) (v := ?_) (by rfl) (by kernel_rfl) (by kernel_rfl) (by kernel_rfl) (by kernel_rfl) (by rfl) (fun _ _ _ h => h) ?_ hS0 ?_; rotate_left; (focus (intro _ _ _ W HW; (try dsimp only at HW); go_simp; (try with_reducible rfl))); (try simp only [Act.put, List.setIfInBounds_toArray, List.set_cons_zero, List.set_cons_succ]))
      (refine wpAnyM_takeO (i := 6) (dst := (some 18)) (op := (Go.Op.load 36 (Go.Operand.tmp 17))) (v := ?_) (by rfl) (by kernel_rfl) (by kernel_rfl) (by kernel_rfl) (by kernel_rfl) (by rfl) (fun _ _ _ h => h) ?_ hS0 ?_; rotate_left; (focus (intro _ _ _ W HW; (try dsimp only at HW); go_simp; (try with_reducible rfl))); (try simp only [Act.put, List.setIfInBounds_toArray, List.set_cons_zero, List.set_cons_succ]))
      refine wpAnyM_one (i := 7) (by kernel_rfl) ?_
      refine opM_call (i := 7) (dst := (some 19)) (op := (Go.Op.call { callee := (Go.Callee.value (Go.Operand.func 48)), args := #[(Go.Operand.tmp 18)], argTypes := #[36] })) (f := 48) (vs := #[.slice ap c.val.length cp]) (by rfl) (fun _ _ _ => by go_simp) ?_
      refine (ref_Twin _ _ c.val (hpr.upd0 hUd) hcv).mono ?_
      rintro e w2 ⟨v2, rfl, hv2, hU2⟩
      have hB2 := hU2.get (show wa.drew.heap[wr.heap.size]? = some _ from HB.out) (by simp)
      have hS2 := HQ.out w2 hB2
      refine ⟨v2, rfl, .inr hS2, ?_⟩
      (try simp only [Act.put, List.setIfInBounds_toArray, List.set_cons_zero, List.set_cons_succ])
      obtain ⟨ao2, cap2, hs2⟩ := By.val hv2.by
      subst hs2
      obtain ⟨v3, w3, hr3, hv3, hU3⟩ := lit_row (P := Tryz.prog) elTChg w2 (.agg #[encS c.key, .bool c.gone, .slice ao2 c.val.length cap2]) (cs := [encS c.key, .bool c.gone, .slice ao2 c.val.length cap2]) rfl rfl (by omega)
      have hB3 := hU3.get hB2 (by simp)
      have hS3 := HQ.out w3 hB3
      have hU03 := ((hU.trans0 hUd).trans0 hU2).trans0 hU3
      have hown3 := hown.upd0 ((hUd.trans0 hU2).trans0 hU3)
      obtain ⟨v4, w4, hr4, hv4, hU4, hU04⟩ := app_chg hU03 hown3 hv3 (hv2.by.upd0 hU3) HL2.out 0
      have hS4 := HQ.out w4 (hU4.get hB3 hnm)
      (refine wpAnyM_val (i := 8) (dst := (some 20)) (op := (Go.Op.build 60 #[(0, (Go.Operand.tmp 14)), (1, (Go.Operand.tmp 16)), (2, (Go.Operand.tmp 19))])) (by rfl) (by kernel_rfl) (fun _ _ _ => by go_simp; rfl) (.inr hS2) ?_; (try simp only [Act.put, List.setIfInBounds_toArray, List.set_cons_zero, List.set_cons_succ]))
      (refine wpAnyM_val (i := 9) (dst := (some 21)) (op := (Go.Op.buildSlice 56 1 #[(0, (Go.Operand.tmp 20))])) (by rfl) (by kernel_rfl) (ex_lit hr3 (by rfl)) (.inr hS3) ?_; (try simp only [Act.put, List.setIfInBounds_toArray, List.set_cons_zero, List.set_cons_succ]))
      (refine wpAnyM_val (i := 10) (dst := (some 22)) (op := (Go.Op.call { callee := (Go.Callee.builtin Go.Builtin.append), args := #[(Go.Operand.tmp 12), (Go.Operand.tmp 21)], argTypes := #[56, 56] })) (by rfl) (by kernel_rfl) (ex_append hr4 (by rfl) (by rfl)) (.inr hS4) ?_; (try simp only [Act.put, List.setIfInBounds_toArray, List.set_cons_zero, List.set_cons_succ]))
      (refine wpAnyM_val (i := 11) (dst := (some 3)) (op := (Go.Op.assign (Go.Operand.tmp 22))) (by rfl) (by kernel_rfl) (fun _ _ _ => by go_simp; rfl) (.inr hS4) ?_; (try simp only [Act.put, List.setIfInBounds_toArray, List.set_cons_zero, List.set_cons_succ]))
      refine wpAnyM_done (by kernel_rfl) ?_ _
      refine NoPanic.normal ?_
      have hll := HN.out
      go_wp2_with fail
      exact ⟨⟨i + 1, by simp, hlt, by rw [HTK.out]; exact hv4, hU04⟩, by simp [intOf]; omega⟩
    · have htt : decide ((i : Int) < (l.length : Int)) = false := by simp; omega
      have hie : i = l.length := by omega
      subst hie
      rw [List.take_length] at hown
      go_wp2_with fail
      go_ret
      exact ⟨_, rfl, hown, hU⟩
end Go.Proofs.YthfbfdkjgkkpcaaGreat

namespace Go.Proofs.YthfbfdkjgkkpcaaGreat
open Go Go.RowKit

/-- The record that bytes begin with, if its sum is right. -/
def frame1 (b : List UInt8) : Option (List UInt8) :=
  match wordB b 0, wordB b 4 with
  | some n, some s => if n ≤ 1048576 ∧ n ≤ b.length - 8 ∧ crcB (putB n 4 ++ (b.drop 8).take n) = s then some ((b.drop 8).take n) else none
  | _, _ => none
theorem frame1_len {b p : List UInt8} (h : frame1 b = some p) : 8 + p.length ≤ b.length ∧ p.length ≤ 1048576 := by
  unfold frame1 at h
  split at h
  · rename_i n s h0 h4
    split at h
    · rename_i hc
      cases h
      have : 4 + 4 ≤ b.length := by
        unfold wordB at h4
        split at h4
        · assumption
        · cases h4
      simp
      omega
    · cases h
  · cases h
/-- The records of a journal's bytes, and how far they reach. -/
def scanB (b : List UInt8) : List (List UInt8) × Nat :=
  match h : frame1 b with
  | none => ([], 0)
  | some p => (p :: (scanB (b.drop (8 + p.length))).1, 8 + p.length + (scanB (b.drop (8 + p.length))).2)
termination_by b.length
decreasing_by
  all_goals
    have := frame1_len h
    simp
    omega
theorem scanB_none {b : List UInt8} (h : frame1 b = none) : scanB b = ([], 0) := by
  rw [scanB]
  split
  · rfl
  · rename_i p hp; rw [h] at hp; cases hp
theorem scanB_some {b p : List UInt8} (h : frame1 b = some p) : scanB b = (p :: (scanB (b.drop (8 + p.length))).1, 8 + p.length + (scanB (b.drop (8 + p.length))).2) := by
  rw [scanB]
  split
  · rename_i hp; rw [h] at hp; cases hp
  · rename_i q hp; rw [h] at hp; cases hp; rfl
theorem wordB_drop (b : List UInt8) (i k : Nat) (h : i ≤ b.length) : wordB (b.drop i) k = wordB b (i + k) := by
  unfold wordB
  rw [List.length_drop, List.drop_drop]
  by_cases hc : i + k + 4 ≤ b.length
  · rw [if_pos hc, if_pos (by omega)]
  · rw [if_neg hc, if_neg (by omega)]

/-- The cells of rows of bytes; a slice of them, and the call's own one. -/
def BCells (w : World) : List Value → List (List UInt8) → Prop
  | [], [] => True
  | v :: r, p :: l => By w v p ∧ BCells w r l
  | _, _ => False
theorem BCells.upd {S : List Nat} {w w' : World} (hU : Upd S w w') (hS : Off w 5 S) : ∀ {cs : List Value} {l : List (List UInt8)}, BCells w cs l → BCells w' cs l
  | [], [], _ => trivial
  | _ :: _, _ :: _, h => ⟨h.1.upd hU hS, BCells.upd hU hS h.2⟩
theorem BCells.append {w : World} {ds : List Value} {m : List (List UInt8)} (hd : BCells w ds m) : ∀ {cs : List Value} {l : List (List UInt8)}, BCells w cs l → BCells w (cs ++ ds) (l ++ m)
  | [], [], _ => hd
  | _ :: _, _ :: _, h => ⟨h.1, BCells.append hd h.2⟩
theorem BCells.get {w : World} : ∀ {cs : List Value} {l : List (List UInt8)}, BCells w cs l → ∀ {i : Nat} {p : List UInt8}, l[i]? = some p → ∃ pv, cs[i]? = some pv ∧ By w pv p
  | [], [], _, _, _, h => by simp at h
  | a :: r, p0 :: l, hc, 0, c, h => by
    simp only [List.getElem?_cons_zero, Option.some.injEq] at h
    subst h
    exact ⟨a, rfl, hc.1⟩
  | a :: r, p0 :: l, hc, i + 1, c, h => by
    simp only [List.getElem?_cons_succ] at h ⊢
    exact BCells.get hc.2 h
def Recs (w : World) (v : Value) (l : List (List UInt8)) : Prop := ∃ cells, Rd w 36 1 v l.length cells ∧ BCells w cells l
def OwnRecs (w : World) (B : Nat) (v : Value) (l : List (List UInt8)) : Prop := ∃ cells, w.ownsRow B 36 1 v l.length cells ∧ BCells w cells l
theorem OwnRecs.recs {w : World} {B : Nat} {v : Value} {l : List (List UInt8)} (h : OwnRecs w B v l) : Recs w v l := by
  obtain ⟨cells, h1, h2⟩ := h
  exact ⟨cells, Rd.of_own h1, h2⟩
theorem OwnRecs.upd0 {w w' : World} {B : Nat} {v : Value} {l : List (List UInt8)} (h : OwnRecs w B v l) (hU : Upd [] w w') : OwnRecs w' B v l := by
  obtain ⟨cells, h1, h2⟩ := h
  exact ⟨cells, Own.upd0 h1 hU, h2.upd hU (Off.nil _ _)⟩
theorem OwnRecs.mono {w : World} {B B' : Nat} {v : Value} {l : List (List UInt8)} (h : OwnRecs w B v l) (hB : B' ≤ B) : OwnRecs w B' v l := by
  obtain ⟨cells, h1, h2⟩ := h
  exact ⟨cells, Own.mono h1 hB, h2⟩
theorem OwnRecs.nil (w : World) (B : Nat) : OwnRecs w B (.slice none 0 0) [] := ⟨[], World.ownsRow_nil _ _ _ _, trivial⟩
theorem Recs.upd {S : List Nat} {w w' : World} {v : Value} {l : List (List UInt8)} (h : Recs w v l) (hU : Upd S w w') (h1 : Off w 5 S) (h2 : Off w 36 S) : Recs w' v l := by
  obtain ⟨cells, ha, hb⟩ := h
  exact ⟨cells, ha.upd hU h2, hb.upd hU h1⟩
theorem Recs.upd0 {w w' : World} {v : Value} {l : List (List UInt8)} (h : Recs w v l) (hU : Upd [] w w') : Recs w' v l := h.upd hU (Off.nil _ _) (Off.nil _ _)
theorem Recs.nil (w : World) : Recs w (.slice none 0 0) [] := ⟨[], Rd.nil _ _ _, trivial⟩
theorem Recs.shape {w : World} {v : Value} {l : List (List UInt8)} (h : Recs w v l) : ∃ ao cap, v = .slice ao l.length cap := by
  obtain ⟨cells, h1, _⟩ := h
  obtain ⟨ao, cap, h2, _⟩ := h1.shape
  exact ⟨ao, cap, h2⟩
theorem elRec : Elem Tryz.prog 22 36 1 24 := ⟨by kernel_rfl, by omega, by
  obtain ⟨i, h1, h2, h3, h4⟩ := info_parts (P := Tryz.prog) (e := 36) (z := .slice none 0 0) (size := 1) (bytes := 24) (by kernel_rfl)
  exact ⟨i, _, h1, h2, h3, h4, rfl⟩⟩
section
variable {ops : Array Oper} {Q : Exit → Act → World → Prop} {a : Act} {w : World} {rest : List Oper} {o : Oper}
theorem wpl_append_rec (hw : Region.wanted o (yielded ops a.tmps) = true) {s x : Operand} (ho : o.op = .call { callee := .builtin .append, args := #[s, x], argTypes := #[22, 22] })
    {w0 : World} (hU : Upd [] w0 w) {v y pv : Value} {l : List (List UInt8)} {p : List UInt8} (hown : OwnRecs w w0.heap.size v l) (hs : a.eval s = v) (hR : Rd w 36 1 y 1 [pv]) (hx : a.eval x = y) (hpv : By w pv p) (hb : l.length + 1 ≤ 1000000001)
    (hK : ∀ v' w', OwnRecs w' w0.heap.size v' (l ++ [p]) → Upd [] w0 w' → wpList Tryz.prog ops Q rest (a.put o.dst v') w') : wpList Tryz.prog ops Q (o :: rest) a w := by
  obtain ⟨cells, ho1, hC⟩ := hown
  obtain ⟨ao, cap, rfl⟩ := By.val hpv
  obtain ⟨v', w', r1, r2, r3, r4⟩ := app_row (P := Tryz.prog) elRec hU ho1 hR (by intro u hu; simp at hu; subst hu; rfl) (by unfold maxLen; omega) (by omega) o.type
  have hoff : Off w 5 v.ownBlock.toList := Own.off ho1 (by decide)
  have hd : BCells w' [.slice ao p.length cap] [p] := ⟨hpv.upd r3 hoff, trivial⟩
  exact wpl_run hw (v := v') (w' := w') (by simp [execOp, ho, resolve, invoke, builtin, hs, hx, r1, Result.andThen]) (hK v' w' ⟨cells ++ [.slice ao p.length cap], by rw [List.length_append]; exact r2, hd.append (hC.upd r3 hoff)⟩ r4)
end

def ScanRel (w : World) (b : List UInt8) (x v : Value) (wr : World) : Prop :=
  ∃ (i : Nat) (o : List (List UInt8)), x = .int .i64 i ∧ i ≤ b.length ∧ o.length ≤ i ∧ OwnRecs wr w.heap.size v o ∧ Upd [] w wr ∧ scanB b = (o ++ (scanB (b.drop i)).1, i + (scanB (b.drop i)).2)
def ScanPost (w : World) (r : List (List UInt8) × Nat) (e : Ending) (w' : World) : Prop := ∃ v, e = .returned (.tuple #[v, .int .i64 r.2]) ∧ OwnRecs w' w.heap.size v r.1 ∧ Upd [] w w'
set_option maxRecDepth 100000 in
set_option maxHeartbeats 2000000 in
theorem journal_Scan (w : World) (p : Value) (b : List UInt8) (hp : By w p b) (hl : b.length ≤ 100000000) :
    Calls Tryz.prog 61 #[p] w (ScanPost w (scanB b)) := by
  obtain ⟨ao, cap, rfl⟩ := By.val hp
  have HL := Lib.hid hl; clear hl
  go_enter Tryz.func61, Tryz.ntmps61
  go_wp2_with fail
  go_loopw [5, 4] (fun x v wr => ScanRel w b x v wr) (fun x _ _ => b.length - (intOf x).toNat)
  case atStart => exact ⟨0, [], rfl, Nat.zero_le _, Nat.zero_le _, OwnRecs.nil _ _, Upd.refl _ _, by simp⟩
  case round =>
    obtain ⟨i, o, rfl, hi, hoi, hown, hU, hsc⟩ := hrel
    have hll := HL.out
    have hbr := hp.upd0 hU
    have hw1 := octet_Word wr _ b hbr i (by omega) (by omega)
    have hw2 := octet_Word wr _ b hbr (i + 4) (by omega) (by omega)
    obtain ⟨ao4, cap4, hs4⟩ := hown.recs.shape
    subst hs4
    have hF : frame1 (b.drop i) = match wordB b i, wordB b (i + 4) with
      | some n, some s => if n ≤ 1048576 ∧ n ≤ (b.drop i).length - 8 ∧ crcB (putB n 4 ++ ((b.drop i).drop 8).take n) = s then some (((b.drop i).drop 8).take n) else none
      | _, _ => none := by
      unfold frame1
      rw [wordB_drop b i 0 hi, wordB_drop b i 4 hi, Nat.add_zero]
    rw [show ((i + 4 : Nat) : Int) = (i : Int) + 4 from by omega] at hw2
    have HSC := Lib.hid hsc; have HOWN := Lib.hid hown
    have HSTOP := Lib.hid (fun (hn : frame1 (b.drop i) = none) => show ScanPost w (scanB b) (.returned (.tuple #[.slice ao4 o.length cap4, .int .i64 i])) wr from by
      rw [HSC.out, scanB_none hn]
      exact ⟨_, rfl, by simpa using HOWN.out, hU⟩)
    clear hsc
    cases hq1 : wordB b i with
    | none =>
      have HR := Lib.hid (HSTOP.out (by rw [hF, hq1]))
      rw [hq1] at hw1
      clear hF hq1
      go_wp2_with (first
        | (go_at_call 125; (have hgo := hdone); refine hw2.mono ?_; rintro e w9 ⟨rfl, rfl⟩)
        | (go_at_call 125; refine hw1.mono ?_; rintro e w9 ⟨rfl, rfl⟩; (have hdone := True.intro)))
      go_ret2
      exact HR.out
    | some n =>
      rw [hq1] at hw1
      cases hq2 : wordB b (i + 4) with
      | none =>
        have HR := Lib.hid (HSTOP.out (by rw [hF, hq1, hq2]))
        rw [hq2] at hw2
        clear hF hq1 hq2
        go_wp2_with (first
          | (go_at_call 125; (have hgo := hdone); refine hw2.mono ?_; rintro e w9 ⟨rfl, rfl⟩)
          | (go_at_call 125; refine hw1.mono ?_; rintro e w9 ⟨rfl, rfl⟩; (have hdone := True.intro)))
        go_ret2
        exact HR.out
      | some s =>
        rw [hq2] at hw2
        rw [hq1, hq2] at hF
        dsimp only at hF
        have HN32 := Lib.hid (wordB_lt hq1)
        have h8 : i + 8 ≤ b.length := by
          unfold wordB at hq2
          split at hq2
          · omega
          · cases hq2
        clear hq1 hq2
        by_cases hn : n ≤ 1048576
        · have c1 : decide ((1048576 : Int) < (n : Int)) = false := by simp; omega
          by_cases hnl : n ≤ (b.drop i).length - 8
          · have hle : i + 8 + n ≤ b.length := by simp at hnl; omega
            have c2 : decide ((b.length : Int) - (i : Int) - 8 < (n : Int)) = false := by simp; omega
            have hcut : ((b.drop i).drop 8).take n = (b.drop (i + 8)).take n := by rw [List.drop_drop]
            rw [hcut] at hF
            have hpl : ((b.drop (i + 8)).take n).length = n := by simp; omega
            obtain ⟨q, hq⟩ : ∃ q, q = (b.drop (i + 8)).take n := ⟨_, rfl⟩
            rw [← hq] at hF hpl
            have HQ := Lib.hid hq
            clear hq hcut
            have hput := octet_Put n 4 ⟨by have := HN32.out; omega⟩ (by omega)
            have HPL := Lib.hid (putB_length n 4)
            have hql : (putB n 4).length + q.length ≤ 1073741824 := by rw [putB_length, hpl]; omega
            have HQL := Lib.hid hql
            have HPQ := Lib.hid hpl
            generalize putB n 4 = pb at *
            generalize hcr : crcB (pb ++ q) = cr at *
            have hcrc := fun (v : Value) (w4 : World) (h : By w4 v (pb ++ q)) => octet_Crc v (pb ++ q) w4 h
            rw [hcr] at hcrc
            clear hql hcr hpl
            by_cases hs : cr = s
            · have c3 : ((cr : Int) != (s : Int)) = false := by rw [hs]; simp
              have hfr : frame1 (b.drop i) = some q := by rw [hF, if_pos ⟨hn, hnl, hs⟩]
              have hstep : scanB b = ((o ++ [q]) ++ (scanB (b.drop (i + (8 + n)))).1, (i + (8 + n)) + (scanB (b.drop (i + (8 + n)))).2) := by
                rw [HSC.out, scanB_some hfr, HPQ.out, List.drop_drop]
                simp [Nat.add_assoc]
              have HREL := Lib.hid (fun (v7 : Value) (w7 : World) (h7 : OwnRecs w7 w.heap.size v7 (o ++ [q])) (hU7 : Upd [] w w7) => show ScanRel w b (.int .i64 ((i : Int) + (8 + (n : Int)))) v7 w7 from
                ⟨i + (8 + n), o ++ [q], by simp, by omega, by simp; omega, h7, hU7, hstep⟩)
              have hol : o.length + 1 ≤ 1000000001 := by omega
              have HOL := Lib.hid hol
              have hq0 : ([] : List UInt8).length + q.length ≤ 1073741824 := by rw [List.length_nil, HPQ.out]; omega
              have HQ0 := Lib.hid hq0
              clear hF hs hfr hstep hnl hol hq0
              go_wp2_with (first
                | ((with_reducible show wpList _ _ _ (⟨_, .call ⟨.builtin .append, _, _⟩, _, _, _, _⟩ :: _) _ _); (have hgo := hU9); refine wpl_append_rec rfl rfl (hU09.trans0 hU9) (hown09.upd0 hU9) rfl (Rd.of_own hv9) rfl (hb8.upd0 hU9) HOL.out ?_; intro v7 w7 hv7 hU7)
                | ((with_reducible show wpList _ _ _ (⟨_, .buildSlice _ _ _, _, _, _, _⟩ :: _) _ _); (have hgo := hb8); refine wpl_lit elRec rfl rfl rfl (cs := [.slice ao8 q.length cap8]) rfl rfl (by omega) ?_; intro v9 w9 hv9 hU9 _)
                | ((with_reducible show wpList _ _ _ (⟨_, .call ⟨.builtin .append, _, _⟩, _, _, _, _⟩ :: _) _ _); (have hgo := hU6); refine wpl_append_by (l := []) elU8 rfl rfl hU6 hv6 rfl hb6 rfl HQ0.out ?_; intro v8 w8 hv8 _ hU8 _; (have hb8 : By w8 v8 q := by have := hv8.by; simpa using this); obtain ⟨ao8, cap8, hs8⟩ := By.val hb8; subst hs8; (have hU09 := hU.trans0 (hU04.trans0 hU8)); (have hown09 := HOWN.out.upd0 (hU04.trans0 hU8)))
                | (with_reducible show wpList _ _ _ (⟨_, .buildSlice _ _ _, _, _, _, _⟩ :: _) _ _; refine wpl_lit0 elU8 rfl rfl ?_; intro v6 w6 hv6 hU6 _; obtain ⟨ao6, cap6, hs6, _⟩ := (Rd.of_own hv6).shape; subst hs6; (have hU06 := hU04.trans0 hU6); (have hb6 := hb3.upd0 hU6))
                | (go_at_call 126; refine (hcrc v4 w4 hv4.by).mono ?_; rintro e w5 ⟨rfl, rfl⟩)
                | ((with_reducible show wpList _ _ _ (⟨_, .call ⟨.builtin .append, _, _⟩, _, _, _, _⟩ :: _) _ _); (have hgo := hU2); refine wpl_append_by elU8 rfl rfl hU2 hv2 rfl hb2 rfl HQL.out ?_; intro v4 w4 hv4 _ hU04 _; (have hb3 := hb1.upd0 hU04))
                | (go_at_call 112; refine (hput _).mono ?_; rintro e w2 ⟨v2, rfl, hv2, hU2⟩; obtain ⟨ao2, cap2, hs2⟩ := By.val hv2.by; subst hs2; (have hb2 := hb1.upd0 hU2))
                | ((with_reducible show wpList _ _ _ (⟨_, .slice _ _ _ _ _, _, _, _, _⟩ :: _) _ _); refine wpl_cut_by (n := i + 8) (m := n) elU8 rfl rfl hbr rfl rfl rfl (by omega) (by omega) hle ?_; intro v1 hb1 _; rw [← HQ.out] at hb1; obtain ⟨ao1, cap1, hs1⟩ := By.val hb1; subst hs1)
                | (go_at_call 125; (have hgo := hdone); refine hw2.mono ?_; rintro e w9 ⟨rfl, rfl⟩)
                | (go_at_call 125; refine hw1.mono ?_; rintro e w9 ⟨rfl, rfl⟩; (have hdone := True.intro)))
              exact ⟨HREL.out v7 w7 hv7 hU7, by simp [intOf]; omega⟩
            · have c3 : ((cr : Int) != (s : Int)) = true := by simp; omega
              have HSB := Lib.hid (show scanB b = (o, i) from by rw [HSC.out, scanB_none (by rw [hF, if_neg (fun h => hs h.2.2)])]; simp)
              clear hF hs hnl
              go_wp2_with (first
                | (go_at_call 126; refine (hcrc v4 w4 hv4.by).mono ?_; rintro e w5 ⟨rfl, rfl⟩)
                | ((with_reducible show wpList _ _ _ (⟨_, .call ⟨.builtin .append, _, _⟩, _, _, _, _⟩ :: _) _ _); (have hgo := hU2); refine wpl_append_by elU8 rfl rfl hU2 hv2 rfl hb2 rfl HQL.out ?_; intro v4 w4 hv4 _ hU04 _; (have hb3 := hb1.upd0 hU04))
                | (go_at_call 112; refine (hput _).mono ?_; rintro e w2 ⟨v2, rfl, hv2, hU2⟩; obtain ⟨ao2, cap2, hs2⟩ := By.val hv2.by; subst hs2; (have hb2 := hb1.upd0 hU2))
                | ((with_reducible show wpList _ _ _ (⟨_, .slice _ _ _ _ _, _, _, _, _⟩ :: _) _ _); refine wpl_cut_by (n := i + 8) (m := n) elU8 rfl rfl hbr rfl rfl rfl (by omega) (by omega) hle ?_; intro v1 hb1 _; rw [← HQ.out] at hb1; obtain ⟨ao1, cap1, hs1⟩ := By.val hb1; subst hs1)
                | (go_at_call 125; (have hgo := hdone); refine hw2.mono ?_; rintro e w9 ⟨rfl, rfl⟩)
                | (go_at_call 125; refine hw1.mono ?_; rintro e w9 ⟨rfl, rfl⟩; (have hdone := True.intro)))
              go_ret2
              rw [HSB.out]
              exact ⟨_, rfl, HOWN.out.upd0 hU04, hU.trans0 hU04⟩
          · have c2 : decide ((b.length : Int) - (i : Int) - 8 < (n : Int)) = true := by simp at hnl; simp; omega
            have HR := Lib.hid (HSTOP.out (by rw [hF, if_neg (fun h => hnl h.2.1)]))
            clear hF hnl
            go_wp2_with (first
              | (go_at_call 125; (have hgo := hdone); refine hw2.mono ?_; rintro e w9 ⟨rfl, rfl⟩)
              | (go_at_call 125; refine hw1.mono ?_; rintro e w9 ⟨rfl, rfl⟩; (have hdone := True.intro)))
            go_ret2
            exact HR.out
        · have c1 : decide ((1048576 : Int) < (n : Int)) = true := by simp; omega
          have HR := Lib.hid (HSTOP.out (by rw [hF, if_neg (fun h => hn h.1)]))
          clear hF
          go_wp2_with (first
            | (go_at_call 125; (have hgo := hdone); refine hw2.mono ?_; rintro e w9 ⟨rfl, rfl⟩)
            | (go_at_call 125; refine hw1.mono ?_; rintro e w9 ⟨rfl, rfl⟩; (have hdone := True.intro)))
          go_ret2
          exact HR.out
end Go.Proofs.YthfbfdkjgkkpcaaGreat

namespace Go.Proofs.YthfbfdkjgkkpcaaGreat
open Go Go.RowKit

def ReadPost (w : World) (r : List UInt8 × Nat) (e : Ending) (w' : World) : Prop := ∃ v, e = .returned (.tuple #[v, .int .i64 r.2]) ∧ OwnBy w' w.heap.size v r.1 ∧ Upd [] w w'
/-- A file is read whole. -/
def DSt.readAll (D : DSt) (name : List UInt8) : List UInt8 × Nat := if D.there name = 0 then ((aget name D.now).getD [], 0) else ([], D.there name)
set_option maxRecDepth 100000 in
theorem disk_readAll (w : World) (d : Nat) (S : List Nat) (D : DSt) (h : DiskAt w d S D) (name : List UInt8) (hl : ((aget name D.now).getD []).length ≤ 1000000000) :
    Calls Tryz.prog 60 #[.pointer (some ⟨d, 0, none⟩), encS name, .int .i64 0, .int .i64 ((aget name D.now).getD []).length] w (ReadPost w (D.readAll name)) := by
  have ht := disk_there w d S D h name
  obtain ⟨nb, sb, lv, cells, rfl, hd, hnb, _⟩ := h.ex
  have c1 : w.cell? ⟨d, 1, none⟩ = some (.map (some nb)) := by rw [cell_lit w d 1 _ _ _ hd]; rfl
  obtain ⟨es, hW, _, _, hby⟩ := hnb.find
  have hb := hby name
  obtain ⟨ao, cap, hv⟩ := hb.val
  rw [hv] at hb
  clear hd hnb hby
  have hF : D.readAll name = if D.there name = 0 then ((aget name D.now).getD [], 0) else ([], D.there name) := rfl
  generalize D.there name = t at *
  generalize (aget name D.now).getD [] = b at *
  by_cases h0 : t = 0
  · subst h0
    rw [if_pos rfl] at hF
    have HF := Lib.hid hF
    have hcl := fun (v : Value) (h : By w v b) => slices_clone w v _ h (by omega)
    have n0 : decide ((b.length : Int) < 0) = false := by simp
    have m1 : decide ((b.length : Int) < (b.length : Int)) = false := by simp
    clear hF
    go_enter Tryz.func60, Tryz.ntmps60
    go_wp2_with (first
      | (go_at_call 122; refine ht.mono ?_; rintro e w1 ⟨rfl, rfl⟩)
      | ((with_reducible show wpList _ _ _ (⟨_, .lookup _ _ _ _, _, _, _, _⟩ :: _) _ _); refine wpl_lookup mapFiles rfl rfl hW rfl name rfl _ hv ?_)
      | ((with_reducible show wpList _ _ _ (⟨_, .slice _ _ _ _ _, _, _, _, _⟩ :: _) _ _); (have hgo := hv1); refine wpl_to_by (n := b.length) elU8 rfl rfl hv1 rfl rfl rfl (Nat.le_refl _) ?_; intro v2 hv2 _; rw [List.take_length] at hv2)
      | ((with_reducible show wpList _ _ _ (⟨_, .slice _ _ _ _ _, _, _, _, _⟩ :: _) _ _); refine wpl_from_by (n := 0) elU8 rfl rfl hb rfl rfl (by omega) (by omega) ?_; intro v1 hv1 _; rw [List.drop_zero] at hv1; obtain ⟨ao1, cap1, hs1⟩ := By.val hv1; subst hs1)
      | (go_at_call 107; refine (hcl v2 hv2).mono ?_; rintro e w3 ⟨v3, rfl, hv3, hU3⟩))
    go_ret2
    rw [HF.out]
    exact ⟨v3, rfl, hv3, hU3⟩
  · have h1 : ((t : Int) != 0) = true := by simp; omega
    rw [if_neg h0] at hF
    have HF := Lib.hid hF
    clear hF h0
    go_enter Tryz.func60, Tryz.ntmps60
    go_wp2_with (first
      | (go_at_call 122; refine ht.mono ?_; rintro e w1 ⟨rfl, rfl⟩))
    go_ret2
    rw [HF.out]
    exact ⟨_, rfl, World.ownsRow_nil _ _ _ _, Upd.refl _ _⟩
theorem DSt.remove_eq (D : DSt) (name : List UInt8) : D.remove name = if D.there name = 0 then D.does ⟨2, name, [], []⟩ else (D, D.there name) := by
  unfold DSt.remove DSt.there
  cases D.down <;> cases (aget name D.now).isNone <;> simp
theorem DSt.rename_eq (D : DSt) (a b : List UInt8) : D.rename a b = if D.there a = 0 then (if isName b = false then (D, 1) else D.does ⟨3, a, b, []⟩) else (D, D.there a) := by
  unfold DSt.rename DSt.there
  cases D.down <;> cases (aget a D.now).isNone <;> simp
theorem disk_remove (w : World) (d : Nat) (S : List Nat) (D : DSt) (h : DiskAt w d S D) (name : List UInt8) (hl : D.loose.length ≤ 1000000000) :
    Calls Tryz.prog 89 #[.pointer (some ⟨d, 0, none⟩), encS name] w (DPost w d S (D.remove name)) := by
  have ht := disk_there w d S D h name
  have hF := D.remove_eq name
  have hdo := disk_does w d S D h ⟨2, name, [], []⟩ (.slice none 0 0) (by simp) (Rd.nil _ _ _) (by simp) (by simp) hl
  have HP := Lib.hid (fun k (hk : D.remove name = (D, k)) => show DPost w d S (D.remove name) (.returned (.int .i64 (k : Nat))) w from by
    rw [hk]
    exact ⟨rfl, S, h, Upd.refl _ _, Sub.refl _ _⟩)
  clear h hl
  generalize D.there name = t at *
  by_cases h0 : t = 0
  · subst h0
    rw [if_pos rfl] at hF
    rw [← hF] at hdo
    clear hF
    go_enter Tryz.func89, Tryz.ntmps89
    go_wp2_with (first
      | (go_at_call 122; refine ht.mono ?_; rintro e w1 ⟨rfl, rfl⟩)
      | (go_at_call 123; refine hdo.mono ?_; rintro e w1 ⟨rfl, hpo⟩))
    go_ret
    exact ⟨rfl, hpo⟩
  · rw [if_neg h0] at hF
    have h1 : ((t : Int) != 0) = true := by simp; omega
    have HP' := Lib.hid (HP.out t hF)
    clear hF h0 hdo
    go_enter Tryz.func89, Tryz.ntmps89
    go_wp2_with (first
      | (go_at_call 122; refine ht.mono ?_; rintro e w1 ⟨rfl, rfl⟩))
    go_ret
    exact HP'.out
theorem disk_rename (w : World) (d : Nat) (S : List Nat) (D : DSt) (h : DiskAt w d S D) (a b : List UInt8) (hb : b.length ≤ 9223372036854775807) (hl : D.loose.length ≤ 1000000000) :
    Calls Tryz.prog 90 #[.pointer (some ⟨d, 0, none⟩), encS a, encS b] w (DPost w d S (D.rename a b)) := by
  have ht := disk_there w d S D h a
  have hF := D.rename_eq a b
  have hnm := disk_isName w b hb
  have hdo := disk_does w d S D h ⟨3, a, b, []⟩ (.slice none 0 0) (by simp) (Rd.nil _ _ _) (by simp) (by simp) hl
  have HP := Lib.hid (fun k (hk : D.rename a b = (D, k)) => show DPost w d S (D.rename a b) (.returned (.int .i64 (k : Nat))) w from by
    rw [hk]
    exact ⟨rfl, S, h, Upd.refl _ _, Sub.refl _ _⟩)
  clear h hl hb
  generalize D.there a = t at *
  by_cases h0 : t = 0
  · subst h0
    rw [if_pos rfl] at hF
    cases hq : isName b with
    | false =>
      rw [hq] at hF hnm
      have HP' := Lib.hid (HP.out 1 (by rw [hF]; simp))
      clear hF hdo hq
      go_enter Tryz.func90, Tryz.ntmps90
      go_wp2_with (first
        | (go_at_call 122; refine ht.mono ?_; rintro e w1 ⟨rfl, rfl⟩)
        | (go_at_call 53; refine hnm.mono ?_; rintro e w1 ⟨rfl, rfl⟩))
      go_ret
      exact HP'.out
    | true =>
      rw [hq] at hF hnm
      rw [if_neg (by simp)] at hF
      rw [← hF] at hdo
      clear hF hq
      go_enter Tryz.func90, Tryz.ntmps90
      go_wp2_with (first
        | (go_at_call 122; refine ht.mono ?_; rintro e w1 ⟨rfl, rfl⟩)
        | (go_at_call 53; refine hnm.mono ?_; rintro e w1 ⟨rfl, rfl⟩)
        | (go_at_call 123; refine hdo.mono ?_; rintro e w1 ⟨rfl, hpo⟩))
      go_ret
      exact ⟨rfl, hpo⟩
  · rw [if_neg h0] at hF
    have h1 : ((t : Int) != 0) = true := by simp; omega
    have HP' := Lib.hid (HP.out t hF)
    clear hF h0 hdo
    go_enter Tryz.func90, Tryz.ntmps90
    go_wp2_with (first
      | (go_at_call 122; refine ht.mono ?_; rintro e w1 ⟨rfl, rfl⟩))
    go_ret
    exact HP'.out
theorem disk_fuse (w : World) (d : Nat) (S : List Nat) (D : DSt) (h : DiskAt w d S D) (n : Int) (hn : n ≤ 9223372036854775807) :
    Calls Tryz.prog 49 #[.pointer (some ⟨d, 0, none⟩), .int .i64 n] w (DPost w d S (D.setFuse n)) := by
  have hup := disk_up w d S D h
  obtain ⟨nb, sb, lv, cells, hS, hd, _⟩ := h.ex
  have c4 : w.cell? ⟨d, 4, none⟩ = some (.int .i64 D.fuse) := by rw [cell_lit w d 4 _ _ _ hd]; rfl
  have f4 := frozen_lit w d 4 _ _ hd
  by_cases hdn : D.down = true
  · simp only [hdn, if_true] at hup
    have HP := Lib.hid (show DPost w d S (D.setFuse n) (.returned (.int .i64 (5 : Nat))) w from by
      unfold DSt.setFuse
      rw [if_pos hdn]
      exact ⟨rfl, S, h, Upd.refl _ _, Sub.refl _ _⟩)
    clear h hd
    go_enter Tryz.func49, Tryz.ntmps49
    go_wp2_with (go_at_call 118; refine hup.mono ?_; rintro e w1 ⟨rfl, rfl⟩)
    go_ret
    exact HP.out
  · have hdn' : D.down = false := by simpa using hdn
    simp only [hdn', Bool.false_eq_true, if_false] at hup
    have HD := Lib.hid hd
    have HP := Lib.hid (fun (m : Int) (hm : m = max n (-1)) => show DPost w d S (D.setFuse n) (.returned (.int .i64 (0 : Nat))) (w.setCell ⟨d, 4, none⟩ (.int .i64 m)) from by
      unfold DSt.setFuse
      rw [if_neg (by simp [hdn']), ← hm]
      refine ⟨rfl, S, ?_, (Upd.setCell (S := [d]) _ _ _ (by simp)).mono (fun i hi _ => by simp at hi; subst hi; rw [hS]; simp), Sub.refl _ _⟩
      have := h.poke m D.down (w' := w.setCell ⟨d, 4, none⟩ (.int .i64 m)) (Upd.setCell _ _ _ (by simp)) (by
        intro c hc
        rw [setCell_get hc]
        rw [HD.out] at hc
        cases hc
        rfl) (by omega) (by omega)
      exact this)
    clear h hd hS
    go_enter Tryz.func49, Tryz.ntmps49
    go_wp2_with (go_at_call 118; refine hup.mono ?_; rintro e w1 ⟨rfl, rfl⟩)
    all_goals
      go_ret
      exact HP.out _ (by omega)
end Go.Proofs.YthfbfdkjgkkpcaaGreat

namespace Go.Proofs.YthfbfdkjgkkpcaaGreat
open Go Go.RowKit

set_option maxRecDepth 100000 in
theorem maps_clone (w : World) (b : Nat) (es : Array MapEntry) (clock : Nat) (hb : w.heap[b]? = some (.map es clock)) :
    Calls Tryz.prog 120 #[.map (some b)] w fun e w' => e = .returned (.map (some w.heap.size)) ∧ w' = w.alloc (.map es clock) := by
  have hq := fun w => run_eql_map_nil_sl (P := Tryz.prog) w 113 _ _ (some b) Tryz.underlying113
  go_enter Tryz.func120, Tryz.ntmps120
  go_wp2
  rw [run_callFunc_extern Tryz.func162 (by kernel_rfl) (by kernel_rfl) (by kernel_rfl) (e := Extern.MapsClone.clone) (by kernel_rfl), run_maps_clone_sl w 113 hb]
  simp only [Result.andThen]
  rw [Oper.upon_value]
  go_wp2
  rw [run_typeAssert_map_sl _ 113 _ _ _ _ Tryz.underlying113]
  simp only [Result.andThen]
  rw [Oper.upon_value]
  go_wp2
  go_ret
  exact ⟨rfl, rfl⟩
section
variable {P : Program} {ops : Array Oper} {Q : Exit → Act → World → Prop} {a : Act} {w : World} {rest : List Oper} {o : Oper}
theorem wpl_min (hw : Region.wanted o (yielded ops a.tmps) = true) {x y : Operand} {T U : Nat} (ho : o.op = .call { callee := .builtin .min, args := #[x, y], argTypes := #[T, U] }) {i j : Int} (hx : a.eval x = .int .i64 i) (hy : a.eval y = .int .i64 j) (m : Int) (hm : m = min i j)
    (hK : wpList P ops Q rest (a.put o.dst (.int .i64 m)) w) : wpList P ops Q (o :: rest) a w := by
  refine wpl_run hw (v := .int .i64 m) (w' := w) ?_ hK
  have h : m = if i ≤ j then i else j := by rw [hm]; split <;> omega
  by_cases hij : i ≤ j
  · rw [if_pos hij] at h
    subst h
    simp [execOp, ho, resolve, invoke, builtin, hx, hy, Builtin.min_, Builtin.min2, Result.andThen, hij]
    try omega
  · rw [if_neg hij] at h
    subst h
    simp [execOp, ho, resolve, invoke, builtin, hx, hy, Builtin.min_, Builtin.min2, Result.andThen, hij]
    try omega
theorem wpl_max (hw : Region.wanted o (yielded ops a.tmps) = true) {x y : Operand} {T U : Nat} (ho : o.op = .call { callee := .builtin .max, args := #[x, y], argTypes := #[T, U] }) {i j : Int} (hx : a.eval x = .int .i64 i) (hy : a.eval y = .int .i64 j) (m : Int) (hm : m = max i j)
    (hK : wpList P ops Q rest (a.put o.dst (.int .i64 m)) w) : wpList P ops Q (o :: rest) a w := by
  refine wpl_run hw (v := .int .i64 m) (w' := w) ?_ hK
  by_cases hij : i ≤ j
  · have h : m = j := by omega
    subst h
    simp [execOp, ho, resolve, invoke, builtin, hx, hy, Builtin.max_, Builtin.max2, Result.andThen, hij]
    try omega
  · have h : m = i := by omega
    subst h
    simp [execOp, ho, resolve, invoke, builtin, hx, hy, Builtin.max_, Builtin.max2, Result.andThen, hij]
    try omega
end
/-- The power comes back: some of the loose changes lasted, perhaps a part of one. -/
def DSt.last (D : DSt) (keep part : Int) : List (List UInt8 × List UInt8) :=
  match D.loose[(max 0 (min keep D.loose.length)).toNat]? with
  | some c => if c.kind = 1 then fdo (D.mid (max 0 (min keep D.loose.length)).toNat) ⟨c.kind, c.a, c.b, c.p.take (max 0 (min part c.p.length)).toNat⟩ else D.mid (max 0 (min keep D.loose.length)).toNat
  | none => D.mid (max 0 (min keep D.loose.length)).toNat
def DSt.crash (D : DSt) (keep part : Int) : DSt := ⟨D.room, D.last keep part, D.last keep part, [], -1, false⟩
theorem MapB.clone {w : World} {b : Nat} {m : List (List UInt8 × List UInt8)} (h : MapB w b m) : ∃ arr clock, w.heap[b]? = some (.map arr clock) ∧ MapB (w.alloc (.map arr clock)) w.heap.size m := by
  obtain ⟨es, m', hW, hV, hP⟩ := h
  obtain ⟨arr, clock, hb, hE, hn, hl⟩ := hW.ex
  exact ⟨arr, clock, hb, es, m', ⟨⟨arr, clock, heap_alloc_new w _, hE, hn, hl⟩, hW.nodup⟩, hV.upd (Upd.alloc [] _ _) (Off.nil _ _), hP⟩
theorem mid_nodup {D : DSt} (h : DInv D) (k : Nat) : ((D.mid k).map (·.1)).Nodup := by
  unfold DSt.mid
  exact foldl_fdo_nodup _ h.nodup
theorem last_used {D : DSt} (h : DInv D) (keep part : Int) : used (D.last keep part) ≤ D.room ∧ ((D.last keep part).map (·.1)).Nodup := by
  unfold DSt.last
  generalize (max 0 (min keep (D.loose.length : Int))).toNat = k
  split
  · rename_i c hc
    split
    · rename_i hk
      refine ⟨?_, fdo_nodup (mid_nodup h k) _⟩
      have h1 := h.fits (k + 1)
      rw [D.mid_succ k c hc] at h1
      refine Nat.le_trans ?_ h1
      unfold fdo
      simp only [hk]
      rw [if_neg (by decide), if_pos trivial, if_neg (by decide), if_pos trivial, used_fput, used_fput]
      simp
      omega
    · exact ⟨h.fits k, mid_nodup h k⟩
  · exact ⟨h.fits k, mid_nodup h k⟩
theorem crash_inv {D : DSt} (h : DInv D) (keep part : Int) : DInv (D.crash keep part) := by
  obtain ⟨h1, h2⟩ := last_used h keep part
  exact ⟨h.room, h2, rfl, fun i => by simpa [DSt.mid, DSt.crash] using h1, by show (-1 : Int) ≤ -1; omega, fun c hc => by cases hc⟩
end Go.Proofs.YthfbfdkjgkkpcaaGreat

namespace Go.Proofs.YthfbfdkjgkkpcaaGreat
open Go Go.RowKit

theorem crash_shut {w w1 wc wf : World} {d nb sb : Nat} {S : List Nat} {lv lv0 : Value} {D : DSt} {keep part fu : Int} {dn : Bool} {m : List (List UInt8 × List UInt8)} (hm : D.last keep part = m) (hinv : DInv D) (hS : S = d :: nb :: sb :: lv.ownBlock.toList) (hU : Upd [sb] w w1) (hc : Upd [] w1 wc)
    (hd : wc.heap[d]? = some (.cells #[.int .i64 D.room, .map (some nb), .map (some sb), lv0, .int .i64 fu, .bool dn] 116 (0, 0))) (hn : MapB wc w1.heap.size m) (hs : MapB wc sb m) (hsl : sb < w1.heap.size)
    (hwf : wf = (((wc.setCell ⟨d, 1, none⟩ (.map (some w1.heap.size))).setCell ⟨d, 3, none⟩ (.slice none 0 0)).setCell ⟨d, 4, none⟩ (.int .i64 (-1))).setCell ⟨d, 5, none⟩ (.bool false)) :
    DPost w d S (D.crash keep part, 0) (.returned (.int .i64 (0 : Nat))) wf := by
  have s1 : Upd [d] wc (wc.setCell ⟨d, 1, none⟩ (.map (some w1.heap.size))) := Upd.setCell _ _ _ (by simp)
  have g1 := setCell_get (i := 1) hd (.map (some w1.heap.size))
  have s2 : Upd [d] (wc.setCell ⟨d, 1, none⟩ (.map (some w1.heap.size))) ((wc.setCell ⟨d, 1, none⟩ (.map (some w1.heap.size))).setCell ⟨d, 3, none⟩ (.slice none 0 0)) := Upd.setCell _ _ _ (by simp)
  have g2 := setCell_get (i := 3) g1 (.slice none 0 0)
  have s3 : Upd [d] ((wc.setCell ⟨d, 1, none⟩ (.map (some w1.heap.size))).setCell ⟨d, 3, none⟩ (.slice none 0 0)) (((wc.setCell ⟨d, 1, none⟩ (.map (some w1.heap.size))).setCell ⟨d, 3, none⟩ (.slice none 0 0)).setCell ⟨d, 4, none⟩ (.int .i64 (-1))) := Upd.setCell _ _ _ (by simp)
  have g3 := setCell_get (i := 4) g2 (.int .i64 (-1))
  have s4 : Upd [d] (((wc.setCell ⟨d, 1, none⟩ (.map (some w1.heap.size))).setCell ⟨d, 3, none⟩ (.slice none 0 0)).setCell ⟨d, 4, none⟩ (.int .i64 (-1))) wf := by rw [hwf]; exact Upd.setCell _ _ _ (by simp)
  have g4 := setCell_get (i := 5) g3 (.bool false)
  rw [← hwf] at g4
  have hUd : Upd [d] wc wf := ((s1.trans s2 (fun i hi _ => hi)).trans s3 (fun i hi _ => hi)).trans s4 (fun i hi _ => hi)
  have off : Off wc 5 [d] := Off.cons_cells hd (by decide) (Off.nil _ _)
  refine ⟨rfl, [d, w1.heap.size, sb], ⟨⟨w1.heap.size, sb, .slice none 0 0, [], rfl, ?_, ?_, ?_, by omega, World.ownsRow_nil _ _ _ _, trivial⟩, crash_inv hinv keep part, by show (-1 : Int) ≤ _; omega⟩, ?_, ?_⟩
  · rw [g4]; rfl
  · show MapB wf w1.heap.size (D.last keep part)
    rw [hm]
    exact hn.upd hUd off (by simp; exact hn.ne_cells hd)
  · show MapB wf sb (D.last keep part)
    rw [hm]
    exact hs.upd hUd off (by simp; exact hs.ne_cells hd)
  · have q : Upd S w w1 := hU.mono (fun j hj _ => by simp at hj; subst hj; rw [hS]; simp)
    exact (q.then0 hc).trans hUd (fun j hj _ => by simp at hj; subst hj; rw [hS]; simp)
  · intro j hj
    have := hU.size
    simp at hj
    rcases hj with rfl | rfl | rfl
    · left; rw [hS]; simp
    · right; omega
    · left; rw [hS]; simp
def CrRel (w1 : World) (sb : Nat) (D : DSt) (k : Nat) (x : Value) (wr : World) : Prop := ∃ i : Nat, x = .int .i64 i ∧ i ≤ k ∧ Upd [sb] w1 wr ∧ MapB wr sb (D.mid i)
set_option maxRecDepth 100000 in
set_option maxHeartbeats 4000000 in
theorem disk_crash (w : World) (d : Nat) (S : List Nat) (D : DSt) (h : DiskAt w d S D) (hl : D.loose.length ≤ 1000000000) (keep part : Int) :
    Calls Tryz.prog 50 #[.pointer (some ⟨d, 0, none⟩), .int .i64 keep, .int .i64 part] w (DPost w d S (D.crash keep part, 0)) := by
  obtain ⟨nb, sb, lv, cells, hS, hd, hnb, hsb, hne, hown, hcc⟩ := h.ex
  obtain ⟨ao, cap, hlv, hcap⟩ := (Rd.of_own hown).shape
  subst hlv
  have c2 : w.cell? ⟨d, 2, none⟩ = some (.map (some sb)) := by rw [cell_lit w d 2 _ _ _ hd]; rfl
  have c3 : w.cell? ⟨d, 3, none⟩ = some (.slice ao D.loose.length cap) := by rw [cell_lit w d 3 _ _ _ hd]; rfl
  have hbd : ∀ (i : Nat) (c : Chg), D.loose[i]? = some c → used (D.mid i) + c.p.length ≤ 1073741824 := by
    intro i c hc
    have e1 : used (D.mid i) ≤ D.room := h.inv.fits i
    have e2 := h.inv.room
    have e3 := (h.inv.kinds c (List.mem_of_getElem? hc)).2
    omega
  have hkd : ∀ (i : Nat) (c : Chg), D.loose[i]? = some c → c.kind ≤ 3 := fun i c hc => (h.inv.kinds c (List.mem_of_getElem? hc)).1
  have HB := Lib.hid hbd; have HK := Lib.hid hkd; have H := Lib.hid h; have HC := Lib.hid hcc; have HO := Lib.hid hown; have Hd := Lib.hid hd; have HS := Lib.hid hS; have HL := Lib.hid hl
  have hdsb : d ∉ [sb] := by simp; exact (hsb.ne_cells hd).symm
  have hll : D.loose.length ≤ 1000000000 := hl
  obtain ⟨mm, hmm⟩ : ∃ mm : Int, mm = min keep (D.loose.length : Int) := ⟨_, rfl⟩
  obtain ⟨k, hk, hkl⟩ : ∃ k : Nat, (k : Int) = max 0 mm ∧ k ≤ D.loose.length := ⟨(max 0 mm).toNat, by omega, by omega⟩
  have HKK := Lib.hid (show (max 0 (min keep (D.loose.length : Int))).toNat = k from by omega)
  have hR1 : Rd w 190 4 (.slice ao k cap) k (cells.take (k * 4)) := by
    have h0 := run_cut elChange (Rd.of_own hown) 0 k cap (by omega) hkl (by omega) (by omega)
    have e : (if cap = 0 then ao else ao.map (·.add (0 * 4))) = ao := by
      split
      · rfl
      · cases ao <;> simp [Addr.add]
    rw [e] at h0
    simpa using h0
  have HMM := Lib.hid hmm; have HKX := Lib.hid hk
  clear hbd hkd hcc hown hd hS h hl hmm hk
  go_enter Tryz.func50, Tryz.ntmps50
  go_wp2_with (first
    | ((with_reducible show wpList _ _ _ (⟨_, .call ⟨.builtin .min, _, _⟩, _, _, _, _⟩ :: _) _ _); refine wpl_min rfl rfl rfl rfl mm HMM.out ?_)
    | ((with_reducible show wpList _ _ _ (⟨_, .call ⟨.builtin .max, _, _⟩, _, _, _, _⟩ :: _) _ _); refine wpl_max rfl rfl rfl rfl (k : Int) HKX.out ?_))
  go_loopw [27] (fun x wr => CrRel w sb D k x wr) (fun x _ => k - (intOf x).toNat)
  case atStart => exact ⟨0, rfl, Nat.zero_le _, Upd.refl _ _, hsb⟩
  case round =>
    obtain ⟨i, rfl, hi, hU, hM⟩ := hrel
    by_cases hlt : i < k
    · have ht : decide ((i : Int) < (k : Int)) = true := by simp; omega
      obtain ⟨c, hc⟩ : ∃ c, D.loose[i]? = some c := ⟨_, List.getElem?_eq_getElem (by omega)⟩
      obtain ⟨pv, g0, g1, g2, g3, hpv⟩ := HC.out.get hc
      have g0 : (cells.take (k * 4))[i * 4 + 0]? = some (.int .i64 c.kind) := by rw [List.getElem?_take, if_pos (by omega)]; exact g0
      have g1 : (cells.take (k * 4))[i * 4 + 1]? = some (encS c.a) := by rw [List.getElem?_take, if_pos (by omega)]; exact g1
      have g2 : (cells.take (k * 4))[i * 4 + 2]? = some (encS c.b) := by rw [List.getElem?_take, if_pos (by omega)]; exact g2
      have g3 : (cells.take (k * 4))[i * 4 + 3]? = some pv := by rw [List.getElem?_take, if_pos (by omega)]; exact g3
      have off8 : Off w 5 [sb] := hsb.off (Off.nil _ _)
      have offc : Off w 190 [sb] := hsb.off (Off.nil _ _)
      have hpr : By wr pv c.p := hpv.upd hU off8
      obtain ⟨ap, cp, hsp⟩ := By.val hpr
      subst hsp
      have hR := hR1.upd hU offc
      go_wp2_with ((with_reducible show wpList _ _ _ (⟨_, .indexAddr _ _ _, _, _, _, _⟩ :: _) _ _); refine wpl_indexAddr elChange rfl rfl hR rfl rfl (by omega) (by omega) ?_; intro ad hcell hspot; (have k0 := hcell 0 (by omega)); (have k1 := hcell 1 (by omega)); (have k2 := hcell 2 (by omega)); (have k3 := hcell 3 (by omega)); rw [Int.toNat_natCast, g0] at k0; rw [Int.toNat_natCast, g1] at k1; rw [Int.toNat_natCast, g2] at k2; rw [Int.toNat_natCast, g3] at k3; clear hcell; obtain ⟨gb, gof, gs⟩ := ad; cases hspot; simp only [Addr.add_lit, Nat.add_zero] at k0 k1 k2 k3)
      have hUa : Upd [] wr (wr.alloc (Obj.cells #[Value.int IntKind.i64 c.kind, encS c.a, encS c.b, Value.slice ap c.p.length cp] 190)) := Upd.alloc [] _ _
      have hba := heap_alloc_new wr (Obj.cells #[Value.int IntKind.i64 c.kind, encS c.a, encS c.b, Value.slice ap c.p.length cp] 190)
      have b0 : (wr.alloc (Obj.cells #[Value.int IntKind.i64 c.kind, encS c.a, encS c.b, Value.slice ap c.p.length cp] 190)).cell? ⟨wr.heap.size, 0, none⟩ = some (.int .i64 c.kind) := by rw [cell_lit _ _ 0 _ _ _ hba]; rfl
      have b1 : (wr.alloc (Obj.cells #[Value.int IntKind.i64 c.kind, encS c.a, encS c.b, Value.slice ap c.p.length cp] 190)).cell? ⟨wr.heap.size, 1, none⟩ = some (encS c.a) := by rw [cell_lit _ _ 1 _ _ _ hba]; rfl
      have b2 : (wr.alloc (Obj.cells #[Value.int IntKind.i64 c.kind, encS c.a, encS c.b, Value.slice ap c.p.length cp] 190)).cell? ⟨wr.heap.size, 2, none⟩ = some (encS c.b) := by rw [cell_lit _ _ 2 _ _ _ hba]; rfl
      have b3 : (wr.alloc (Obj.cells #[Value.int IntKind.i64 c.kind, encS c.a, encS c.b, Value.slice ap c.p.length cp] 190)).cell? ⟨wr.heap.size, 3, none⟩ = some (Value.slice ap c.p.length cp) := by rw [cell_lit _ _ 3 _ _ _ hba]; rfl
      have d2 := hUa.cell (hU.cell c2 hdsb) (by simp)
      have hwn : wr.heap.size ∉ [sb] := by have := hM.lt; simp; omega
      have hUd : Upd [] wr (wr.alloc (Obj.cells #[Value.int IntKind.i64 c.kind, encS c.a, encS c.b, Value.slice ap c.p.length cp] 190)).drew := hUa.trans0 (Upd.drew [] _)
      have hdo := files_do (wr.alloc (Obj.cells #[Value.int IntKind.i64 c.kind, encS c.a, encS c.b, Value.slice ap c.p.length cp] 190)).drew sb (D.mid i) (hM.upd hUd (Off.nil _ _) (by simp)) c (HK.out i c hc) _ (hpr.upd0 hUd) (HB.out i c hc)
      have HDO := Lib.hid hdo
      have HMS := Lib.hid (D.mid_succ i c hc)
      clear hdo k0 k1 k2 k3 g0 g1 g2 g3 hpv hba hc
      go_region_held3 (fun W => W.cell? ⟨wr.heap.size, 0, none⟩ = some (.int .i64 c.kind) ∧ W.cell? ⟨wr.heap.size, 1, none⟩ = some (encS c.a) ∧ W.cell? ⟨wr.heap.size, 2, none⟩ = some (encS c.b) ∧ W.cell? ⟨wr.heap.size, 3, none⟩ = some (Value.slice ap c.p.length cp) ∧ W.cell? ⟨d, 2, none⟩ = some (.map (some sb)))
        (first | go_keep | exact ⟨hU2.cell b0 hwn, hU2.cell b1 hwn, hU2.cell b2 hwn, hU2.cell b3 hwn, hU2.cell d2 hdsb⟩)
        ((go_at_call 119; refine HDO.out.mono ?_; rintro e w2 ⟨rfl, hM2, hU2⟩))
      have hll := HL.out
      go_wp2_with fail
      go_roundw
      case rel =>
        refine ⟨i + 1, by go_num, hlt, hU.trans ((hUd.mono (T := [sb]) (by simp)).trans hU2 (fun j hj _ => hj)) (fun j hj _ => hj), ?_⟩
        rw [HMS.out]; exact hM2
      case measure => simp [intOf]; omega
    · have ht : decide ((i : Int) < (k : Int)) = false := by simp; omega
      have hie : i = k := by omega
      obtain ⟨w1, rfl⟩ : ∃ w1, w1 = wr := ⟨wr, rfl⟩
      have c3' : w1.cell? ⟨d, 3, none⟩ = some (.slice ao D.loose.length cap) := hU.cell c3 hdsb
      have c2' : w1.cell? ⟨d, 2, none⟩ = some (.map (some sb)) := hU.cell c2 hdsb
      have hd1 := hU.get Hd.out hdsb
      rw [hie] at hM
      clear hi ht
      cases hck : D.loose[k]? with
      | none =>
        have hkn : ¬ k < D.loose.length := by rw [List.getElem?_eq_none_iff] at hck; omega
        have htk : decide ((k : Int) < (D.loose.length : Int)) = false := by simp; omega
        have HLAST := Lib.hid (show D.last keep part = D.mid k from by unfold DSt.last; rw [HKK.out, hck])
        clear hck
        obtain ⟨arr, clock, hbarr, hnewB⟩ := MapB.clone hM
        have hcln := maps_clone w1 sb arr clock hbarr
        have hUc : Upd [] w1 (w1.alloc (.map arr clock)) := Upd.alloc [] _ _
        have hdc := hUc.get hd1 (by simp)
        have hMc := MapB.upd hM hUc (Off.nil _ _) (by simp)
        have hslt := MapB.lt hM
        obtain ⟨wc, hwc⟩ : ∃ wc, wc = w1.alloc (.map arr clock) := ⟨_, rfl⟩
        rw [← hwc] at hdc hUc hnewB hMc
        have HWC := Lib.hid hwc
        have f1 := frozen_lit wc d 1 _ _ hdc
        have f3 := frozen_lit wc d 3 _ _ hdc
        have f4 := frozen_lit wc d 4 _ _ hdc
        have f5 := frozen_lit wc d 5 _ _ hdc
        have e1 : wc.cell? ⟨d, 1, none⟩ = some (.map (some nb)) := by rw [cell_lit wc d 1 _ _ _ hdc]; rfl
        have e3 : wc.cell? ⟨d, 3, none⟩ = some (.slice ao D.loose.length cap) := by rw [cell_lit wc d 3 _ _ _ hdc]; rfl
        have e4 : wc.cell? ⟨d, 4, none⟩ = some (.int .i64 D.fuse) := by rw [cell_lit wc d 4 _ _ _ hdc]; rfl
        have e5 : wc.cell? ⟨d, 5, none⟩ = some (.bool D.down) := by rw [cell_lit wc d 5 _ _ _ hdc]; rfl
        have HSHUT := Lib.hid (fun (wf : World) hwf => crash_shut (keep := keep) (part := part) (wf := wf) HLAST.out H.out.inv HS.out hU hUc hdc hnewB hMc hslt hwf)
        clear hdc hnewB hMc hUc hwc hbarr
        go_wp2_with (go_at_call 120; refine hcln.mono ?_; rintro e wq ⟨he, hwq⟩; subst he; (have hq9 : wq = wc := by rw [hwq, HWC.out]); clear hwq; subst hq9)
        go_ret
        exact HSHUT.out _ rfl
      | some c =>
        have hkn : k < D.loose.length := (List.getElem?_eq_some_iff.1 hck).1
        have htk : decide ((k : Int) < (D.loose.length : Int)) = true := by simp; omega
        obtain ⟨pv, g0, g1, g2, g3, hpv⟩ := HC.out.get hck
        have off8 : Off w 5 [sb] := hsb.off (Off.nil _ _)
        have offc : Off w 190 [sb] := hsb.off (Off.nil _ _)
        have hpr : By w1 pv c.p := hpv.upd hU off8
        obtain ⟨ap, cp, hsp⟩ := By.val hpr
        subst hsp
        have hR := (Rd.of_own HO.out).upd hU offc
        by_cases hk1 : c.kind = 1
        · have t1 : ((c.kind : Int) == 1) = true := by simp; omega
          obtain ⟨m2, hm2⟩ : ∃ m2 : Int, m2 = min part (c.p.length : Int) := ⟨_, rfl⟩
          obtain ⟨kp, hk2, hk2l⟩ : ∃ kp : Nat, (kp : Int) = max 0 m2 ∧ kp ≤ c.p.length := ⟨(max 0 m2).toNat, by omega, by omega⟩
          have HK2 := Lib.hid (show (max 0 (min part (c.p.length : Int))).toNat = kp from by omega)
          have HM2 := Lib.hid hm2; have HX2 := Lib.hid hk2
          have hcp : c.p.length ≤ cp := by obtain ⟨_, _, hq, hle⟩ := hpr.shape; cases hq; exact hle
          have hbp : By w1 (.slice ap kp cp) (c.p.take kp) := by
            have h0 := run_cut elU8 hpr 0 kp cp (by omega) hk2l (by omega) (by omega)
            have e : (if cp = 0 then ap else ap.map (·.add (0 * 1))) = ap := by
              split
              · rfl
              · cases ap <;> simp [Addr.add]
            rw [e] at h0
            have := by_cut (lo := 0) (k := kp) (by simpa using h0) (by omega)
            simpa using this
          have HLAST := Lib.hid (show D.last keep part = fdo (D.mid k) ⟨c.kind, c.a, c.b, c.p.take kp⟩ from by unfold DSt.last; rw [HKK.out, hck]; dsimp only; rw [if_pos hk1, HK2.out])
          have hused := HB.out k c hck
          have hkd3 := HK.out k c hck
          have hpl : c.p.length ≤ 1073741824 := by omega
          obtain ⟨wb, hwb⟩ : ∃ wb, wb = w1.alloc (Obj.cells #[Value.int IntKind.i64 c.kind, encS c.a, encS c.b, Value.slice ap kp cp] 190) := ⟨_, rfl⟩
          have hbb : wb.heap[w1.heap.size]? = some (Obj.cells #[Value.int IntKind.i64 c.kind, encS c.a, encS c.b, Value.slice ap kp cp] 190) := by rw [hwb]; exact heap_alloc_new w1 _
          have hU1b : Upd [] w1 wb := by rw [hwb]; exact Upd.alloc [] _ _
          have b0 : wb.cell? ⟨w1.heap.size, 0, none⟩ = some (.int .i64 c.kind) := by rw [cell_lit _ _ 0 _ _ _ hbb]; rfl
          have b1 : wb.cell? ⟨w1.heap.size, 1, none⟩ = some (encS c.a) := by rw [cell_lit _ _ 1 _ _ _ hbb]; rfl
          have b2 : wb.cell? ⟨w1.heap.size, 2, none⟩ = some (encS c.b) := by rw [cell_lit _ _ 2 _ _ _ hbb]; rfl
          have b3 : wb.cell? ⟨w1.heap.size, 3, none⟩ = some (Value.slice ap kp cp) := by rw [cell_lit _ _ 3 _ _ _ hbb]; rfl
          have d2 := hU1b.cell c2' (by simp)
          have hwn : w1.heap.size ∉ [sb] := by have := hM.lt; simp; omega
          have hUd : Upd [] w1 wb.drew := hU1b.trans0 (Upd.drew [] _)
          have hdo := files_do wb.drew sb (D.mid k) (hM.upd hUd (Off.nil _ _) (by simp)) ⟨c.kind, c.a, c.b, c.p.take kp⟩ hkd3 (.slice ap kp cp) (hbp.upd0 hUd) (by simp; omega)
          have HDO := Lib.hid hdo
          have HWB := Lib.hid hwb
          have hk2c : kp ≤ cp := by omega
          clear hdo hpv hck hk1 hbp hm2 hk2 hwb
          go_wp2_with (first
            | ((with_reducible show wpList _ _ _ (⟨_, .indexAddr _ _ _, _, _, _, _⟩ :: _) _ _); refine wpl_indexAddr elChange rfl rfl hR rfl rfl (by omega) (by omega) ?_; intro ad hcell hspot; (have k0 := hcell 0 (by omega)); (have k1 := hcell 1 (by omega)); (have k2 := hcell 2 (by omega)); (have k3 := hcell 3 (by omega)); rw [Int.toNat_natCast, g0] at k0; rw [Int.toNat_natCast, g1] at k1; rw [Int.toNat_natCast, g2] at k2; rw [Int.toNat_natCast, g3] at k3; clear hcell; obtain ⟨gb, gof, gs⟩ := ad; cases hspot; simp only [Addr.add_lit, Nat.add_zero] at k0 k1 k2 k3)
            | ((with_reducible show wpList _ _ _ (⟨_, .call ⟨.builtin .min, _, _⟩, _, _, _, _⟩ :: _) _ _); refine wpl_min rfl rfl rfl rfl m2 HM2.out ?_)
            | ((with_reducible show wpList _ _ _ (⟨_, .call ⟨.builtin .max, _, _⟩, _, _, _, _⟩ :: _) _ _); refine wpl_max rfl rfl rfl rfl (kp : Int) HX2.out ?_))
          rw [← HWB.out]
          go_region_held3 (fun W => W.cell? ⟨w1.heap.size, 0, none⟩ = some (.int .i64 c.kind) ∧ W.cell? ⟨w1.heap.size, 1, none⟩ = some (encS c.a) ∧ W.cell? ⟨w1.heap.size, 2, none⟩ = some (encS c.b) ∧ W.cell? ⟨w1.heap.size, 3, none⟩ = some (Value.slice ap kp cp) ∧ W.cell? ⟨d, 2, none⟩ = some (.map (some sb)))
            (first | go_keep | exact ⟨b0, b1, b2, b3, d2⟩ | exact ⟨hU2.cell b0 hwn, hU2.cell b1 hwn, hU2.cell b2 hwn, hU2.cell b3 hwn, hU2.cell d2 hdsb⟩)
            ((go_at_call 119; refine HDO.out.mono ?_; rintro e w2 ⟨rfl, hM2, hU2⟩))
          have hU12 : Upd [sb] w1 w2 := (hUd.mono (T := [sb]) (by simp)).trans hU2 (fun j hj _ => hj)
          have hU02 : Upd [sb] w w2 := hU.trans hU12 (fun j hj _ => hj)
          have hd2 := hU12.get hd1 hdsb
          have c22 := hU12.cell c2' hdsb
          clear k0 k1 k2 k3 b0 b1 b2 b3 hbb hR g0 g1 g2 g3
          obtain ⟨arr, clock, hbarr, hnewB⟩ := MapB.clone hM2
          have hcln := maps_clone w2 sb arr clock hbarr
          have hUc : Upd [] w2 (w2.alloc (.map arr clock)) := Upd.alloc [] _ _
          have hdc := hUc.get hd2 (by simp)
          have hMc := MapB.upd hM2 hUc (Off.nil _ _) (by simp)
          have hslt := MapB.lt hM2
          obtain ⟨wc, hwc⟩ : ∃ wc, wc = w2.alloc (.map arr clock) := ⟨_, rfl⟩
          rw [← hwc] at hdc hUc hnewB hMc
          have HWC := Lib.hid hwc
          have f1 := frozen_lit wc d 1 _ _ hdc
          have f3 := frozen_lit wc d 3 _ _ hdc
          have f4 := frozen_lit wc d 4 _ _ hdc
          have f5 := frozen_lit wc d 5 _ _ hdc
          have e1 : wc.cell? ⟨d, 1, none⟩ = some (.map (some nb)) := by rw [cell_lit wc d 1 _ _ _ hdc]; rfl
          have e3 : wc.cell? ⟨d, 3, none⟩ = some (.slice ao D.loose.length cap) := by rw [cell_lit wc d 3 _ _ _ hdc]; rfl
          have e4 : wc.cell? ⟨d, 4, none⟩ = some (.int .i64 D.fuse) := by rw [cell_lit wc d 4 _ _ _ hdc]; rfl
          have e5 : wc.cell? ⟨d, 5, none⟩ = some (.bool D.down) := by rw [cell_lit wc d 5 _ _ _ hdc]; rfl
          have HSHUT := Lib.hid (fun (wf : World) hwf => crash_shut (keep := keep) (part := part) (wf := wf) HLAST.out H.out.inv HS.out hU02 hUc hdc hnewB hMc hslt hwf)
          clear hdc hnewB hMc hUc hwc hbarr
          go_wp2_with (go_at_call 120; refine hcln.mono ?_; rintro e wq ⟨he, hwq⟩; subst he; (have hq9 : wq = wc := by rw [hwq, HWC.out]); clear hwq; subst hq9)
          go_ret
          exact HSHUT.out _ rfl
        · have t1 : ((c.kind : Int) == 1) = false := by rw [beq_eq_false_iff_ne]; omega
          have HLAST := Lib.hid (show D.last keep part = D.mid k from by unfold DSt.last; rw [HKK.out, hck]; dsimp only; rw [if_neg hk1])
          clear hck hk1
          obtain ⟨arr, clock, hbarr, hnewB⟩ := MapB.clone hM
          have hcln := maps_clone w1 sb arr clock hbarr
          have hUc : Upd [] w1 (w1.alloc (.map arr clock)) := Upd.alloc [] _ _
          have hdc := hUc.get hd1 (by simp)
          have hMc := MapB.upd hM hUc (Off.nil _ _) (by simp)
          have hslt := MapB.lt hM
          obtain ⟨wc, hwc⟩ : ∃ wc, wc = w1.alloc (.map arr clock) := ⟨_, rfl⟩
          rw [← hwc] at hdc hUc hnewB hMc
          have HWC := Lib.hid hwc
          have f1 := frozen_lit wc d 1 _ _ hdc
          have f3 := frozen_lit wc d 3 _ _ hdc
          have f4 := frozen_lit wc d 4 _ _ hdc
          have f5 := frozen_lit wc d 5 _ _ hdc
          have e1 : wc.cell? ⟨d, 1, none⟩ = some (.map (some nb)) := by rw [cell_lit wc d 1 _ _ _ hdc]; rfl
          have e3 : wc.cell? ⟨d, 3, none⟩ = some (.slice ao D.loose.length cap) := by rw [cell_lit wc d 3 _ _ _ hdc]; rfl
          have e4 : wc.cell? ⟨d, 4, none⟩ = some (.int .i64 D.fuse) := by rw [cell_lit wc d 4 _ _ _ hdc]; rfl
          have e5 : wc.cell? ⟨d, 5, none⟩ = some (.bool D.down) := by rw [cell_lit wc d 5 _ _ _ hdc]; rfl
          have HSHUT := Lib.hid (fun (wf : World) hwf => crash_shut (keep := keep) (part := part) (wf := wf) HLAST.out H.out.inv HS.out hU hUc hdc hnewB hMc hslt hwf)
          clear hdc hnewB hMc hUc hwc hbarr
          go_wp2_with (first
            | ((with_reducible show wpList _ _ _ (⟨_, .indexAddr _ _ _, _, _, _, _⟩ :: _) _ _); refine wpl_indexAddr elChange rfl rfl hR rfl rfl (by omega) (by omega) ?_; intro ad hcell hspot; (have k0 := hcell 0 (by omega)); (have k1 := hcell 1 (by omega)); (have k2 := hcell 2 (by omega)); (have k3 := hcell 3 (by omega)); rw [Int.toNat_natCast, g0] at k0; rw [Int.toNat_natCast, g1] at k1; rw [Int.toNat_natCast, g2] at k2; rw [Int.toNat_natCast, g3] at k3; clear hcell; obtain ⟨gb, gof, gs⟩ := ad; cases hspot; simp only [Addr.add_lit, Nat.add_zero] at k0 k1 k2 k3)
            | (go_at_call 120; refine hcln.mono ?_; rintro e wq ⟨he, hwq⟩; subst he; (have hq9 : wq = wc := by rw [hwq, HWC.out]); clear hwq; subst hq9))
          go_ret
          exact HSHUT.out _ rfl
end Go.Proofs.YthfbfdkjgkkpcaaGreat
