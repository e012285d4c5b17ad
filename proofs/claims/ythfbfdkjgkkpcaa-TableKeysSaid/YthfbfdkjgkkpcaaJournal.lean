/-
  The journal: a record's frame, Append, Sync, Size.
-/
import Derived.Test.YthfbfdkjgkkpcaaDiskE
namespace Go.Proofs.Ythfbfdkjgkkpcaa
open Go Go.RowKit

section
variable {P : Program} {ops : Array Oper} {Q : Exit → Act → World → Prop} {rest : List Oper} {o : Oper} {a : Act} {w : World}
/-- append, its run known ahead. -/
theorem wpl_append_run {T t0 : Nat} {v y v' : Value} {w' : World} (hr : (Builtin.append_ #[T, T] t0 #[v, y]).run P w = .ok v' w') (hw : Region.wanted o (yielded ops a.tmps) = true) {s x : Operand}
    (ho : o.op = .call { callee := .builtin .append, args := #[s, x], argTypes := #[T, T] }) (hs : a.eval s = v) (hx : a.eval x = y) (hK : wpList P ops Q rest (a.put o.dst v') w') : wpList P ops Q (o :: rest) a w :=
  wpl_run hw (run_append_op ho hs hx (by rw [append_ty _ _ t0]; exact hr)) hK
end
/-- A record as it stands in a file. -/
def frameB (p : List UInt8) : List UInt8 := putB p.length 4 ++ putB (crcB (putB p.length 4 ++ p)) 4 ++ p
theorem frameB_length (p : List UInt8) : (frameB p).length = p.length + 8 := by simp [frameB, putB_length]; omega
theorem crcB_wrap (p : List UInt8) : IntKind.u64.wrap (crcB p : Nat) = (crcB p : Nat) := by
  have : crcB p ≤ 4294967295 := by unfold crcB; omega
  simp [IntKind.wrap, show IntKind.u64.bits = 64 from rfl, show IntKind.u64.signed = false from rfl]
  omega
theorem crcB_u64 (p : List UInt8) : U64 (crcB p) := ⟨by unfold crcB; omega⟩

set_option maxHeartbeats 400000 in
theorem journal_frame (w : World) (pv : Value) (p : List UInt8) (hp : By w pv p) (hl : p.length ≤ 1073741000) :
    Calls Try.prog 61 #[pv] w (RetBy w (frameB p)) := by
  obtain ⟨ao, cap, rfl⟩ := hp.val
  have hU : U64 p.length := ⟨by omega⟩
  have HPL := Lib.hid (putB_length p.length 4)
  have hC := crcB_u64 (putB p.length 4 ++ p)
  have hcw := crcB_wrap (putB p.length 4 ++ p)
  have hbl : (putB p.length 4).length + p.length ≤ 1073741824 := by rw [HPL.out]; omega
  have hbl2 : (putB p.length 4 ++ putB (crcB (putB p.length 4 ++ p)) 4).length + p.length ≤ 1073741824 := by simp [putB_length]; omega
  have HB := Lib.hid hbl; have HB2 := Lib.hid hbl2; clear hbl hbl2
  have hm1 : 4 + p.length ≤ maxLen := by unfold maxLen; omega
  have hm2 : (4 + p.length) * 1 ≤ 140737488355328 := by omega
  have HM1 := Lib.hid hm1; have HM2 := Lib.hid hm2; clear hm1 hm2
  go_enter Try.func61, Try.ntmps61
  go_wp2_with fail
  refine (octet_Put p.length 4 hU (by omega) _).mono ?_
  rintro e w1 ⟨v1, rfl, hv1, hU1⟩
  have hv1' : w1.ownsRow w.heap.size 5 1 v1 4 ((putB p.length 4).map enc) := by have := hv1; unfold OwnBy at this; rwa [HPL.out] at this
  obtain ⟨ao1, cap1, rfl, hc1⟩ := (Rd.of_own hv1').shape
  have hcut : ∀ W, (Instr.sliceAt 41 (.slice ao1 4 cap1) none (some (.int .i64 4)) (some (.int .i64 4))).run Try.prog W = .ok (.slice ao1 4 4) W := by
    intro W
    have b1 := run_bound (P := Try.prog) (k := .i64) 4 cap1 .slice3Acap W (by omega) (by omega)
    have b2 := run_bound (P := Try.prog) (k := .i64) 4 4 .slice3B W (by omega) (by omega)
    have e : ao1.map (fun x : Addr => x.add 0) = ao1 := by cases ao1 <;> simp [Addr.add]
    simp [Instr.sliceAt, Instr.slice, run_underlying elU8.und, Instr.sliceBounds, b1, b2, sizeOf_run elU8 W, Result.andThen, e]
  have hl4 : Rd w1 5 1 (.slice ao1 4 4) 4 ((putB p.length 4).map enc) := by
    have := run_cut elU8 (Rd.of_own hv1') 0 4 4 (by omega) (by omega) (by omega) hc1
    simp only [Nat.zero_mul, Nat.mul_one, List.drop_zero, Nat.sub_zero] at this
    rw [List.take_of_length_le (by simp [putB_length])] at this
    have e : (if (4 : Nat) = 0 then ao1 else ao1.map (·.add 0)) = ao1 := by simp [Addr.add]
    have e2 : (if 4 = 0 then ao1 else ao1.map (·.add 0)) = ao1 := e
    rw [e2] at this
    exact this
  obtain ⟨v2, w2, hr2, hR2, hU2⟩ := run_append_full (P := Try.prog) (ty := 41) elU8 hl4 (hp.upd0 hU1) HM1.out HM2.out
  have hR2' : By w2 v2 (putB p.length 4 ++ p) := by
    unfold By
    rw [List.map_append, List.length_append, HPL.out]
    exact hR2
  have hown2 := Own.upd0 hv1' hU2
  have hU12 := hU1.trans0 hU2
  clear hl4 hR2 hc1 hv1 hv1'
  go_wp2_with ((with_reducible show wpList _ _ _ (⟨_, .call ⟨.builtin .append, _, _⟩, _, _, _, _⟩ :: _) _ _); refine wpl_append_run hr2 rfl rfl rfl rfl ?_)
  refine (octet_Crc v2 _ w2 hR2').mono ?_
  rintro e w2' ⟨rfl, rfl⟩
  go_wp2_with fail
  refine (octet_Put (crcB (putB p.length 4 ++ p)) 4 hC (by omega) _).mono ?_
  rintro e w3 ⟨v3, rfl, hv3, hU3⟩
  have hownA : OwnBy w3 w.heap.size (.slice ao1 4 cap1) (putB p.length 4) := by
    have := Own.upd0 hown2 hU3
    unfold OwnBy
    rwa [HPL.out]
  have hU13 := hU12.trans0 hU3
  go_wp2_with (first
    | ((with_reducible show wpList _ _ _ (⟨_, .call ⟨.builtin .append, _, _⟩, _, _, _, _⟩ :: _) _ _); refine wpl_append_by elU8 rfl rfl hU4 hv4 rfl (hp.upd0 hU4) rfl HB2.out ?_; intro v5 w5 hv5 _ hU5 hb5)
    | ((with_reducible show wpList _ _ _ (⟨_, .call ⟨.builtin .append, _, _⟩, _, _, _, _⟩ :: _) _ _); refine wpl_append_by elU8 rfl rfl hU13 hownA rfl hv3.by rfl (by simp [putB_length]) ?_; intro v4 w4 hv4 _ hU4 hb4))
  go_ret
  exact ⟨v5, rfl, hv5, hU5⟩

structure JSt where
  D : DSt
  name : List UInt8
  size : Nat
def JSt.append (J : JSt) (p : List UInt8) : JSt × Nat :=
  if 1048568 < p.length then (J, 8)
  else if (J.D.append J.name (frameB p)).2 = 0 then ({ J with D := (J.D.append J.name (frameB p)).1, size := J.size + (8 + p.length) }, 0)
  else ({ J with D := (J.D.append J.name (frameB p)).1 }, (J.D.append J.name (frameB p)).2)
def JSt.sync (J : JSt) : JSt × Nat := ({ J with D := J.D.sync.1 }, J.D.sync.2)

/-- Block j is a journal on the disk d; S: the blocks that it turns. -/
structure JAt (w : World) (d j : Nat) (S : List Nat) (J : JSt) : Prop where
  ex : ∃ S0, S = j :: S0 ∧ DiskAt w d S0 J.D ∧ w.heap[j]? = some (.cells #[.pointer (some ⟨d, 0, none⟩), encS J.name, .int .i64 J.size] 100 (0, 0))
theorem JAt.upd {S T : List Nat} {w w' : World} {d j : Nat} {J : JSt} (h : JAt w d j S J) (hU : Upd T w w') (h8 : Off w 5 T) (hn : ∀ k ∈ S, k ∉ T) : JAt w' d j S J := by
  obtain ⟨S0, rfl, hD, hj⟩ := h.ex
  exact ⟨S0, rfl, hD.upd hU h8 (fun k hk => hn k (List.mem_cons_of_mem _ hk)), hU.get hj (hn j (by simp))⟩
theorem JAt.upd0 {S : List Nat} {w w' : World} {d j : Nat} {J : JSt} (h : JAt w d j S J) (hU : Upd [] w w') : JAt w' d j S J := h.upd hU (Off.nil _ _) (fun _ _ hm => by cases hm)
theorem JAt.lt {S : List Nat} {w : World} {d j : Nat} {J : JSt} (h : JAt w d j S J) : ∀ k ∈ S, k < w.heap.size := by
  obtain ⟨S0, rfl, hD, hj⟩ := h.ex
  intro k hk
  rcases List.mem_cons.1 hk with rfl | hk
  · exact lt_of_get hj
  · exact hD.lt k hk
theorem JAt.off {w : World} {d j : Nat} {S : List Nat} {J : JSt} (h : JAt w d j S J) {e : TypeId} (h1 : 72 ≠ e) (h2 : 95 ≠ e) (h3 : 100 ≠ e) : Off w e S := by
  obtain ⟨S0, rfl, hD, hj⟩ := h.ex
  exact Off.cons_cells hj h3 (hD.off h1 h2)
theorem not_mem_off {w : World} {e : TypeId} {S : List Nat} {k : Nat} {c : Array Value} {f : Nat × Nat} (h : Off w e S) (hk : w.heap[k]? = some (.cells c e f)) : k ∉ S := fun hm => h k hm c f hk
def JPost (w : World) (d j : Nat) (S : List Nat) (r : JSt × Nat) (e : Ending) (w' : World) : Prop :=
  e = .returned (.int .i64 r.2) ∧ ∃ S', JAt w' d j S' r.1 ∧ Upd S w w' ∧ Sub w S S'

theorem journal_sync (w : World) (d j : Nat) (S : List Nat) (J : JSt) (h : JAt w d j S J) (hl : J.D.loose.length ≤ 1000000000) :
    Calls Try.prog 32 #[.pointer (some ⟨j, 0, none⟩)] w (JPost w d j S J.sync) := by
  obtain ⟨S0, hS, hD, hj⟩ := h.ex
  have c0 : w.cell? ⟨j, 0, none⟩ = some (.pointer (some ⟨d, 0, none⟩)) := by rw [cell_lit w j 0 _ _ _ hj]; rfl
  have hs := disk_sync w d S0 J.D hD hl
  have hn : j ∉ S0 := not_mem_off (hD.off (e := 100) (by decide) (by decide)) hj
  have HJ := Lib.hid hj
  clear hj hl h
  go_enter Try.func32, Try.ntmps32
  go_wp2_with (go_at_call 54; refine hs.mono ?_; rintro e w1 ⟨rfl, S', hD1, hU1, hS1⟩)
  go_ret
  refine ⟨rfl, j :: S', ⟨S', rfl, hD1, hU1.get HJ.out hn⟩, hU1.mono (fun i hi _ => by rw [hS]; exact List.mem_cons_of_mem _ hi), ?_⟩
  intro k hk
  rw [hS]
  rcases List.mem_cons.1 hk with rfl | hk
  · left; simp
  · rcases hS1 k hk with h1 | h1
    · left; exact List.mem_cons_of_mem _ h1
    · right; exact h1
theorem journal_sync_nil (w : World) : Calls Try.prog 32 #[.pointer none] w fun e w' => e = .returned (.int .i64 2) ∧ w = w' := by
  go_enter Try.func32, Try.ntmps32
  go_wp2
  go_ret
  exact ⟨rfl, rfl⟩
theorem journal_size (w : World) (d j : Nat) (S : List Nat) (J : JSt) (h : JAt w d j S J) :
    Calls Try.prog 42 #[.pointer (some ⟨j, 0, none⟩)] w fun e w' => e = .returned (.int .i64 J.size) ∧ w = w' := by
  obtain ⟨S0, hS, hD, hj⟩ := h.ex
  have c2 : w.cell? ⟨j, 2, none⟩ = some (.int .i64 J.size) := by rw [cell_lit w j 2 _ _ _ hj]; rfl
  clear hj h
  go_enter Try.func42, Try.ntmps42
  go_wp2
  go_ret
  exact ⟨rfl, rfl⟩

set_option maxHeartbeats 400000 in
theorem journal_append (w : World) (d j : Nat) (S : List Nat) (J : JSt) (h : JAt w d j S J) (pv : Value) (p : List UInt8) (hp : By w pv p) (hpl : p.length ≤ 1073741000) (hl : J.D.loose.length ≤ 1000000000) (hsz : J.size ≤ 4611686018427387904) :
    Calls Try.prog 31 #[.pointer (some ⟨j, 0, none⟩), pv] w (JPost w d j S (J.append p)) := by
  obtain ⟨S0, hS, hD, hj⟩ := h.ex
  have c0 : w.cell? ⟨j, 0, none⟩ = some (.pointer (some ⟨d, 0, none⟩)) := by rw [cell_lit w j 0 _ _ _ hj]; rfl
  have c1 : w.cell? ⟨j, 1, none⟩ = some (encS J.name) := by rw [cell_lit w j 1 _ _ _ hj]; rfl
  have hn : j ∉ S0 := not_mem_off (hD.off (e := 100) (by decide) (by decide)) hj
  have HJ := Lib.hid hj; have HSZ := Lib.hid hsz; have H := Lib.hid h; have HD := Lib.hid hD; have HL := Lib.hid hl; have HPL := Lib.hid hpl
  clear hj hl h hsz hD
  have hpv := hp.val
  obtain ⟨ao, cap, rfl⟩ := hpv
  by_cases h8 : 1048568 < p.length
  · have h1 : decide ((1048568 : Int) < (p.length : Int)) = true := by simp; omega
    have HF := Lib.hid (show J.append p = (J, 8) from by simp only [JSt.append, if_pos h8])
    clear h8
    go_enter Try.func31, Try.ntmps31
    go_wp2_with fail
    go_ret
    rw [HF.out]
    exact ⟨rfl, S, H.out, Upd.refl _ _, Sub.refl _ _⟩
  have h1 : decide ((1048568 : Int) < (p.length : Int)) = false := by simp; omega
  have H8 := Lib.hid h8; clear h8
  have hfr := journal_frame w.drew _ p (hp.upd0 (Upd.drew [] w)) HPL.out
  have hap : ∀ (w2 : World) (v : Value), Upd [] w w2 → By w2 v (frameB p) → Calls Try.prog 60 #[.pointer (some ⟨d, 0, none⟩), encS J.name, v] w2 (DPost w2 d S0 (J.D.append J.name (frameB p))) := fun w2 v hU hv =>
    disk_append w2 d S0 J.D (HD.out.upd0 hU) J.name (frameB p) v hv (by rw [frameB_length]; have := HPL.out; omega) HL.out
  have HA := Lib.hid hap; clear hap
  generalize hr : J.D.append J.name (frameB p) = r at *
  have HR := Lib.hid hr; clear hr
  clear hpl
  go_enter Try.func31, Try.ntmps31
  go_wp2_with fail
  go_region_held3 (fun W => W.cell? ⟨j, 0, none⟩ = some (.pointer (some ⟨d, 0, none⟩)) ∧ W.cell? ⟨j, 1, none⟩ = some (encS J.name))
    (first | go_keep | exact ⟨hU4.cell (hU2.cell c0 (by simp)) hn, hU4.cell (hU2.cell c1 (by simp)) hn⟩ | exact ⟨hU2.cell c0 (by simp), hU2.cell c1 (by simp)⟩)
    ((first
      | (go_at_call 61; refine hfr.mono ?_; rintro e w2 ⟨v2, rfl, hv2, hU2⟩)
      | (go_at_call 60; refine (HA.out _ _ ((Upd.drew [] w).trans0 hU2) hv2.by).mono ?_; rintro e w4 ⟨rfl, S', hD4, hU4, hS4⟩)))
  have hU24 : Upd S0 w w4 := (((Upd.drew [] w).trans0 hU2).mono (T := S0) (by simp)).trans hU4 (fun i hi _ => hi)
  have hs0 : w.heap.size ≤ w2.heap.size := ((Upd.drew [] w).trans0 hU2).size
  have hj4 := hU24.get HJ.out hn
  have hsub : Sub w S (j :: S') := by
    intro k hk
    rw [hS]
    rcases List.mem_cons.1 hk with rfl | hk
    · left; simp
    · rcases hS4 k hk with h1 | h1
      · left; exact List.mem_cons_of_mem _ h1
      · right; omega
  have hn4 : j ∉ S' := not_mem_off (hD4.off (e := 100) (by decide) (by decide)) hj4
  have hUS : Upd S w w4 := hU24.mono (fun i hi _ => by rw [hS]; exact List.mem_cons_of_mem _ hi)
  have HSUB := Lib.hid hsub; have HJ4 := Lib.hid hj4
  have hjS : j ∈ S := by rw [hS]; simp
  clear hS
  obtain ⟨D', k⟩ := r
  by_cases hk : k = 0
  · subst hk
    have HF := Lib.hid (show J.append p = ({ J with D := D', size := J.size + (8 + p.length) }, 0) from by simp only [JSt.append, if_neg H8.out, HR.out, if_true])
    have c2 : w4.cell? ⟨j, 2, none⟩ = some (.int .i64 J.size) := by rw [cell_lit w4 j 2 _ _ _ hj4]; rfl
    have f2 := frozen_lit w4 j 2 _ _ hj4
    have e2 : wrap64 ((J.size : Int) + wrap64 (8 + (p.length : Int))) = ((J.size + (8 + p.length) : Nat) : Int) := by
      have := HPL.out; have := HSZ.out
      simp only [wrap64]
      omega
    have E2 := Lib.hid e2
    clear hj4 hsub e2
    go_wp2_with fail
    go_ret
    rw [HF.out, E2.out]
    have hUs : Upd [j] w4 (w4.setCell ⟨j, 2, none⟩ (.int .i64 ((J.size + (8 + p.length) : Nat) : Int))) := Upd.setCell _ _ _ (by simp)
    refine ⟨rfl, j :: S', ⟨S', rfl, hD4.upd hUs (Off.cons_cells HJ4.out (by decide) (Off.nil _ _)) (fun k hk => by simp; rintro rfl; exact hn4 hk), ?_⟩, ?_, HSUB.out⟩
    · rw [setCell_get HJ4.out]; rfl
    · exact hUS.trans hUs (fun i hi _ => by simp at hi; subst hi; exact hjS)
  · have HF := Lib.hid (show J.append p = ({ J with D := D' }, k) from by simp only [JSt.append, if_neg H8.out, HR.out, if_neg hk])
    have h2 : ((k : Int) == 0) = false := by simp; omega
    have h3 : ((k : Int) = 0) = False := by simp; omega
    clear hj4 hsub
    go_wp2_with fail
    go_ret
    rw [HF.out]
    exact ⟨rfl, j :: S', ⟨S', rfl, hD4, HJ4.out⟩, hUS, HSUB.out⟩
end Go.Proofs.Ythfbfdkjgkkpcaa
