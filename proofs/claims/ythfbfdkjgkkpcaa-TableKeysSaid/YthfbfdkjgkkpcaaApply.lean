/-
  The walk of the table's Apply.
-/
import Derived.Test.YthfbfdkjgkkpcaaEnc
import Derived.Test.YthfbfdkjgkkpcaaJopen
namespace Go.Proofs.Ythfbfdkjgkkpcaa
open Go Go.RowKit

def TSt.apply (T : TSt) (l : List TChg) : TSt × Nat :=
  if T.down then (T, 5)
  else if (encB l).2 ≠ 0 then ({ T with down := decide ((encB l).2 = 5) }, (encB l).2)
  else if (T.J.append (encB l).1).2 ≠ 0 then ({ T with J := (T.J.append (encB l).1).1, down := decide ((T.J.append (encB l).1).2 = 5) }, (T.J.append (encB l).1).2)
  else if (T.J.append (encB l).1).1.sync.2 ≠ 0 then ({ T with J := (T.J.append (encB l).1).1.sync.1, down := decide ((T.J.append (encB l).1).1.sync.2 = 5) }, (T.J.append (encB l).1).1.sync.2)
  else (⟨(T.J.append (encB l).1).1.sync.1, tdo T.m l, false⟩, 0)
def TPost (w : World) (d tb : Nat) (S : List Nat) (r : TSt × Nat) (e : Ending) (w' : World) : Prop :=
  e = .returned (.int .i64 r.2) ∧ ∃ S', TAt w' d tb S' r.1 ∧ Upd S w w' ∧ Sub w S S'

theorem table_shut {w w3 : World} {d tb jb mb k : Nat} {S S0 S0' : List Nat} {J : JSt} {m : List (List UInt8 × List UInt8)} {b : Bool} {q : Value} (hS : S = tb :: mb :: S0) (hmb : mb ∉ S0) (hlt : mb < w.heap.size) (hJ : JAt w3 d jb S0' J) (hM : MapB w3 mb m)
    (ht : w3.heap[tb]? = some (.cells #[.pointer (some ⟨jb, 0, none⟩), .map (some mb), q] 78 (0, 0))) (hU : Upd S w w3) (hsub : Sub w S0 S0') : TPost w d tb S (⟨J, m, b⟩, k) (.returned (.int .i64 k)) (w3.setCell ⟨tb, 2, none⟩ (.bool b)) := by
  have hUs : Upd [tb] w3 (w3.setCell ⟨tb, 2, none⟩ (.bool b)) := Upd.setCell _ _ _ (by simp)
  have off8 : Off w3 5 [tb] := Off.cons_cells ht (by decide) (Off.nil _ _)
  have hn : tb ∉ S0' := not_mem_off (hJ.off (e := 78) (by decide) (by decide) (by decide)) ht
  refine ⟨rfl, tb :: mb :: S0', ⟨jb, mb, S0', rfl, hsub.not_mem hlt hmb, hJ.upd hUs off8 (fun j hj => by simp; rintro rfl; exact hn hj), hM.upd hUs off8 (by simp; exact hM.ne_cells ht), ?_⟩, ?_, ?_⟩
  · rw [setCell_get ht]; rfl
  · exact hU.trans hUs (fun i hi _ => by simp at hi; subst hi; rw [hS]; simp)
  · intro j hj
    rw [hS]
    simp only [List.mem_cons] at hj ⊢
    rcases hj with rfl | rfl | hj
    · simp
    · simp
    · rcases hsub j hj with h | h
      · left; right; right; exact h
      · right; exact h
theorem JAt.off8 {w : World} {d j : Nat} {S : List Nat} {J : JSt} (h : JAt w d j S J) : Off w 5 S := h.off (by decide) (by decide) (by decide)
theorem encGo_err : ∀ (l : List TChg) (pre : List UInt8), (encGo pre l).2 ≠ 5
  | [], pre => by simp [encGo]
  | c :: r, pre => by
    unfold encGo
    split
    · simp
    split
    · simp
    · exact encGo_err r _
theorem encB_err (l : List TChg) : (encB l).2 ≠ 5 := by
  unfold encB
  split
  · simp
  · exact encGo_err _ _
theorem encGo_len : ∀ (l : List TChg) (pre : List UInt8), pre.length ≤ 1048568 → (encGo pre l).1.length ≤ 1048568
  | [], pre, h => h
  | c :: r, pre, h => by
    unfold encGo
    split
    · simp
    split
    · simp
    · rename_i h1; exact encGo_len r _ (by omega)
theorem encB_len (l : List TChg) : (encB l).1.length ≤ 1048568 := by
  unfold encB
  split
  · simp
  · rename_i h
    have := countB_len10 (n := l.length) ⟨by omega⟩
    exact encGo_len _ _ (by omega)
theorem append_loose (J : JSt) (p : List UInt8) : (J.append p).1.D.loose.length ≤ J.D.loose.length + 1 := by
  have hd : ∀ n q, (J.D.append n q).1.loose.length ≤ J.D.loose.length + 1 := by
    intro n q
    unfold DSt.append
    repeat' split
    all_goals first | (simp; done) | exact does_loose _ _
  unfold JSt.append
  repeat' split
  · simp
  · exact hd _ _
  · exact hd _ _

set_option maxRecDepth 100000 in
set_option maxHeartbeats 2000000 in
theorem table_apply (w : World) (d tb : Nat) (S : List Nat) (T : TSt) (h : TAt w d tb S T) (lv : Value) (l : List TChg) (hc : Chgs w lv l) (hll : l.length ≤ 1000000000) (hvl : ∀ c ∈ l, c.val.length ≤ 1073741824)
    (hlo : T.J.D.loose.length ≤ 999999999) (hsz : T.J.size ≤ 4611686018427387904) :
    Calls Try.prog 10 #[.pointer (some ⟨tb, 0, none⟩), lv] w (TPost w d tb S (T.apply l)) := by
  have hup := table_up w d tb S T h
  obtain ⟨jb, mb, S0, hS, hmb, hJ, hM, ht⟩ := h.ex
  have henc := table_encode w lv l hc hll
  by_cases hdn : T.down = true
  · rw [hdn] at hup
    have HP := Lib.hid (show TPost w d tb S (T.apply l) (.returned (.int .i64 (5 : Nat))) w from by
      have : T.apply l = (T, 5) := by unfold TSt.apply; rw [if_pos hdn]
      rw [this]
      exact ⟨rfl, S, h, Upd.refl _ _, Sub.refl _ _⟩)
    clear henc h hJ hM ht hc hll hvl hlo hsz
    go_enter Try.func10, Try.ntmps10
    go_wp2_with (go_at_call 30; refine hup.mono ?_; rintro e w1 ⟨rfl, rfl⟩)
    go_ret
    exact HP.out
  have hdn' : T.down = false := by simpa using hdn
  rw [hdn'] at hup ht
  have hne5 := encB_err l
  have hlen := encB_len l
  have hF : T.apply l = if (encB l).2 ≠ 0 then ({ T with down := decide ((encB l).2 = 5) }, (encB l).2)
      else if (T.J.append (encB l).1).2 ≠ 0 then ({ T with J := (T.J.append (encB l).1).1, down := decide ((T.J.append (encB l).1).2 = 5) }, (T.J.append (encB l).1).2)
      else if (T.J.append (encB l).1).1.sync.2 ≠ 0 then ({ T with J := (T.J.append (encB l).1).1.sync.1, down := decide ((T.J.append (encB l).1).1.sync.2 = 5) }, (T.J.append (encB l).1).1.sync.2)
      else (⟨(T.J.append (encB l).1).1.sync.1, tdo T.m l, false⟩, 0) := by unfold TSt.apply; rw [if_neg hdn]
  unfold EncPost at henc
  generalize hr : encB l = r at *
  obtain ⟨rec, k⟩ := r
  have c0 : w.cell? ⟨tb, 0, none⟩ = some (.pointer (some ⟨jb, 0, none⟩)) := by rw [cell_lit w tb 0 _ _ _ ht]; rfl
  have c2 : w.cell? ⟨tb, 2, none⟩ = some (.bool false) := by rw [cell_lit w tb 2 _ _ _ ht]; rfl
  have f2 := frozen_lit w tb 2 _ _ ht
  have hn0 : tb ∉ S0 := not_mem_off (hJ.off (e := 78) (by decide) (by decide) (by decide)) ht
  have hmlt := hM.lt
  have HS := Lib.hid hS; have HMB := Lib.hid hmb; have HJ := Lib.hid hJ; have HM := Lib.hid hM; have HT := Lib.hid ht
  by_cases hk : k ≠ 0
  · have h1 : ((k : Int) == 0) = false := by simp; omega
    have h2 : ((k : Int) = 0) = False := by simp; omega
    have h3 : decide ((k : Int) = 5) = false := by simp; omega
    have h4 : ((k : Int) == 5) = false := by simp; omega
    have HP := Lib.hid (show ∀ w3, Upd [] w w3 → TPost w d tb S (T.apply l) (.returned (.int .i64 k)) (w3.setCell ⟨tb, 2, none⟩ (.bool false)) from by
      intro w3 hU
      rw [hF, if_pos hk, show decide (k = 5) = false from by simpa using hne5]
      exact table_shut HS.out HMB.out hmlt (HJ.out.upd0 hU) (HM.out.upd hU (Off.nil _ _) (by simp)) (hU.get HT.out (by simp)) (hU.mono (by simp)) (Sub.refl _ _))
    clear hr hlen hvl hlo hsz hll hc h hF hJ hM ht hS
    go_enter Try.func10, Try.ntmps10
    go_wp2_with (first
      | (go_at_call 30; refine hup.mono ?_; rintro e w1 ⟨rfl, rfl⟩)
      | (go_at_call 19; refine henc.mono ?_; rintro e w1 ⟨v1, rfl, hv1, hU1⟩; (have c2' := hU1.cell c2 (by simp)); (have f2' := frozen_lit w1 tb 2 _ _ (hU1.get HT.out (by simp)))))
    go_ret
    exact HP.out w1 hU1
  have hk : k = 0 := Classical.not_not.1 hk
  subst hk
  rw [if_neg (by simp)] at hF
  have hap := fun (w1 : World) (v1 : Value) (hU : Upd [] w w1) (hv : By w1 v1 rec) => journal_append w1 d jb S0 T.J (hJ.upd0 hU) v1 rec hv (by dsimp only at hlen; omega) (by omega) hsz
  have hal := append_loose T.J rec
  have HAP := Lib.hid hap
  clear hap
  dsimp only at hF
  generalize hr2 : T.J.append rec = r2 at *
  obtain ⟨J2, k2⟩ := r2
  by_cases hk2 : k2 ≠ 0
  · have h1 : ((k2 : Int) == 0) = false := by simp; omega
    have h2 : ((k2 : Int) = 0) = False := by simp; omega
    generalize hq : decide (k2 = 5) = q at hF
    have h3 : ((k2 : Int) == 5) = q := by rw [← hq]; by_cases h5 : k2 = 5 <;> simp [h5]; omega
    have h4 : decide ((k2 : Int) = 5) = q := by rw [← hq]; by_cases h5 : k2 = 5 <;> simp [h5]; omega
    have HP := Lib.hid (show ∀ w3 S0', JAt w3 d jb S0' J2 → Upd S0 w w3 → Sub w S0 S0' → TPost w d tb S (T.apply l) (.returned (.int .i64 k2)) (w3.setCell ⟨tb, 2, none⟩ (.bool q)) from by
      intro w3 S0' hJ3 hU hsub
      rw [hF, if_pos hk2]
      exact table_shut HS.out HMB.out hmlt hJ3 (HM.out.upd hU HJ.out.off8 HMB.out) (hU.get HT.out hn0) (hU.mono (fun i hi _ => by rw [HS.out]; simp [hi])) hsub)
    have HH4 := Lib.hid h4
    clear hr hlen hvl hlo hsz hll hc h hF hJ hM ht hS hr2 hal hk2 hq
    go_enter Try.func10, Try.ntmps10
    go_wp2_with (first
      | (go_at_call 30; refine hup.mono ?_; rintro e w1 ⟨rfl, rfl⟩)
      | (go_at_call 19; refine henc.mono ?_; rintro e w1 ⟨v1, rfl, hv1, hU1⟩; (have c0' := hU1.cell c0 (by simp)))
      | (go_at_call 31; refine (HAP.out w1 v1 hU1 hv1.by).mono ?_; rintro e w2 ⟨rfl, S2, hJ2, hU2, hS2⟩; (have hU12 : Upd S0 w w2 := (hU1.mono (T := S0) (by simp)).trans hU2 (fun i hi _ => hi)); (have c2' := hU12.cell c2 hn0); (have f2' := frozen_lit w2 tb 2 _ _ (hU12.get HT.out hn0))))
    go_ret
    have hsub : Sub w S0 S2 := fun j hj => (hS2 j hj).imp_right (fun h => Nat.le_trans hU1.size h)
    first | exact HP.out w2 S2 hJ2 hU12 hsub | (rw [HH4.out]; exact HP.out w2 S2 hJ2 hU12 hsub)
  have hk2 : k2 = 0 := Classical.not_not.1 hk2
  subst hk2
  rw [if_neg (by simp)] at hF
  dsimp only at hF
  have hsy := fun (w2 : World) (S2 : List Nat) (hJ2 : JAt w2 d jb S2 J2) => journal_sync w2 d jb S2 J2 hJ2 (by dsimp only at hal; omega)
  have HSY := Lib.hid hsy
  clear hsy
  generalize hr3 : J2.sync = r3 at *
  obtain ⟨J3, k3⟩ := r3
  by_cases hk3 : k3 ≠ 0
  · have h1 : ((k3 : Int) == 0) = false := by simp; omega
    have h2 : ((k3 : Int) = 0) = False := by simp; omega
    generalize hq : decide (k3 = 5) = q at hF
    have h3 : ((k3 : Int) == 5) = q := by rw [← hq]; by_cases h5 : k3 = 5 <;> simp [h5]; omega
    have h4 : decide ((k3 : Int) = 5) = q := by rw [← hq]; by_cases h5 : k3 = 5 <;> simp [h5]; omega
    have HP := Lib.hid (show ∀ w3 S0', JAt w3 d jb S0' J3 → Upd S0 w w3 → Sub w S0 S0' → TPost w d tb S (T.apply l) (.returned (.int .i64 k3)) (w3.setCell ⟨tb, 2, none⟩ (.bool q)) from by
      intro w3 S0' hJ3 hU hsub
      rw [hF, if_pos hk3]
      exact table_shut HS.out HMB.out hmlt hJ3 (HM.out.upd hU HJ.out.off8 HMB.out) (hU.get HT.out hn0) (hU.mono (fun i hi _ => by rw [HS.out]; simp [hi])) hsub)
    have HH4 := Lib.hid h4
    clear hr hlen hvl hlo hsz hll hc h hF hJ hM ht hS hr2 hal hk3 hq hr3
    go_enter Try.func10, Try.ntmps10
    go_wp2_with (first
      | (go_at_call 30; refine hup.mono ?_; rintro e w1 ⟨rfl, rfl⟩)
      | (go_at_call 19; refine henc.mono ?_; rintro e w1 ⟨v1, rfl, hv1, hU1⟩; (have c0' := hU1.cell c0 (by simp)))
      | (go_at_call 31; refine (HAP.out w1 v1 hU1 hv1.by).mono ?_; rintro e w2 ⟨rfl, S2, hJ2, hU2, hS2⟩; (have hU12 : Upd S0 w w2 := (hU1.mono (T := S0) (by simp)).trans hU2 (fun i hi _ => hi)); (have hsub : Sub w S0 S2 := fun j hj => (hS2 j hj).imp_right (fun h => Nat.le_trans hU1.size h)); (have c0'' := hU12.cell c0 hn0))
      | (go_at_call 32; refine (HSY.out w2 S2 hJ2).mono ?_; rintro e w3 ⟨rfl, S3, hJ3, hU3, hS3⟩; (have hU13 := hU12.sub hsub hU3); (have hsub3 := hsub.trans hS3 hU12.size); (have c2' := hU13.cell c2 hn0); (have f2' := frozen_lit w3 tb 2 _ _ (hU13.get HT.out hn0))))
    go_ret
    first | exact HP.out w3 S3 hJ3 hU13 hsub3 | (rw [HH4.out]; exact HP.out w3 S3 hJ3 hU13 hsub3)
  have hk3 : k3 = 0 := Classical.not_not.1 hk3
  subst hk3
  rw [if_neg (by simp)] at hF
  dsimp only at hF
  have hdo := fun (w3 : World) (hU : Upd S0 w w3) => table_do w3 tb jb mb T.m (.bool false) (hM.upd hU hJ.off8 hmb) (hU.get ht hn0) lv l (hc.upd hU hJ.off8 (hJ.off (by decide) (by decide) (by decide))) hll hvl
  have HDO := Lib.hid hdo
  have HP := Lib.hid (show ∀ w3 w4 S0', JAt w3 d jb S0' J3 → Upd S0 w w3 → Sub w S0 S0' → Upd [mb] w3 w4 → MapB w4 mb (tdo T.m l) → TPost w d tb S (T.apply l) (.returned (.int .i64 (0 : Nat))) (w4.setCell ⟨tb, 2, none⟩ (.bool false)) from by
    intro w3 w4 S0' hJ3 hU hsub hU4 hM4
    rw [hF]
    have hm3 := HM.out.upd hU HJ.out.off8 HMB.out
    have htm : tb ∉ [mb] := by simp; exact (hm3.ne_cells (hU.get HT.out hn0)).symm
    exact table_shut HS.out HMB.out hmlt (hJ3.upd hU4 (hm3.off (Off.nil _ _)) (fun j hj => by simp; rintro rfl; exact hsub.not_mem hmlt HMB.out hj)) hM4 (hU4.get (hU.get HT.out hn0) htm) ((hU.mono (fun i hi _ => by rw [HS.out]; simp [hi])).trans hU4 (fun i hi _ => by simp at hi; subst hi; rw [HS.out]; simp)) hsub)
  have hmt : tb ≠ mb := (hM.ne_cells ht).symm
  clear hr hlen hvl hlo hsz hll hc h hF hJ hM ht hS hr2 hal hr3 hdo
  go_enter Try.func10, Try.ntmps10
  go_wp2_with (first
    | (go_at_call 30; refine hup.mono ?_; rintro e w1 ⟨rfl, rfl⟩)
    | (go_at_call 19; refine henc.mono ?_; rintro e w1 ⟨v1, rfl, hv1, hU1⟩; (have c0' := hU1.cell c0 (by simp)))
    | (go_at_call 31; refine (HAP.out w1 v1 hU1 hv1.by).mono ?_; rintro e w2 ⟨rfl, S2, hJ2, hU2, hS2⟩; (have hU12 : Upd S0 w w2 := (hU1.mono (T := S0) (by simp)).trans hU2 (fun i hi _ => hi)); (have hsub : Sub w S0 S2 := fun j hj => (hS2 j hj).imp_right (fun h => Nat.le_trans hU1.size h)); (have c0'' := hU12.cell c0 hn0))
    | (go_at_call 32; refine (HSY.out w2 S2 hJ2).mono ?_; rintro e w3 ⟨rfl, S3, hJ3, hU3, hS3⟩; (have hU13 := hU12.sub hsub hU3); (have hsub3 := hsub.trans hS3 hU12.size))
    | (go_at_call 29; refine (HDO.out w3 hU13).mono ?_; rintro e w4 ⟨rfl, hU4, hM4⟩; (have hg4 := hU4.get (hU13.get HT.out hn0) (by simp; exact hmt)); (have c2' : w4.cell? ⟨tb, 2, none⟩ = some (.bool false) := by rw [cell_lit w4 tb 2 _ _ _ hg4]; rfl); (have f2' := frozen_lit w4 tb 2 _ _ hg4)))
  go_ret
  exact HP.out w3 w4 S3 hJ3 hU13 hsub3 hU4 hM4
end Go.Proofs.Ythfbfdkjgkkpcaa
