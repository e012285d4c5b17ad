/-
  What a disk's maps, its loose changes and the disk itself are in memory, and the walks of package disk.
-/
import Derived.Test.YthfbfdkjgkkpcaaOctet
import Derived.Test.YthfbfdkjgkkpcaaMap
import Derived.Test.YthfbfdkjgkkpcaaSpec
import Derived.Deep.RegionHeld3
namespace Go.Proofs.Ythfbfdkjgkkpcaa
open Go Go.RowKit

/-- Two lists, member by member. -/
inductive All2 {α β : Type} (R : α → β → Prop) : List α → List β → Prop
  | nil : All2 R [] []
  | cons {a : α} {b : β} {l : List α} {m : List β} (h : R a b) (t : All2 R l m) : All2 R (a :: l) (b :: m)

/-- Pairs of names and byte slices read as pairs of names and bytes. -/
def Vals (w : World) (es : List (List UInt8 × Value)) (m : List (List UInt8 × List UInt8)) : Prop := All2 (fun p q => p.1 = q.1 ∧ By w p.2 q.2) es m
theorem Vals.upd {S : List Nat} {w w' : World} {es : List (List UInt8 × Value)} {m : List (List UInt8 × List UInt8)} (h : Vals w es m) (hU : Upd S w w') (hS : Off w 5 S) : Vals w' es m := by
  induction h with
  | nil => exact .nil
  | cons h1 _ ih => exact .cons ⟨h1.1, h1.2.upd hU hS⟩ ih
theorem Vals.get {w : World} {es : List (List UInt8 × Value)} {m : List (List UInt8 × List UInt8)} (h : Vals w es m) (k : List UInt8) :
    (aget k es = none ∧ aget k m = none) ∨ ∃ v l, aget k es = some v ∧ aget k m = some l ∧ By w v l := by
  induction h with
  | nil => exact .inl ⟨rfl, rfl⟩
  | @cons p q es m h1 _ ih =>
    by_cases hk : p.1 = k
    · exact .inr ⟨p.2, q.2, by simp [aget, hk], by simp [aget, ← h1.1, hk], h1.2⟩
    · rw [show aget k (p :: es) = aget k es from by simp [aget, hk], show aget k (q :: m) = aget k m from by simp [aget, ← h1.1, hk]]
      exact ih
theorem Vals.keys {w : World} {es : List (List UInt8 × Value)} {m : List (List UInt8 × List UInt8)} (h : Vals w es m) : es.map (·.1) = m.map (·.1) := by
  induction h with
  | nil => rfl
  | cons h1 _ ih => simp [h1.1, ih]
theorem Vals.put {w : World} {es : List (List UInt8 × Value)} {m : List (List UInt8 × List UInt8)} (h : Vals w es m) (k : List UInt8) {v : Value} {l : List UInt8} (hv : By w v l) : Vals w (aput k v es) (aput k l m) := by
  induction h with
  | nil => exact .cons ⟨rfl, hv⟩ .nil
  | @cons p q es m h1 h2 ih =>
    by_cases hk : p.1 = k
    · rw [show aput k v (p :: es) = (k, v) :: es from by simp [aput, hk], show aput k l (q :: m) = (k, l) :: m from by simp [aput, ← h1.1, hk]]
      exact .cons ⟨rfl, hv⟩ h2
    · rw [show aput k v (p :: es) = p :: aput k v es from by simp [aput, hk], show aput k l (q :: m) = q :: aput k l m from by simp [aput, ← h1.1, hk]]
      exact .cons h1 ih
theorem Vals.del {w : World} {es : List (List UInt8 × Value)} {m : List (List UInt8 × List UInt8)} (h : Vals w es m) (k : List UInt8) : Vals w (adel k es) (adel k m) := by
  induction h with
  | nil => exact .nil
  | @cons p q es m h1 h2 ih =>
    by_cases hk : p.1 = k
    · rw [show adel k (p :: es) = es from by simp [adel, hk], show adel k (q :: m) = m from by simp [adel, ← h1.1, hk]]
      exact h2
    · rw [show adel k (p :: es) = p :: adel k es from by simp [adel, hk], show adel k (q :: m) = q :: adel k m from by simp [adel, ← h1.1, hk]]
      exact .cons h1 ih

/-- A block is a map of names to bytes: in some order the pairs of m. -/
def MapB (w : World) (mb : Nat) (m : List (List UInt8 × List UInt8)) : Prop := ∃ es m', MapW w mb es ∧ Vals w es m' ∧ m'.Perm m
theorem MapB.upd {S : List Nat} {w w' : World} {mb : Nat} {m : List (List UInt8 × List UInt8)} (h : MapB w mb m) (hU : Upd S w w') (hS : Off w 5 S) (hn : mb ∉ S) : MapB w' mb m := by
  obtain ⟨es, m', h1, h2, h3⟩ := h
  exact ⟨es, m', h1.upd hU hn, h2.upd hU hS, h3⟩

theorem MapB.nodup {w : World} {mb : Nat} {m : List (List UInt8 × List UInt8)} (h : MapB w mb m) : (m.map (·.1)).Nodup := by
  obtain ⟨es, m', h1, h2, h3⟩ := h
  rw [← (h3.map _).nodup_iff, ← h2.keys]
  exact h1.nodup
theorem MapB.lt {w : World} {mb : Nat} {m : List (List UInt8 × List UInt8)} (h : MapB w mb m) : mb < w.heap.size := by
  obtain ⟨es, m', h1, _⟩ := h
  exact h1.lt
theorem MapB.off {w : World} {mb : Nat} {m : List (List UInt8 × List UInt8)} (h : MapB w mb m) {e : TypeId} {S : List Nat} (hS : Off w e S) : Off w e (mb :: S) := by
  obtain ⟨es, m', h1, _⟩ := h
  exact h1.off hS
theorem MapB.perm {w : World} {mb : Nat} {m m1 : List (List UInt8 × List UInt8)} (h : MapB w mb m) (hp : m.Perm m1) : MapB w mb m1 := by
  obtain ⟨es, m', h1, h2, h3⟩ := h
  exact ⟨es, m', h1, h2, h3.trans hp⟩
/-- Behind a store of bytes at a key. -/
theorem MapB.put {w w' : World} {mb : Nat} {es : List (List UInt8 × Value)} {m' m : List (List UInt8 × List UInt8)} (h2 : Vals w es m') (h3 : m'.Perm m) (hn : (m.map (·.1)).Nodup) {k : List UInt8} {v : Value} {l : List UInt8}
    (hv : By w v l) (hW : MapW w' mb (aput k v es)) (hU : Upd [mb] w w') (hoff : Off w 5 [mb]) : MapB w' mb (fput k l m) := by
  have hn' : (m'.map (·.1)).Nodup := (h3.map _).nodup_iff.2 hn
  exact ⟨_, _, hW, (h2.put k hv).upd hU hoff, (aput_perm hn').trans (fput_perm_of h3)⟩
theorem MapB.del {w w' : World} {mb : Nat} {es : List (List UInt8 × Value)} {m' m : List (List UInt8 × List UInt8)} (h2 : Vals w es m') (h3 : m'.Perm m) (hn : (m.map (·.1)).Nodup) {k : List UInt8}
    (hW : MapW w' mb (adel k es)) (hU : Upd [mb] w w') (hoff : Off w 5 [mb]) : MapB w' mb (fdel k m) := by
  have hn' : (m'.map (·.1)).Nodup := (h3.map _).nodup_iff.2 hn
  exact ⟨_, _, hW, (h2.del k).upd hU hoff, by rw [adel_eq hn']; exact fdel_perm h3⟩

theorem mapFiles : MapT Try.prog 69 41 (.slice none 0 0) := ⟨⟨9, by kernel_rfl, by kernel_rfl⟩, by
  obtain ⟨i, h1, h2, _⟩ := info_parts (P := Try.prog) (e := 41) (z := .slice none 0 0) (size := 1) (bytes := 24) (by kernel_rfl)
  exact ⟨i, h1, h2⟩⟩

/-- A change as a value. -/
abbrev chgV (c : Chg) (pv : Value) : Value := .agg #[.int .i64 c.kind, encS c.a, encS c.b, pv]

theorem Vals.getD {w : World} {es : List (List UInt8 × Value)} {m : List (List UInt8 × List UInt8)} (h : Vals w es m) (k : List UInt8) : By w ((aget k es).getD (.slice none 0 0)) ((aget k m).getD []) := by
  rcases h.get k with ⟨h1, h2⟩ | ⟨v, l, h1, h2, h3⟩
  · rw [h1, h2]; exact Rd.nil _ _ _
  · rw [h1, h2]; exact h3

/-- What a change done to a map of files leaves. -/
def DoPost (w : World) (mb : Nat) (m : List (List UInt8 × List UInt8)) (e : Ending) (w' : World) : Prop := e = .returned (.tuple #[]) ∧ MapB w' mb m ∧ Upd [mb] w w'

theorem files_do_0 (w : World) (mb : Nat) (m : List (List UInt8 × List UInt8)) (h : MapB w mb m) (a b : List UInt8) (pv : Value) :
    Calls Try.prog 46 #[.map (some mb), .agg #[.int .i64 0, encS a, encS b, pv]] w (DoPost w mb (fput a [] m)) := by
  obtain ⟨es, m', h1, h2, h3⟩ := h
  have hn : (m.map (·.1)).Nodup := MapB.nodup ⟨es, m', h1, h2, h3⟩
  have hoff : Off w 5 [mb] := h1.off (Off.nil _ _)
  go_enter Try.func46, Try.ntmps46
  go_wp2_with ((with_reducible show wpList _ _ _ (⟨_, .mapUpdate _ _ _ _, _, _, _, _⟩ :: _) _ _); refine wpl_mapUpdate mapFiles rfl rfl (h1.upd (Upd.alloc [] _ _) (by simp)) rfl a rfl rfl ?_; intro w1 hW hU)
  go_end0
  have hU1 : Upd [mb] w w1 := (Upd.alloc [mb] w _).trans hU (fun i hi _ => hi)
  exact ⟨rfl, MapB.put h2 h3 hn (Rd.nil _ _ _) hW hU1 hoff, hU1⟩

theorem files_do_2 (w : World) (mb : Nat) (m : List (List UInt8 × List UInt8)) (h : MapB w mb m) (a b : List UInt8) (pv : Value) :
    Calls Try.prog 46 #[.map (some mb), .agg #[.int .i64 2, encS a, encS b, pv]] w (DoPost w mb (fdel a m)) := by
  obtain ⟨es, m', h1, h2, h3⟩ := h
  have hn : (m.map (·.1)).Nodup := MapB.nodup ⟨es, m', h1, h2, h3⟩
  have hoff : Off w 5 [mb] := h1.off (Off.nil _ _)
  go_enter Try.func46, Try.ntmps46
  go_wp2_with ((with_reducible show wpList _ _ _ (⟨_, .call ⟨.builtin .delete, _, _⟩, _, _, _, _⟩ :: _) _ _); refine wpl_delete mapFiles rfl rfl (h1.upd (Upd.alloc [] _ _) (by simp)) rfl a rfl ?_; intro w1 hW hU)
  go_end0
  have hU1 : Upd [mb] w w1 := (Upd.alloc [mb] w _).trans hU (fun i hi _ => hi)
  exact ⟨rfl, MapB.del h2 h3 hn hW hU1 hoff, hU1⟩

set_option maxRecDepth 100000 in
theorem files_do_1 (w : World) (mb : Nat) (m : List (List UInt8 × List UInt8)) (h : MapB w mb m) (a b p : List UInt8) (pv : Value) (hp : By w pv p) (hb : ((aget a m).getD []).length + p.length ≤ 1073741824) :
    Calls Try.prog 46 #[.map (some mb), .agg #[.int .i64 1, encS a, encS b, pv]] w (DoPost w mb (fput a ((aget a m).getD [] ++ p) m)) := by
  obtain ⟨es, m', h1, h2, h3⟩ := h
  have hn : (m.map (·.1)).Nodup := MapB.nodup ⟨es, m', h1, h2, h3⟩
  have hoff : Off w 5 [mb] := h1.off (Off.nil _ _)
  have hv := h2.getD a
  have hag : aget a m' = aget a m := aget_perm h3 ((h3.map _).nodup_iff.2 hn)
  rw [hag] at hv
  generalize hl0 : (aget a m).getD [] = l0 at *
  obtain ⟨ao, cap, hsh⟩ := hv.val
  have hcap : l0.length ≤ cap := by
    obtain ⟨ao', cap', h5, h6⟩ := Rd.shape hv
    rw [hsh] at h5
    cases h5
    exact h6
  have HSH := Lib.hid hsh
  rw [hsh] at hv
  clear hsh
  have Hl0 := Lib.hid hl0; clear hl0 hag
  obtain ⟨aop, capp, rfl⟩ := hp.val
  go_enter Try.func46, Try.ntmps46
  go_wp2_with ((with_reducible show wpList _ _ _ (⟨_, .lookup _ _ _ _, _, _, _, _⟩ :: _) _ _); refine wpl_lookup mapFiles rfl rfl (h1.upd (Upd.alloc [] _ _) (by simp)) rfl a rfl _ HSH.out ?_)
  have hU0 : Upd [] w ((w.alloc (Obj.cells #[Value.int IntKind.i64 1, encS a, encS b, Value.slice aop p.length capp] 95)).drew) := (Upd.alloc [] _ _).trans0 (Upd.drew [] _)
  have hl : Rd w 5 1 (.slice ao l0.length l0.length) l0.length (l0.map enc) := by
    have := run_cut elU8 hv 0 l0.length l0.length (by omega) (by omega) (by omega) hcap
    simp only [Nat.zero_mul, Nat.mul_one, List.drop_zero, Nat.sub_zero] at this
    rw [List.take_of_length_le (by simp)] at this
    have e : (if l0.length = 0 then ao else ao.map (·.add 0)) = ao := by split <;> simp [Addr.add]
    rw [e] at this
    exact this
  obtain ⟨v1, w1, hr1, hv1, hU1⟩ := run_append_full (P := Try.prog) (ty := 41) elU8 (hl.upd0 hU0) (hp.upd0 hU0) (by unfold maxLen; omega) (by omega)
  rw [← List.map_append, ← List.length_append] at hv1
  have hU01 := hU0.trans0 hU1
  obtain ⟨w2, hr2, hW2, hU2⟩ := run_mapUpdate_s mapFiles (h1.upd hU01 (by simp)) a v1
  have hUall : Upd [mb] w w2 := (hU01.mono (T := [mb]) (by simp)).trans hU2 (fun i hi _ => hi)
  have hcut : ∀ W, (Instr.sliceAt 41 (.slice ao l0.length cap) none (some (.int .i64 l0.length)) (some (.int .i64 l0.length))).run Try.prog W = .ok (.slice ao l0.length l0.length) W := by
    intro W
    have b1 := run_bound (P := Try.prog) (k := .i64) l0.length cap .slice3Acap W (by omega) (by omega)
    have b2 := run_bound (P := Try.prog) (k := .i64) l0.length l0.length .slice3B W (by omega) (by omega)
    have e : ao.map (fun x : Addr => x.add 0) = ao := by cases ao <;> simp [Addr.add]
    simp [Instr.sliceAt, Instr.slice, run_underlying elU8.und, Instr.sliceBounds, b1, b2, sizeOf_run elU8 W, Result.andThen, e]
  have hW1 := h1.upd hU01 (by simp)
  have FIN := Lib.hid (MapB.put (h2.upd hU01 (Off.nil _ _)) h3 hn hv1 hW2 hU2 (hW1.off (Off.nil _ _)))
  have HU := Lib.hid hUall
  have hne : w.heap.size ∉ [mb] := by have := h1.lt; simp; omega
  have d1 : (w.alloc (Obj.cells #[Value.int IntKind.i64 1, encS a, encS b, Value.slice aop p.length capp] 95)).drew.cell? ⟨w.heap.size, 1, none⟩ = some (encS a) := by simp
  have d3 : (w.alloc (Obj.cells #[Value.int IntKind.i64 1, encS a, encS b, Value.slice aop p.length capp] 95)).drew.cell? ⟨w.heap.size, 3, none⟩ = some (.slice aop p.length capp) := by simp
  have c1 := hU1.cell d1 (by simp)
  have c3 := hU1.cell d3 (by simp)
  have e1 := hU2.cell c1 hne
  have e3 := hU2.cell c3 hne
  clear hU01 hUall hW2 hU2 hU1 hU0 hl hv1 hW1 hne hv hcap hb hoff hn
  go_region_held3 (fun w' => w'.cell? ⟨w.heap.size, 1, none⟩ = some (encS a) ∧ w'.cell? ⟨w.heap.size, 3, none⟩ = some (.slice aop p.length capp)) (go_keep) ((refine step_run rfl (run_append_op rfl rfl rfl hr1) ?_))
  go_wp2_with fail
  go_end0
  exact ⟨rfl, FIN.out, HU.out⟩

theorem fdel_comm {α : Type} (a b : List UInt8) (m : List (List UInt8 × α)) : fdel a (fdel b m) = fdel b (fdel a m) := by
  simp only [fdel_eq_filter, List.filter_filter]
  congr 1
  funext p
  rw [Bool.and_comm]
theorem fput_fdel_perm {α : Type} {a b : List UInt8} (h : a ≠ b) (v : α) (m : List (List UInt8 × α)) : (fdel a (fput b v m)).Perm (fput b v (fdel a m)) := by
  refine (fdel_perm (fput_perm b v m)).trans (List.Perm.trans ?_ (fput_perm b v (fdel a m)).symm)
  simp only [fdel, if_neg (Ne.symm h)]
  rw [fdel_comm]
theorem fput_same_perm {α : Type} (a : List UInt8) (v : α) (m : List (List UInt8 × α)) : (fput a v m).Perm (fput a v (fdel a m)) := by
  refine (fput_perm a v m).trans (List.Perm.trans ?_ (fput_perm a v (fdel a m)).symm)
  rw [show fdel a (fdel a m) = fdel a m from by simp [fdel_eq_filter, List.filter_filter]]

set_option maxRecDepth 100000 in
theorem files_do_3 (w : World) (mb : Nat) (m : List (List UInt8 × List UInt8)) (h : MapB w mb m) (a b : List UInt8) (pv : Value) :
    Calls Try.prog 46 #[.map (some mb), .agg #[.int .i64 3, encS a, encS b, pv]] w (DoPost w mb (fput b ((aget a m).getD []) (fdel a m))) := by
  obtain ⟨es, m', h1, h2, h3⟩ := h
  have hn : (m.map (·.1)).Nodup := MapB.nodup ⟨es, m', h1, h2, h3⟩
  have hoff : Off w 5 [mb] := h1.off (Off.nil _ _)
  have hv := h2.getD a
  have hag : aget a m' = aget a m := aget_perm h3 ((h3.map _).nodup_iff.2 hn)
  rw [hag] at hv
  have hU0 : Upd [] w (w.alloc (Obj.cells #[Value.int IntKind.i64 3, encS a, encS b, pv] 95)) := Upd.alloc [] _ _
  have hW0 := h1.upd hU0 (by simp)
  have hlt := h1.lt
  have hne : w.heap.size ∉ [mb] := by simp; omega
  have d1 : (w.alloc (Obj.cells #[Value.int IntKind.i64 3, encS a, encS b, pv] 95)).cell? ⟨w.heap.size, 1, none⟩ = some (encS a) := by simp
  have d2 : (w.alloc (Obj.cells #[Value.int IntKind.i64 3, encS a, encS b, pv] 95)).cell? ⟨w.heap.size, 2, none⟩ = some (encS b) := by simp
  have D1 := Lib.hid d1; have D2 := Lib.hid d2; have HN := Lib.hid hne
  clear d1 d2 hne
  by_cases hab : a = b
  · subst hab
    go_enter Try.func46, Try.ntmps46
    go_wp2_with (first
      | ((with_reducible show wpList _ _ _ (⟨_, .lookup _ _ _ _, _, _, _, _⟩ :: _) _ _); refine wpl_lookup mapFiles rfl rfl hW0 rfl a rfl _ rfl ?_)
      | ((with_reducible show wpList _ _ _ (⟨_, .mapUpdate _ _ _ _, _, _, _, _⟩ :: _) _ _); refine wpl_mapUpdate mapFiles rfl rfl hW0 rfl a rfl rfl ?_; intro w1 hW hU; have k1 := hU.cell D1.out HN.out; have k2 := hU.cell D2.out HN.out))
    go_end0
    have hU1 : Upd [mb] w w1 := (hU0.mono (T := [mb]) (by simp)).trans hU (fun i hi _ => hi)
    exact ⟨rfl, (MapB.put (h2.upd hU0 (Off.nil _ _)) h3 hn (hv.upd0 hU0) hW hU (hW0.off (Off.nil _ _))).perm (fput_same_perm _ _ _), hU1⟩
  · have hab' : (a == b) = false := by simpa using hab
    go_enter Try.func46, Try.ntmps46
    go_wp2_with (first
      | ((with_reducible show wpList _ _ _ (⟨_, .lookup _ _ _ _, _, _, _, _⟩ :: _) _ _); refine wpl_lookup mapFiles rfl rfl hW0 rfl a rfl _ rfl ?_)
      | ((with_reducible show wpList _ _ _ (⟨_, .mapUpdate _ _ _ _, _, _, _, _⟩ :: _) _ _); refine wpl_mapUpdate mapFiles rfl rfl hW0 rfl b rfl rfl ?_; intro w1 hW hU; have k1 := hU.cell D1.out HN.out; have k2 := hU.cell D2.out HN.out)
      | ((with_reducible show wpList _ _ _ (⟨_, .call ⟨.builtin .delete, _, _⟩, _, _, _, _⟩ :: _) _ _); refine wpl_delete mapFiles rfl rfl hW rfl a rfl ?_; intro w2 hW2 hU2))
    go_end0
    have hU1 : Upd [mb] w w1 := (hU0.mono (T := [mb]) (by simp)).trans hU (fun i hi _ => hi)
    have hM1 := MapB.put (h2.upd hU0 (Off.nil _ _)) h3 hn (hv.upd0 hU0) hW hU (hW0.off (Off.nil _ _))
    have hoff1 : Off w1 5 [mb] := hW.off (Off.nil _ _)
    have hU12 : Upd [mb] w w2 := hU1.trans hU2 (fun i hi _ => hi)
    have hvals := ((h2.upd hU0 (Off.nil _ _)).put b (hv.upd0 hU0)).upd hU (hW0.off (Off.nil _ _))
    have hnm' : (m'.map (·.1)).Nodup := (h3.map _).nodup_iff.2 hn
    have hp1 : (aput b ((aget a m).getD []) m').Perm (fput b ((aget a m).getD []) m) := (aput_perm hnm').trans (fput_perm_of h3)
    exact ⟨rfl, (MapB.del hvals hp1 (fput_nodup hn) hW2 hU2 hoff1).perm (fput_fdel_perm hab _ _), hU12⟩
theorem files_do (w : World) (mb : Nat) (m : List (List UInt8 × List UInt8)) (h : MapB w mb m) (c : Chg) (hk : c.kind ≤ 3) (pv : Value) (hp : By w pv c.p) (hb : used m + c.p.length ≤ 1073741824) :
    Calls Try.prog 46 #[.map (some mb), chgV c pv] w (DoPost w mb (fdo m c)) := by
  obtain ⟨k, a, b, p⟩ := c
  have hk' : k = 0 ∨ k = 1 ∨ k = 2 ∨ k = 3 := by simp only at hk; omega
  rcases hk' with rfl | rfl | rfl | rfl
  · exact files_do_0 w mb m h a b pv
  · refine files_do_1 w mb m h a b p pv hp ?_
    simp only at hb
    cases hg : aget a m with
    | none => simp; omega
    | some l => have := aget_le_used hg; simp; omega
  · exact files_do_2 w mb m h a b pv
  · exact files_do_3 w mb m h a b pv
end Go.Proofs.Ythfbfdkjgkkpcaa
