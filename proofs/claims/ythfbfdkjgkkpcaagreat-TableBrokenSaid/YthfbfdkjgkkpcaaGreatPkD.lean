/-
  The document's files: slices of names and bytes, and the walks of its words over them.
  The document's disk: its small words, and a change done to a list of files.
  The document's disk in memory, and its steps: May, power, Step, Sync.
  The document's disk: Step and Sync.
  The document's journal in memory: Append, Size.
-/
import Derived.Test.YthfbfdkjgkkpcaaGreatPkC
import Derived.Test.YthfbfdkjgkkpcaaGreatPkA
import Derived.IntWalk
namespace Go.Proofs.YthfbfdkjgkkpcaaGreat
open Go Go.RowKit

/-- A slice that reads as files; the call's own one. -/
def Fls (w : World) (v : Value) (l : List (List UInt8 × List UInt8)) : Prop := ∃ cells, Rd w 138 2 v l.length cells ∧ PCells w cells l
def OwnFls (w : World) (B : Nat) (v : Value) (l : List (List UInt8 × List UInt8)) : Prop := ∃ cells, w.ownsRow B 138 2 v l.length cells ∧ PCells w cells l
theorem OwnFls.fls {w : World} {B : Nat} {v : Value} {l : List (List UInt8 × List UInt8)} (h : OwnFls w B v l) : Fls w v l := by
  obtain ⟨cells, h1, h2⟩ := h
  exact ⟨cells, Rd.of_own h1, h2⟩
theorem OwnFls.upd0 {w w' : World} {B : Nat} {v : Value} {l : List (List UInt8 × List UInt8)} (h : OwnFls w B v l) (hU : Upd [] w w') : OwnFls w' B v l := by
  obtain ⟨cells, h1, h2⟩ := h
  exact ⟨cells, Own.upd0 h1 hU, h2.upd hU (Off.nil _ _)⟩
theorem OwnFls.mono {w : World} {B B' : Nat} {v : Value} {l : List (List UInt8 × List UInt8)} (h : OwnFls w B v l) (hB : B' ≤ B) : OwnFls w B' v l := by
  obtain ⟨cells, h1, h2⟩ := h
  exact ⟨cells, Own.mono h1 hB, h2⟩
theorem OwnFls.nil (w : World) (B : Nat) : OwnFls w B (.slice none 0 0) [] := ⟨[], World.ownsRow_nil _ _ _ _, trivial⟩
theorem Fls.upd {S : List Nat} {w w' : World} {v : Value} {l : List (List UInt8 × List UInt8)} (h : Fls w v l) (hU : Upd S w w') (h1 : Off w 5 S) (h2 : Off w 138 S) : Fls w' v l := by
  obtain ⟨cells, ha, hb⟩ := h
  exact ⟨cells, ha.upd hU h2, hb.upd hU h1⟩
theorem Fls.upd0 {w w' : World} {v : Value} {l : List (List UInt8 × List UInt8)} (h : Fls w v l) (hU : Upd [] w w') : Fls w' v l := h.upd hU (Off.nil _ _) (Off.nil _ _)
theorem Fls.nil (w : World) : Fls w (.slice none 0 0) [] := ⟨[], Rd.nil _ _ _, trivial⟩
theorem Fls.shape {w : World} {v : Value} {l : List (List UInt8 × List UInt8)} (h : Fls w v l) : ∃ ao cap, v = .slice ao l.length cap := by
  obtain ⟨cells, h1, _⟩ := h
  obtain ⟨ao, cap, h2, _⟩ := h1.shape
  exact ⟨ao, cap, h2⟩
theorem elFile : Elem Tryz.prog 117 138 2 40 := ⟨by kernel_rfl, by omega, by
  obtain ⟨i, h1, h2, h3, h4⟩ := info_parts (P := Tryz.prog) (e := 138) (z := .agg #[.string ⟨#[]⟩, .slice none 0 0]) (size := 2) (bytes := 40) (by kernel_rfl)
  exact ⟨i, _, h1, h2, h3, h4, rfl⟩⟩
theorem app_fl {w0 w : World} (hU : Upd [] w0 w) {v y pv : Value} {l : List (List UInt8 × List UInt8)} {p : List UInt8 × List UInt8} (hown : OwnFls w w0.heap.size v l) (hR : Rd w 138 2 y 1 [encS p.1, pv]) (hpv : By w pv p.2) (hb : l.length + 1 ≤ 1000000001) (ty : Nat) :
    ∃ v' w', (Builtin.append_ #[117, 117] ty #[v, y]).run Tryz.prog w = .ok v' w' ∧ OwnFls w' w0.heap.size v' (l ++ [p]) ∧ Upd v.ownBlock.toList w w' ∧ Upd [] w0 w' := by
  obtain ⟨cells, ho, hC⟩ := hown
  obtain ⟨ao, cap, rfl⟩ := By.val hpv
  obtain ⟨v', w', r1, r2, r3, r4⟩ := app_row (P := Tryz.prog) elFile hU ho hR (by intro u hu; simp at hu; rcases hu with rfl | rfl <;> rfl) (by unfold maxLen; omega) (by omega) ty
  have hoff : Off w 5 v.ownBlock.toList := Own.off ho (by decide)
  have hd : PCells w' [encS p.1, .slice ao p.2.length cap] [p] := ⟨rfl, hpv.upd r3 hoff, trivial⟩
  exact ⟨v', w', r1, ⟨cells ++ [encS p.1, .slice ao p.2.length cap], by rw [List.length_append]; exact r2, hd.append (hC.upd r3 hoff)⟩, r3, r4⟩
section
variable {ops : Array Oper} {Q : Exit → Act → World → Prop} {a : Act} {w : World} {rest : List Oper} {o : Oper}
theorem wpl_append_fl (hw : Region.wanted o (yielded ops a.tmps) = true) {s x : Operand} (ho : o.op = .call { callee := .builtin .append, args := #[s, x], argTypes := #[117, 117] })
    {w0 : World} (hU : Upd [] w0 w) {v y pv : Value} {l : List (List UInt8 × List UInt8)} {p : List UInt8 × List UInt8} (hown : OwnFls w w0.heap.size v l) (hs : a.eval s = v) (hR : Rd w 138 2 y 1 [encS p.1, pv]) (hx : a.eval x = y) (hpv : By w pv p.2) (hb : l.length + 1 ≤ 1000000001)
    (hK : ∀ v' w', OwnFls w' w0.heap.size v' (l ++ [p]) → Upd [] w0 w' → wpList Tryz.prog ops Q rest (a.put o.dst v') w') : wpList Tryz.prog ops Q (o :: rest) a w := by
  obtain ⟨v', w', r1, r2, r3, r4⟩ := app_fl hU hown hR hpv hb o.type
  exact wpl_run hw (v := v') (w' := w') (by simp [execOp, ho, resolve, invoke, builtin, hs, hx, r1, Result.andThen]) (hK v' w' r2 r4)
end

theorem aget_drop {k : List UInt8} {l : List (List UInt8 × List UInt8)} {i : Nat} {p : List UInt8 × List UInt8} (hp : l[i]? = some p) : aget k (l.drop i) = if p.1 = k then some p.2 else aget k (l.drop (i + 1)) := by
  obtain ⟨hi, rfl⟩ := List.getElem?_eq_some_iff.1 hp
  rw [List.drop_eq_getElem_cons hi]
  rfl
def RfNo (w : World) (k : List UInt8) (l : List (List UInt8 × List UInt8)) (x : Value) (wr : World) : Prop := ∃ i : Nat, x = .int .i64 i ∧ i ≤ l.length ∧ aget k (l.drop i) = none ∧ wr = w
set_option maxRecDepth 100000 in
theorem rf_find_none (w : World) (v : Value) (l : List (List UInt8 × List UInt8)) (hl : Fls w v l) (k : List UInt8) (hn : l.length ≤ 1000000000) (hk : aget k l = none) :
    Calls Tryz.prog 64 #[v, encS k] w fun e w' => e = .returned (.int .i64 (-1)) ∧ w = w' := by
  obtain ⟨cells, hR, hC⟩ := hl
  obtain ⟨ao, cap, rfl, _⟩ := hR.shape
  have HK := Lib.hid hk; have HN9 := Lib.hid hn; clear hn hk
  go_enter Tryz.func64, Tryz.ntmps64
  go_wp2_with fail
  go_loopw [5] (fun x wr => RfNo w k l x wr) (fun x _ => l.length - (intOf x).toNat)
  case atStart => exact ⟨0, rfl, Nat.zero_le _, HK.out, rfl⟩
  case round =>
    obtain ⟨i, rfl, hi, hg, rfl⟩ := hrel
    have hll := HN9.out
    by_cases hlt : i < l.length
    · have htt : decide ((i : Int) < (l.length : Int)) = true := by simp; omega
      obtain ⟨p, hp⟩ : ∃ p, l[i]? = some p := ⟨_, List.getElem?_eq_getElem hlt⟩
      obtain ⟨pv, g0, g1, hpv⟩ := hC.get hp
      rw [aget_drop hp] at hg
      have hpk : p.1 ≠ k := fun e => by rw [if_pos e] at hg; cases hg
      rw [if_neg hpk] at hg
      have hb : (p.1 == k) = false := by simpa using hpk
      have HG := Lib.hid hg
      clear hpk hg hp hi
      go_wp2_with ((with_reducible show wpList _ _ _ (⟨_, .indexAddr _ _ _, _, _, _, _⟩ :: _) _ _); refine wpl_indexAddr elFile rfl rfl hR rfl rfl (by omega) (by omega) ?_; intro ad hcell hspot; (have k0 := hcell 0 (by omega)); (have k1 := hcell 1 (by omega)); rw [Int.toNat_natCast, g0] at k0; rw [Int.toNat_natCast, g1] at k1; clear hcell; obtain ⟨gb, gof, gs⟩ := ad; cases hspot; simp only [Addr.add_lit, Nat.add_zero] at k0 k1)
      exact ⟨⟨i + 1, by simp, by omega, HG.out, rfl⟩, by simp [intOf]; omega⟩
    · have htt : decide ((i : Int) < (l.length : Int)) = false := by simp; omega
      clear hg
      go_wp2_with fail
      go_ret
      exact ⟨rfl, rfl⟩
def RfYes (w : World) (k b : List UInt8) (l : List (List UInt8 × List UInt8)) (x : Value) (wr : World) : Prop := ∃ i : Nat, x = .int .i64 i ∧ i ≤ l.length ∧ aget k (l.drop i) = some b ∧ wr = w
def AtPost (w : World) (k b : List UInt8) (l : List (List UInt8 × List UInt8)) (e : Ending) (w' : World) : Prop := ∃ i : Nat, l[i]? = some (k, b) ∧ e = .returned (.int .i64 i) ∧ w = w'
set_option maxRecDepth 100000 in
theorem rf_find_some (w : World) (v : Value) (l : List (List UInt8 × List UInt8)) (hl : Fls w v l) (k b : List UInt8) (hn : l.length ≤ 1000000000) (hk : aget k l = some b) :
    Calls Tryz.prog 64 #[v, encS k] w (AtPost w k b l) := by
  obtain ⟨cells, hR, hC⟩ := hl
  obtain ⟨ao, cap, rfl, _⟩ := hR.shape
  have HK := Lib.hid hk; have HN9 := Lib.hid hn; clear hn hk
  go_enter Tryz.func64, Tryz.ntmps64
  go_wp2_with fail
  go_loopw [5] (fun x wr => RfYes w k b l x wr) (fun x _ => l.length - (intOf x).toNat)
  case atStart => exact ⟨0, rfl, Nat.zero_le _, HK.out, rfl⟩
  case round =>
    obtain ⟨i, rfl, hi, hg, rfl⟩ := hrel
    have hll := HN9.out
    have hlt : i < l.length := by
      rcases Nat.lt_or_ge i l.length with h9 | h9
      · exact h9
      · rw [List.drop_eq_nil_of_le h9] at hg; cases hg
    have htt : decide ((i : Int) < (l.length : Int)) = true := by simp; omega
    obtain ⟨p, hp⟩ : ∃ p, l[i]? = some p := ⟨_, List.getElem?_eq_getElem hlt⟩
    obtain ⟨pv, g0, g1, hpv⟩ := hC.get hp
    rw [aget_drop hp] at hg
    by_cases hpk : p.1 = k
    · have hbt : (p.1 == k) = true := by simpa using hpk
      rw [if_pos hpk] at hg
      have HA := Lib.hid (show AtPost wr k b l (.returned (.int .i64 i)) wr from ⟨i, by rw [hp]; congr 1; exact Prod.ext hpk (by injection hg), rfl, rfl⟩)
      clear hpk hg hp hi
      go_wp2_with ((with_reducible show wpList _ _ _ (⟨_, .indexAddr _ _ _, _, _, _, _⟩ :: _) _ _); refine wpl_indexAddr elFile rfl rfl hR rfl rfl (by omega) (by omega) ?_; intro ad hcell hspot; (have k0 := hcell 0 (by omega)); (have k1 := hcell 1 (by omega)); rw [Int.toNat_natCast, g0] at k0; rw [Int.toNat_natCast, g1] at k1; clear hcell; obtain ⟨gb, gof, gs⟩ := ad; cases hspot; simp only [Addr.add_lit, Nat.add_zero] at k0 k1)
      go_ret
      exact HA.out
    · have hbt : (p.1 == k) = false := by simpa using hpk
      rw [if_neg hpk] at hg
      have HG := Lib.hid hg
      clear hpk hg hp hi
      go_wp2_with ((with_reducible show wpList _ _ _ (⟨_, .indexAddr _ _ _, _, _, _, _⟩ :: _) _ _); refine wpl_indexAddr elFile rfl rfl hR rfl rfl (by omega) (by omega) ?_; intro ad hcell hspot; (have k0 := hcell 0 (by omega)); (have k1 := hcell 1 (by omega)); rw [Int.toNat_natCast, g0] at k0; rw [Int.toNat_natCast, g1] at k1; clear hcell; obtain ⟨gb, gof, gs⟩ := ad; cases hspot; simp only [Addr.add_lit, Nat.add_zero] at k0 k1)
      exact ⟨⟨i + 1, by simp, by omega, HG.out, rfl⟩, by simp [intOf]; omega⟩
def WoRel (w : World) (k : List UInt8) (l : List (List UInt8 × List UInt8)) (x v : Value) (wr : World) : Prop := ∃ i : Nat, x = .int .i64 i ∧ i ≤ l.length ∧ OwnFls wr w.heap.size v (fdel k (l.take i)) ∧ Upd [] w wr
theorem fdel_lenR {α : Type} (k : List UInt8) (l : List (List UInt8 × α)) : (fdel k l).length ≤ l.length := by rw [fdel_eq_filter]; exact List.length_filter_le _ _
def RetFls (w : World) (l : List (List UInt8 × List UInt8)) (e : Ending) (w' : World) : Prop := ∃ v, e = .returned v ∧ OwnFls w' w.heap.size v l ∧ Upd [] w w'
set_option maxRecDepth 100000 in
theorem rf_without (w : World) (v : Value) (l : List (List UInt8 × List UInt8)) (hl : Fls w v l) (k : List UInt8) (hn : l.length ≤ 1000000000) :
    Calls Tryz.prog 165 #[v, encS k] w (RetFls w (fdel k l)) := by
  obtain ⟨cells, hR, hC⟩ := hl
  obtain ⟨ao, cap, rfl, _⟩ := hR.shape
  have HN9 := Lib.hid hn; clear hn
  go_enter Tryz.func165, Tryz.ntmps165
  go_wp2_with fail
  go_loopw [6, 5] (fun x v wr => WoRel w k l x v wr) (fun x _ _ => l.length - (intOf x).toNat)
  case atStart => exact ⟨0, rfl, Nat.zero_le _, by simpa [fdel] using OwnFls.nil _ _, Upd.refl _ _⟩
  case round =>
    obtain ⟨i, rfl, hi, hown, hU⟩ := hrel
    have hll := HN9.out
    by_cases hlt : i < l.length
    · have htt : decide ((i : Int) < (l.length : Int)) = true := by simp; omega
      obtain ⟨p, hp⟩ : ∃ p, l[i]? = some p := ⟨_, List.getElem?_eq_getElem hlt⟩
      obtain ⟨pv, g0, g1, hpv⟩ := hC.get hp
      have hRr := hR.upd0 hU
      have hpr := hpv.upd0 hU
      obtain ⟨aq, cq, hsq⟩ := By.val hpr
      subst hsq
      have htk : l.take (i + 1) = l.take i ++ [p] := by rw [List.take_add_one, hp]; rfl
      by_cases hpk : p.1 = k
      · have hb : (p.1 == k) = true := by simpa using hpk
        have hb2 : (!p.1 == k) = false := by rw [hb]; rfl
        have HO := Lib.hid (show OwnFls wr w.heap.size u5 (fdel k (l.take (i + 1))) by rw [htk, fdel_append, show fdel k [p] = [] from by simp [fdel, hpk], List.append_nil]; exact hown)
        clear hpk hp htk hi hown
        go_wp2_with ((with_reducible show wpList _ _ _ (⟨_, .indexAddr _ _ _, _, _, _, _⟩ :: _) _ _); refine wpl_indexAddr elFile rfl rfl hRr rfl rfl (by omega) (by omega) ?_; intro ad hcell hspot; (have k0 := hcell 0 (by omega)); (have k1 := hcell 1 (by omega)); rw [Int.toNat_natCast, g0] at k0; rw [Int.toNat_natCast, g1] at k1; clear hcell; obtain ⟨gb, gof, gs⟩ := ad; cases hspot; simp only [Addr.add_lit, Nat.add_zero] at k0 k1)
        exact ⟨⟨i + 1, by simp, hlt, HO.out, hU⟩, by simp [intOf]; omega⟩
      · have hb : (p.1 == k) = false := by simpa using hpk
        have hb2 : (!p.1 == k) = true := by rw [hb]; rfl
        have HTK := Lib.hid (show fdel k (l.take (i + 1)) = fdel k (l.take i) ++ [p] by rw [htk, fdel_append, show fdel k [p] = [p] from by simp [fdel, hpk]])
        have hlk : (fdel k (l.take i)).length + 1 ≤ 1000000001 := by
          have := fdel_lenR k (l.take i)
          simp at this; omega
        have HLK := Lib.hid hlk
        clear hpk hp htk hlk hi
        go_wp2_with (first
          | ((with_reducible show wpList _ _ _ (⟨_, .indexAddr _ _ _, _, _, _, _⟩ :: _) _ _); refine wpl_indexAddr elFile rfl rfl hRr rfl rfl (by omega) (by omega) ?_; intro ad hcell hspot; (have k0 := hcell 0 (by omega)); (have k1 := hcell 1 (by omega)); rw [Int.toNat_natCast, g0] at k0; rw [Int.toNat_natCast, g1] at k1; clear hcell; obtain ⟨gb, gof, gs⟩ := ad; cases hspot; simp only [Addr.add_lit, Nat.add_zero] at k0 k1)
          | ((with_reducible show wpList _ _ _ (⟨_, .buildSlice _ _ _, _, _, _, _⟩ :: _) _ _); refine wpl_lit elFile rfl rfl rfl (cs := [encS p.1, .slice aq p.2.length cq]) rfl rfl (by omega) ?_; intro v5 w5 hv5 hU5 _)
          | ((with_reducible show wpList _ _ _ (⟨_, .call ⟨.builtin .append, _, _⟩, _, _, _, _⟩ :: _) _ _); refine wpl_append_fl rfl rfl (hU.trans0 hU5) (hown.upd0 hU5) rfl (Rd.of_own hv5) rfl (hpr.upd0 hU5) HLK.out ?_; intro v6 w6 hv6 hU6))
        exact ⟨⟨i + 1, by simp, hlt, by rw [HTK.out]; exact hv6, hU6⟩, by simp [intOf]; omega⟩
    · have htt : decide ((i : Int) < (l.length : Int)) = false := by simp; omega
      have hie : i = l.length := by omega
      subst hie
      rw [List.take_length] at hown
      go_wp2_with fail
      go_ret
      exact ⟨_, rfl, hown, hU⟩
def WtInv (q : List UInt8 × List UInt8) (l out : List (List UInt8 × List UInt8)) (i : Nat) (done : Bool) : Prop := out.length ≤ i + (if done then 1 else 0) ∧ ∀ x, fins q (l.take i ++ x) = out ++ (if done then x else fins q x)
theorem WtInv.start (q : List UInt8 × List UInt8) (l : List (List UInt8 × List UInt8)) : WtInv q l [] 0 false := ⟨by simp, fun x => by simp⟩
theorem WtInv.done {q p : List UInt8 × List UInt8} {l out : List (List UInt8 × List UInt8)} {i : Nat} (h : WtInv q l out i true) (hp : l[i]? = some p) : WtInv q l (out ++ [p]) (i + 1) true := by
  refine ⟨by have := h.1; simp at this ⊢; omega, fun x => ?_⟩
  have := h.2 (p :: x)
  rw [List.take_add_one, hp]
  simpa using this
theorem WtInv.pass {q p : List UInt8 × List UInt8} {l out : List (List UInt8 × List UInt8)} {i : Nat} (h : WtInv q l out i false) (hp : l[i]? = some p) (hlt : ¬ q.1 < p.1) : WtInv q l (out ++ [p]) (i + 1) false := by
  refine ⟨by have := h.1; simp at this ⊢; omega, fun x => ?_⟩
  have := h.2 (p :: x)
  rw [List.take_add_one, hp]
  simpa [fins, hlt] using this
theorem WtInv.here {q p : List UInt8 × List UInt8} {l out : List (List UInt8 × List UInt8)} {i : Nat} (h : WtInv q l out i false) (hp : l[i]? = some p) (hlt : q.1 < p.1) : WtInv q l (out ++ [q] ++ [p]) (i + 1) true := by
  refine ⟨by have := h.1; simp at this ⊢; omega, fun x => ?_⟩
  have := h.2 (p :: x)
  rw [List.take_add_one, hp]
  simpa [fins, hlt] using this
theorem WtInv.le {q : List UInt8 × List UInt8} {l out : List (List UInt8 × List UInt8)} {i : Nat} {done : Bool} (h : WtInv q l out i done) : out.length ≤ i + 1 := by
  have := h.1
  split at this <;> omega
theorem WtInv.all {q : List UInt8 × List UInt8} {l out : List (List UInt8 × List UInt8)} {done : Bool} (h : WtInv q l out l.length done) : fins q l = if done then out else out ++ [q] := by
  have := h.2 []
  rw [List.take_length, List.append_nil] at this
  rw [this]
  cases done <;> simp [fins]
def WtRel (wb : World) (q : List UInt8 × List UInt8) (l : List (List UInt8 × List UInt8)) (x d v : Value) (wr : World) : Prop :=
  ∃ (i : Nat) (done : Bool) (out : List (List UInt8 × List UInt8)), x = .int .i64 i ∧ d = .bool done ∧ i ≤ l.length ∧ WtInv q l out i done ∧ OwnFls wr wb.heap.size v out ∧ Upd [] wb wr
set_option maxRecDepth 100000 in
set_option maxHeartbeats 2000000 in
theorem rf_with (w : World) (v qv : Value) (l : List (List UInt8 × List UInt8)) (q : List UInt8 × List UInt8) (hl : Fls w v l) (hq : By w qv q.2) (hn : l.length ≤ 1000000000) :
    Calls Tryz.prog 164 #[v, .agg #[encS q.1, qv]] w (RetFls w (fins q l)) := by
  obtain ⟨cells, hR, hC⟩ := hl
  obtain ⟨ao, cap, rfl, _⟩ := hR.shape
  obtain ⟨qo, qc, rfl⟩ := By.val hq
  have HN9 := Lib.hid hn; clear hn
  have hU0 : Upd [] w (w.alloc (Obj.cells #[encS q.1, .slice qo q.2.length qc] 138)) := Upd.alloc [] _ _
  have hb0 := heap_alloc_new w (Obj.cells #[encS q.1, .slice qo q.2.length qc] 138)
  go_enter Tryz.func164, Tryz.ntmps164
  go_wp2_with fail
  generalize hwb : w.alloc (Obj.cells #[encS q.1, .slice qo q.2.length qc] 138) = wb at *
  have x0 : wb.cell? ⟨w.heap.size, 0, none⟩ = some (encS q.1) := by rw [cell_lit wb _ 0 _ _ _ hb0]; rfl
  have x1 : wb.cell? ⟨w.heap.size, 1, none⟩ = some (.slice qo q.2.length qc) := by rw [cell_lit wb _ 1 _ _ _ hb0]; rfl
  have HST := Lib.hid (WtInv.start q l)
  clear hb0 hwb
  go_loopw [7, 6, 5] (fun x d v wr => WtRel wb q l x d v wr) (fun x _ _ _ => l.length - (intOf x).toNat)
  case atStart => exact ⟨0, false, [], rfl, rfl, Nat.zero_le _, HST.out, OwnFls.nil _ _, Upd.refl _ _⟩
  case round =>
    obtain ⟨i, done, out, rfl, rfl, hi, hinv, hown, hU⟩ := hrel
    have hll := HN9.out
    have y0 := hU.cell x0 (by simp)
    have y1 := hU.cell x1 (by simp)
    have hol : out.length ≤ i + 1 := hinv.le
    by_cases hlt : i < l.length
    · have htt : decide ((i : Int) < (l.length : Int)) = true := by simp; omega
      obtain ⟨p, hp⟩ : ∃ p, l[i]? = some p := ⟨_, List.getElem?_eq_getElem hlt⟩
      obtain ⟨pv, g0, g1, hpv⟩ := hC.get hp
      have hRr := (hR.upd0 hU0).upd0 hU
      have hpr := (hpv.upd0 hU0).upd0 hU
      obtain ⟨aq, cq, hsq⟩ := By.val hpr
      subst hsq
      obtain ⟨b1, o1, rfl, hc1⟩ := hR.x.at (by have := hR.1; omega)
      have i0 : (0 : Int) ≤ (i : Int) := by omega
      have d1 := hU.cell (hU0.cell (hc1 (i * 2 + 0) _ g0) (by simp)) (by simp)
      rw [Nat.add_zero] at d1
      have hUd := hU.trans0 (Upd.drew [] wr)
      have hS : wr.drew.cell? ⟨w.heap.size, 0, none⟩ = some (encS q.1) ∧ wr.drew.cell? ⟨b1, o1 + i * 2, none⟩ = some (encS p.1) := ⟨y0, d1⟩
      cases done with
      | true =>
        have HNX := Lib.hid (hinv.done hp)
        have HLK := Lib.hid (show out.length + 1 ≤ 1000000001 by omega)
        clear hp hc1 hinv hi hol
        go_wp2_with fail
        refine wp_region_H (fun W => W.cell? ⟨w.heap.size, 0, none⟩ = some (encS q.1) ∧ W.cell? ⟨b1, o1 + i * 2, none⟩ = some (encS p.1)) (by kernel_rfl) ?_
        (refine wpAnyH_takeO (i := 0) (dst := (some 14)) (op := (Go.Op.move (Go.Operand.tmp 6))) (v := ?_) (by rfl) (by kernel_rfl) (by kernel_rfl) (by kernel_rfl) (fun _ _ _ h => h) ?_ hS ?_; rotate_left; (focus (intro _ _ _ W HW; (try dsimp only at HW); go_simp; (try with_reducible rfl))); (try simp only [Act.put, List.setIfInBounds_toArray, List.set_cons_zero, List.set_cons_succ]))
        (refine wpAnyH_takeO (i := 1) (dst := (some 15)) (op := (Go.Op.unOp Go.UnOp.not 4 (Go.Operand.tmp 14))) (v := ?_) (by rfl) (by kernel_rfl) (by kernel_rfl) (by kernel_rfl) (fun _ _ _ h => h) ?_ hS ?_; rotate_left; (focus (intro _ _ _ W HW; (try dsimp only at HW); go_simp; (try with_reducible rfl))); (try simp only [Act.put, List.setIfInBounds_toArray, List.set_cons_zero, List.set_cons_succ]))
        (refine wpAnyH_takeO (i := 2) (dst := (some 16)) (op := (Go.Op.move (Go.Operand.tmp 15))) (v := ?_) (by rfl) (by kernel_rfl) (by kernel_rfl) (by kernel_rfl) (fun _ _ _ h => h) ?_ hS ?_; rotate_left; (focus (intro _ _ _ W HW; (try dsimp only at HW); go_simp; (try with_reducible rfl))); (try simp only [Act.put, List.setIfInBounds_toArray, List.set_cons_zero, List.set_cons_succ]))
        (refine wpAnyH_takeU (i := 3) (dst := (some 17)) (op := (Go.Op.fieldAddr 138 (Go.Operand.tmp 3) 0)) (by rfl) (by kernel_rfl) (by kernel_rfl) (by kernel_rfl) (b' := false) (by rfl) (by rfl) (fun _ _ _ h => h) hS ?_; (try simp only [Act.put, List.setIfInBounds_toArray, List.set_cons_zero, List.set_cons_succ]))
        (refine wpAnyH_takeU (i := 4) (dst := (some 18)) (op := (Go.Op.load 9 (Go.Operand.tmp 17))) (by rfl) (by kernel_rfl) (by kernel_rfl) (by kernel_rfl) (b' := false) (by rfl) (by rfl) (fun _ _ _ h => h) hS ?_; (try simp only [Act.put, List.setIfInBounds_toArray, List.set_cons_zero, List.set_cons_succ]))
        (refine wpAnyH_takeU (i := 5) (dst := (some 19)) (op := (Go.Op.move (Go.Operand.tmp 0))) (by rfl) (by kernel_rfl) (by kernel_rfl) (by kernel_rfl) (b' := false) (by rfl) (by rfl) (fun _ _ _ h => h) hS ?_; (try simp only [Act.put, List.setIfInBounds_toArray, List.set_cons_zero, List.set_cons_succ]))
        (refine wpAnyH_takeU (i := 6) (dst := (some 20)) (op := (Go.Op.move (Go.Operand.tmp 7))) (by rfl) (by kernel_rfl) (by kernel_rfl) (by kernel_rfl) (b' := false) (by rfl) (by rfl) (fun _ _ _ h => h) hS ?_; (try simp only [Act.put, List.setIfInBounds_toArray, List.set_cons_zero, List.set_cons_succ]))
        (refine wpAnyH_takeU (i := 7) (dst := (some 21)) (op := (Go.Op.indexAddr 117 (Go.Operand.tmp 19) (Go.Operand.tmp 20))) (by rfl) (by kernel_rfl) (by kernel_rfl) (by kernel_rfl) (b' := false) (by rfl) (by rfl) (fun _ _ _ h => h) hS ?_; (try simp only [Act.put, List.setIfInBounds_toArray, List.set_cons_zero, List.set_cons_succ]))
        (refine wpAnyH_takeU (i := 8) (dst := (some 22)) (op := (Go.Op.fieldAddr 138 (Go.Operand.tmp 21) 0)) (by rfl) (by kernel_rfl) (by kernel_rfl) (by kernel_rfl) (b' := false) (by rfl) (by rfl) (fun _ _ _ h => h) hS ?_; (try simp only [Act.put, List.setIfInBounds_toArray, List.set_cons_zero, List.set_cons_succ]))
        (refine wpAnyH_takeU (i := 9) (dst := (some 23)) (op := (Go.Op.load 9 (Go.Operand.tmp 22))) (by rfl) (by kernel_rfl) (by kernel_rfl) (by kernel_rfl) (b' := false) (by rfl) (by rfl) (fun _ _ _ h => h) hS ?_; (try simp only [Act.put, List.setIfInBounds_toArray, List.set_cons_zero, List.set_cons_succ]))
        (refine wpAnyH_takeU (i := 10) (dst := (some 24)) (op := (Go.Op.binOp Go.BinOp.lss 9 (Go.Operand.tmp 18) (Go.Operand.tmp 23) 9)) (by rfl) (by kernel_rfl) (by kernel_rfl) (by kernel_rfl) (b' := false) (by rfl) (by rfl) (fun _ _ _ h => h) hS ?_; (try simp only [Act.put, List.setIfInBounds_toArray, List.set_cons_zero, List.set_cons_succ]))
        (refine wpAnyH_takeO (i := 11) (dst := (some 25)) (op := (Go.Op.pick (Go.Operand.tmp 16) (Go.Operand.tmp 24) (Go.Operand.const (Go.Value.bool false)))) (v := ?_) (by rfl) (by kernel_rfl) (by kernel_rfl) (by kernel_rfl) (fun _ _ _ h => h) ?_ hS ?_; rotate_left; (focus (intro _ _ _ W HW; (try dsimp only at HW); go_simp; (try with_reducible rfl))); (try simp only [Act.put, List.setIfInBounds_toArray, List.set_cons_zero, List.set_cons_succ]))
        refine wpAnyH_done (by kernel_rfl) ?_ _
        go_wp2_with (first
          | ((with_reducible show wpList _ _ _ (⟨_, .indexAddr _ _ _, _, _, _, _⟩ :: _) _ _); refine wpl_indexAddr elFile rfl rfl (hRr.upd0 (Upd.drew [] wr)) rfl rfl (by omega) (by omega) ?_; intro ad hcell hspot; (have k0 := hcell 0 (by omega)); (have k1 := hcell 1 (by omega)); rw [Int.toNat_natCast, g0] at k0; rw [Int.toNat_natCast, g1] at k1; clear hcell; obtain ⟨gb, gof, gs⟩ := ad; cases hspot; simp only [Addr.add_lit, Nat.add_zero] at k0 k1)
          | ((with_reducible show wpList _ _ _ (⟨_, .buildSlice _ _ _, _, _, _, _⟩ :: _) _ _); refine wpl_lit elFile rfl rfl rfl (cs := [encS p.1, .slice aq p.2.length cq]) rfl rfl (by omega) ?_; intro v5 w5 hv5 hU5 _)
          | ((with_reducible show wpList _ _ _ (⟨_, .call ⟨.builtin .append, _, _⟩, _, _, _, _⟩ :: _) _ _); refine wpl_append_fl rfl rfl (hUd.trans0 hU5) ((hown.upd0 (Upd.drew [] wr)).upd0 hU5) rfl (Rd.of_own hv5) rfl ((hpr.upd0 (Upd.drew [] wr)).upd0 hU5) HLK.out ?_; intro v6 w6 hv6 hU6))
        exact ⟨⟨i + 1, true, _, by simp, rfl, hlt, HNX.out, hv6, hU6⟩, by simp [intOf]; omega⟩
      | false =>
        by_cases hqp : q.1 < p.1
        · have hb : Op.bytesLess q.1 p.1 = true := by rw [bytesLess_eq]; simpa using hqp
          have HNX := Lib.hid (hinv.here hp hqp)
          have HLK := Lib.hid (show (out ++ [q]).length + 1 ≤ 1000000001 by have := hinv.1; simp at this ⊢; omega)
          have HLK2 := Lib.hid (show out.length + 1 ≤ 1000000001 by omega)
          have hqr := (hq.upd0 hU0).upd0 hUd
          clear hp hc1 hinv hi hol hqp
          go_wp2_with fail
          refine wp_region_H (fun W => W.cell? ⟨w.heap.size, 0, none⟩ = some (encS q.1) ∧ W.cell? ⟨b1, o1 + i * 2, none⟩ = some (encS p.1)) (by kernel_rfl) ?_
          (refine wpAnyH_takeO (i := 0) (dst := (some 14)) (op := (Go.Op.move (Go.Operand.tmp 6))) (v := ?_) (by rfl) (by kernel_rfl) (by kernel_rfl) (by kernel_rfl) (fun _ _ _ h => h) ?_ hS ?_; rotate_left; (focus (intro _ _ _ W HW; (try dsimp only at HW); go_simp; (try with_reducible rfl))); (try simp only [Act.put, List.setIfInBounds_toArray, List.set_cons_zero, List.set_cons_succ]))
          (refine wpAnyH_takeO (i := 1) (dst := (some 15)) (op := (Go.Op.unOp Go.UnOp.not 4 (Go.Operand.tmp 14))) (v := ?_) (by rfl) (by kernel_rfl) (by kernel_rfl) (by kernel_rfl) (fun _ _ _ h => h) ?_ hS ?_; rotate_left; (focus (intro _ _ _ W HW; (try dsimp only at HW); go_simp; (try with_reducible rfl))); (try simp only [Act.put, List.setIfInBounds_toArray, List.set_cons_zero, List.set_cons_succ]))
          (refine wpAnyH_takeO (i := 2) (dst := (some 16)) (op := (Go.Op.move (Go.Operand.tmp 15))) (v := ?_) (by rfl) (by kernel_rfl) (by kernel_rfl) (by kernel_rfl) (fun _ _ _ h => h) ?_ hS ?_; rotate_left; (focus (intro _ _ _ W HW; (try dsimp only at HW); go_simp; (try with_reducible rfl))); (try simp only [Act.put, List.setIfInBounds_toArray, List.set_cons_zero, List.set_cons_succ]))
          (refine wpAnyH_takeG (i := 3) (dst := (some 17)) (op := (Go.Op.fieldAddr 138 (Go.Operand.tmp 3) 0)) (v := ?_) (by rfl) (by kernel_rfl) (by kernel_rfl) (by kernel_rfl) (by rfl) (fun _ _ _ h => h) ?_ hS ?_; rotate_left; (focus (intro _ _ _ W HW; (try dsimp only at HW); go_simp; (try with_reducible rfl))); (try simp only [Act.put, List.setIfInBounds_toArray, List.set_cons_zero, List.set_cons_succ]))
          (refine wpAnyH_takeG (i := 4) (dst := (some 18)) (op := (Go.Op.load 9 (Go.Operand.tmp 17))) (v := ?_) (by rfl) (by kernel_rfl) (by kernel_rfl) (by kernel_rfl) (by rfl) (fun _ _ _ h => h) ?_ hS ?_; rotate_left; (focus (intro _ _ _ W HW; (try dsimp only at HW); go_simp; (try with_reducible rfl))); (try simp only [Act.put, List.setIfInBounds_toArray, List.set_cons_zero, List.set_cons_succ]))
          (refine wpAnyH_takeG (i := 5) (dst := (some 19)) (op := (Go.Op.move (Go.Operand.tmp 0))) (v := ?_) (by rfl) (by kernel_rfl) (by kernel_rfl) (by kernel_rfl) (by rfl) (fun _ _ _ h => h) ?_ hS ?_; rotate_left; (focus (intro _ _ _ W HW; (try dsimp only at HW); go_simp; (try with_reducible rfl))); (try simp only [Act.put, List.setIfInBounds_toArray, List.set_cons_zero, List.set_cons_succ]))
          (refine wpAnyH_takeG (i := 6) (dst := (some 20)) (op := (Go.Op.move (Go.Operand.tmp 7))) (v := ?_) (by rfl) (by kernel_rfl) (by kernel_rfl) (by kernel_rfl) (by rfl) (fun _ _ _ h => h) ?_ hS ?_; rotate_left; (focus (intro _ _ _ W HW; (try dsimp only at HW); go_simp; (try with_reducible rfl))); (try simp only [Act.put, List.setIfInBounds_toArray, List.set_cons_zero, List.set_cons_succ]))
          (refine wpAnyH_takeG (i := 7) (dst := (some 21)) (op := (Go.Op.indexAddr 117 (Go.Operand.tmp 19) (Go.Operand.tmp 20))) (v := ?_) (by rfl) (by kernel_rfl) (by kernel_rfl) (by kernel_rfl) (by rfl) (fun _ _ _ h => h) ?_ hS ?_; rotate_left; (focus (intro _ _ _ W HW; (try dsimp only at HW); go_simp; (try with_reducible rfl))); (try simp only [Act.put, List.setIfInBounds_toArray, List.set_cons_zero, List.set_cons_succ]))
          (refine wpAnyH_takeG (i := 8) (dst := (some 22)) (op := (Go.Op.fieldAddr 138 (Go.Operand.tmp 21) 0)) (v := ?_) (by rfl) (by kernel_rfl) (by kernel_rfl) (by kernel_rfl) (by rfl) (fun _ _ _ h => h) ?_ hS ?_; rotate_left; (focus (intro _ _ _ W HW; (try dsimp only at HW); go_simp; (try with_reducible rfl))); (try simp only [Act.put, List.setIfInBounds_toArray, List.set_cons_zero, List.set_cons_succ]))
          (refine wpAnyH_takeG (i := 9) (dst := (some 23)) (op := (Go.Op.load 9 (Go.Operand.tmp 22))) (v := ?_) (by rfl) (by kernel_rfl) (by kernel_rfl) (by kernel_rfl) (by rfl) (fun _ _ _ h => h) ?_ hS ?_; rotate_left; (focus (intro _ _ _ W HW; (try dsimp only at HW); go_simp; (try with_reducible rfl))); (try simp only [Act.put, List.setIfInBounds_toArray, List.set_cons_zero, List.set_cons_succ]))
          (refine wpAnyH_takeG (i := 10) (dst := (some 24)) (op := (Go.Op.binOp Go.BinOp.lss 9 (Go.Operand.tmp 18) (Go.Operand.tmp 23) 9)) (v := ?_) (by rfl) (by kernel_rfl) (by kernel_rfl) (by kernel_rfl) (by rfl) (fun _ _ _ h => h) ?_ hS ?_; rotate_left; (focus (intro _ _ _ W HW; (try dsimp only at HW); go_simp; (try with_reducible rfl))); (try simp only [Act.put, List.setIfInBounds_toArray, List.set_cons_zero, List.set_cons_succ]))
          (refine wpAnyH_takeO (i := 11) (dst := (some 25)) (op := (Go.Op.pick (Go.Operand.tmp 16) (Go.Operand.tmp 24) (Go.Operand.const (Go.Value.bool false)))) (v := ?_) (by rfl) (by kernel_rfl) (by kernel_rfl) (by kernel_rfl) (fun _ _ _ h => h) ?_ hS ?_; rotate_left; (focus (intro _ _ _ W HW; (try dsimp only at HW); go_simp; (try with_reducible rfl))); (try simp only [Act.put, List.setIfInBounds_toArray, List.set_cons_zero, List.set_cons_succ]))
          refine wpAnyH_done (by kernel_rfl) ?_ _
          go_wp2_with (first
            | ((with_reducible show wpList _ _ _ (⟨_, .indexAddr _ _ _, _, _, _, _⟩ :: _) _ _); refine wpl_indexAddr elFile rfl rfl ((hR.upd0 hU0).upd0 hU6) rfl rfl (by omega) (by omega) ?_; intro ad hcell hspot; (have k0 := hcell 0 (by omega)); (have k1 := hcell 1 (by omega)); rw [Int.toNat_natCast, g0] at k0; rw [Int.toNat_natCast, g1] at k1; clear hcell; obtain ⟨gb, gof, gs⟩ := ad; cases hspot; simp only [Addr.add_lit, Nat.add_zero] at k0 k1)
            | ((with_reducible show wpList _ _ _ (⟨_, .buildSlice _ _ _, _, _, _, _⟩ :: _) _ _); (have _z := hU6); refine wpl_lit elFile rfl rfl rfl (cs := [encS p.1, .slice aq p.2.length cq]) rfl rfl (by omega) ?_; intro v7 w7 hv7 hU7 _)
            | ((with_reducible show wpList _ _ _ (⟨_, .buildSlice _ _ _, _, _, _, _⟩ :: _) _ _); refine wpl_lit elFile rfl rfl rfl (cs := [encS q.1, .slice qo q.2.length qc]) rfl rfl (by omega) ?_; intro v5 w5 hv5 hU5 _)
            | ((with_reducible show wpList _ _ _ (⟨_, .call ⟨.builtin .append, _, _⟩, _, _, _, _⟩ :: _) _ _); (have _z := hU7); refine wpl_append_fl rfl rfl (hU6.trans0 hU7) (hv6.upd0 hU7) rfl (Rd.of_own hv7) rfl (((hpv.upd0 hU0).upd0 hU6).upd0 hU7) HLK.out ?_; intro v8 w8 hv8 hU8)
            | ((with_reducible show wpList _ _ _ (⟨_, .call ⟨.builtin .append, _, _⟩, _, _, _, _⟩ :: _) _ _); refine wpl_append_fl rfl rfl (hUd.trans0 hU5) ((hown.upd0 (Upd.drew [] wr)).upd0 hU5) rfl (Rd.of_own hv5) rfl (hqr.upd0 hU5) HLK2.out ?_; intro v6 w6 hv6 hU6))
          exact ⟨⟨i + 1, true, _, by simp, rfl, hlt, HNX.out, hv8, hU8⟩, by simp [intOf]; omega⟩
        · have hb : Op.bytesLess q.1 p.1 = false := by rw [bytesLess_eq]; simpa using hqp
          have HNX := Lib.hid (hinv.pass hp hqp)
          have HLK := Lib.hid (show out.length + 1 ≤ 1000000001 by omega)
          clear hp hc1 hinv hi hol hqp
          go_wp2_with fail
          refine wp_region_H (fun W => W.cell? ⟨w.heap.size, 0, none⟩ = some (encS q.1) ∧ W.cell? ⟨b1, o1 + i * 2, none⟩ = some (encS p.1)) (by kernel_rfl) ?_
          (refine wpAnyH_takeO (i := 0) (dst := (some 14)) (op := (Go.Op.move (Go.Operand.tmp 6))) (v := ?_) (by rfl) (by kernel_rfl) (by kernel_rfl) (by kernel_rfl) (fun _ _ _ h => h) ?_ hS ?_; rotate_left; (focus (intro _ _ _ W HW; (try dsimp only at HW); go_simp; (try with_reducible rfl))); (try simp only [Act.put, List.setIfInBounds_toArray, List.set_cons_zero, List.set_cons_succ]))
          (refine wpAnyH_takeO (i := 1) (dst := (some 15)) (op := (Go.Op.unOp Go.UnOp.not 4 (Go.Operand.tmp 14))) (v := ?_) (by rfl) (by kernel_rfl) (by kernel_rfl) (by kernel_rfl) (fun _ _ _ h => h) ?_ hS ?_; rotate_left; (focus (intro _ _ _ W HW; (try dsimp only at HW); go_simp; (try with_reducible rfl))); (try simp only [Act.put, List.setIfInBounds_toArray, List.set_cons_zero, List.set_cons_succ]))
          (refine wpAnyH_takeO (i := 2) (dst := (some 16)) (op := (Go.Op.move (Go.Operand.tmp 15))) (v := ?_) (by rfl) (by kernel_rfl) (by kernel_rfl) (by kernel_rfl) (fun _ _ _ h => h) ?_ hS ?_; rotate_left; (focus (intro _ _ _ W HW; (try dsimp only at HW); go_simp; (try with_reducible rfl))); (try simp only [Act.put, List.setIfInBounds_toArray, List.set_cons_zero, List.set_cons_succ]))
          (refine wpAnyH_takeG (i := 3) (dst := (some 17)) (op := (Go.Op.fieldAddr 138 (Go.Operand.tmp 3) 0)) (v := ?_) (by rfl) (by kernel_rfl) (by kernel_rfl) (by kernel_rfl) (by rfl) (fun _ _ _ h => h) ?_ hS ?_; rotate_left; (focus (intro _ _ _ W HW; (try dsimp only at HW); go_simp; (try with_reducible rfl))); (try simp only [Act.put, List.setIfInBounds_toArray, List.set_cons_zero, List.set_cons_succ]))
          (refine wpAnyH_takeG (i := 4) (dst := (some 18)) (op := (Go.Op.load 9 (Go.Operand.tmp 17))) (v := ?_) (by rfl) (by kernel_rfl) (by kernel_rfl) (by kernel_rfl) (by rfl) (fun _ _ _ h => h) ?_ hS ?_; rotate_left; (focus (intro _ _ _ W HW; (try dsimp only at HW); go_simp; (try with_reducible rfl))); (try simp only [Act.put, List.setIfInBounds_toArray, List.set_cons_zero, List.set_cons_succ]))
          (refine wpAnyH_takeG (i := 5) (dst := (some 19)) (op := (Go.Op.move (Go.Operand.tmp 0))) (v := ?_) (by rfl) (by kernel_rfl) (by kernel_rfl) (by kernel_rfl) (by rfl) (fun _ _ _ h => h) ?_ hS ?_; rotate_left; (focus (intro _ _ _ W HW; (try dsimp only at HW); go_simp; (try with_reducible rfl))); (try simp only [Act.put, List.setIfInBounds_toArray, List.set_cons_zero, List.set_cons_succ]))
          (refine wpAnyH_takeG (i := 6) (dst := (some 20)) (op := (Go.Op.move (Go.Operand.tmp 7))) (v := ?_) (by rfl) (by kernel_rfl) (by kernel_rfl) (by kernel_rfl) (by rfl) (fun _ _ _ h => h) ?_ hS ?_; rotate_left; (focus (intro _ _ _ W HW; (try dsimp only at HW); go_simp; (try with_reducible rfl))); (try simp only [Act.put, List.setIfInBounds_toArray, List.set_cons_zero, List.set_cons_succ]))
          (refine wpAnyH_takeG (i := 7) (dst := (some 21)) (op := (Go.Op.indexAddr 117 (Go.Operand.tmp 19) (Go.Operand.tmp 20))) (v := ?_) (by rfl) (by kernel_rfl) (by kernel_rfl) (by kernel_rfl) (by rfl) (fun _ _ _ h => h) ?_ hS ?_; rotate_left; (focus (intro _ _ _ W HW; (try dsimp only at HW); go_simp; (try with_reducible rfl))); (try simp only [Act.put, List.setIfInBounds_toArray, List.set_cons_zero, List.set_cons_succ]))
          (refine wpAnyH_takeG (i := 8) (dst := (some 22)) (op := (Go.Op.fieldAddr 138 (Go.Operand.tmp 21) 0)) (v := ?_) (by rfl) (by kernel_rfl) (by kernel_rfl) (by kernel_rfl) (by rfl) (fun _ _ _ h => h) ?_ hS ?_; rotate_left; (focus (intro _ _ _ W HW; (try dsimp only at HW); go_simp; (try with_reducible rfl))); (try simp only [Act.put, List.setIfInBounds_toArray, List.set_cons_zero, List.set_cons_succ]))
          (refine wpAnyH_takeG (i := 9) (dst := (some 23)) (op := (Go.Op.load 9 (Go.Operand.tmp 22))) (v := ?_) (by rfl) (by kernel_rfl) (by kernel_rfl) (by kernel_rfl) (by rfl) (fun _ _ _ h => h) ?_ hS ?_; rotate_left; (focus (intro _ _ _ W HW; (try dsimp only at HW); go_simp; (try with_reducible rfl))); (try simp only [Act.put, List.setIfInBounds_toArray, List.set_cons_zero, List.set_cons_succ]))
          (refine wpAnyH_takeG (i := 10) (dst := (some 24)) (op := (Go.Op.binOp Go.BinOp.lss 9 (Go.Operand.tmp 18) (Go.Operand.tmp 23) 9)) (v := ?_) (by rfl) (by kernel_rfl) (by kernel_rfl) (by kernel_rfl) (by rfl) (fun _ _ _ h => h) ?_ hS ?_; rotate_left; (focus (intro _ _ _ W HW; (try dsimp only at HW); go_simp; (try with_reducible rfl))); (try simp only [Act.put, List.setIfInBounds_toArray, List.set_cons_zero, List.set_cons_succ]))
          (refine wpAnyH_takeO (i := 11) (dst := (some 25)) (op := (Go.Op.pick (Go.Operand.tmp 16) (Go.Operand.tmp 24) (Go.Operand.const (Go.Value.bool false)))) (v := ?_) (by rfl) (by kernel_rfl) (by kernel_rfl) (by kernel_rfl) (fun _ _ _ h => h) ?_ hS ?_; rotate_left; (focus (intro _ _ _ W HW; (try dsimp only at HW); go_simp; (try with_reducible rfl))); (try simp only [Act.put, List.setIfInBounds_toArray, List.set_cons_zero, List.set_cons_succ]))
          refine wpAnyH_done (by kernel_rfl) ?_ _
          go_wp2_with (first
            | ((with_reducible show wpList _ _ _ (⟨_, .indexAddr _ _ _, _, _, _, _⟩ :: _) _ _); refine wpl_indexAddr elFile rfl rfl (hRr.upd0 (Upd.drew [] wr)) rfl rfl (by omega) (by omega) ?_; intro ad hcell hspot; (have k0 := hcell 0 (by omega)); (have k1 := hcell 1 (by omega)); rw [Int.toNat_natCast, g0] at k0; rw [Int.toNat_natCast, g1] at k1; clear hcell; obtain ⟨gb, gof, gs⟩ := ad; cases hspot; simp only [Addr.add_lit, Nat.add_zero] at k0 k1)
            | ((with_reducible show wpList _ _ _ (⟨_, .buildSlice _ _ _, _, _, _, _⟩ :: _) _ _); refine wpl_lit elFile rfl rfl rfl (cs := [encS p.1, .slice aq p.2.length cq]) rfl rfl (by omega) ?_; intro v5 w5 hv5 hU5 _)
            | ((with_reducible show wpList _ _ _ (⟨_, .call ⟨.builtin .append, _, _⟩, _, _, _, _⟩ :: _) _ _); refine wpl_append_fl rfl rfl (hUd.trans0 hU5) ((hown.upd0 (Upd.drew [] wr)).upd0 hU5) rfl (Rd.of_own hv5) rfl ((hpr.upd0 (Upd.drew [] wr)).upd0 hU5) HLK.out ?_; intro v6 w6 hv6 hU6))
          exact ⟨⟨i + 1, false, _, by simp, rfl, hlt, HNX.out, hv6, hU6⟩, by simp [intOf]; omega⟩
    · have htt : decide ((i : Int) < (l.length : Int)) = false := by simp; omega
      have hie : i = l.length := by omega
      subst hie
      have hall := hinv.all
      cases done with
      | true =>
        have HF := Lib.hid (show RetFls w (fins q l) (.returned u5) wr from ⟨_, rfl, by rw [hall]; exact hown.mono hU0.size, hU0.trans0 hU⟩)
        clear hinv hall hown hi hol
        go_wp2_with fail
        go_ret
        exact HF.out
      | false =>
        rw [if_neg (by simp)] at hall
        have HA := Lib.hid hall
        have HLK2 := Lib.hid (show out.length + 1 ≤ 1000000001 by have := hinv.1; simp at this; omega)
        have hqr := (hq.upd0 hU0).upd0 hU
        clear hinv hall hi hol
        go_wp2_with (first
          | ((with_reducible show wpList _ _ _ (⟨_, .buildSlice _ _ _, _, _, _, _⟩ :: _) _ _); refine wpl_lit elFile rfl rfl rfl (cs := [encS q.1, .slice qo q.2.length qc]) rfl rfl (by omega) ?_; intro v5 w5 hv5 hU5 _)
          | ((with_reducible show wpList _ _ _ (⟨_, .call ⟨.builtin .append, _, _⟩, _, _, _, _⟩ :: _) _ _); refine wpl_append_fl rfl rfl (hU.trans0 hU5) (hown.upd0 hU5) rfl (Rd.of_own hv5) rfl (hqr.upd0 hU5) HLK2.out ?_; intro v6 w6 hv6 hU6))
        go_ret
        exact ⟨_, rfl, by rw [HA.out]; exact hv6.mono hU0.size, hU0.trans0 hU6⟩
end Go.Proofs.YthfbfdkjgkkpcaaGreat

namespace Go.Proofs.YthfbfdkjgkkpcaaGreat
open Go Go.RowKit

theorem used_append (a b : List (List UInt8 × List UInt8)) : used (a ++ b) = used a + used b := by
  induction a with
  | nil => simp [used]
  | cons p r ih => simp only [List.cons_append, used, ih]; omega
theorem used_take (l : List (List UInt8 × List UInt8)) (i : Nat) : used (l.take i) ≤ used l := by
  have := used_append (l.take i) (l.drop i)
  rw [List.take_append_drop] at this
  omega
def UsRel (w : World) (l : List (List UInt8 × List UInt8)) (x n : Value) (wr : World) : Prop := ∃ i : Nat, x = .int .i64 i ∧ i ≤ l.length ∧ n = .int .i64 (used (l.take i) : Nat) ∧ wr = w
set_option maxRecDepth 100000 in
theorem rf_used (w : World) (v : Value) (l : List (List UInt8 × List UInt8)) (hl : Fls w v l) (hn : l.length ≤ 1000000000) (hu : used l ≤ 1000000000) :
    Calls Tryz.prog 95 #[v] w fun e w' => e = .returned (.int .i64 (used l : Nat)) ∧ w = w' := by
  obtain ⟨cells, hR, hC⟩ := hl
  obtain ⟨ao, cap, rfl, _⟩ := hR.shape
  have HN9 := Lib.hid hn; have HU := Lib.hid hu; clear hn hu
  go_enter Tryz.func95, Tryz.ntmps95
  go_wp2_with fail
  go_loopw [4, 3] (fun x n wr => UsRel w l x n wr) (fun x _ _ => l.length - (intOf x).toNat)
  case atStart => exact ⟨0, rfl, Nat.zero_le _, by simp [used], rfl⟩
  case round =>
    obtain ⟨i, rfl, hi, rfl, rfl⟩ := hrel
    have hll := HN9.out
    have hul := HU.out
    by_cases hlt : i < l.length
    · have htt : decide ((i : Int) < (l.length : Int)) = true := by simp; omega
      obtain ⟨p, hp⟩ : ∃ p, l[i]? = some p := ⟨_, List.getElem?_eq_getElem hlt⟩
      obtain ⟨pv, g0, g1, hpv⟩ := hC.get hp
      obtain ⟨aq, cq, hsq⟩ := By.val hpv
      subst hsq
      have hsum : used (l.take (i + 1)) = used (l.take i) + p.2.length := by rw [List.take_add_one, hp, used_append]; simp [used]
      have hle := used_take l (i + 1)
      rw [hsum] at hle
      have HS := Lib.hid hsum
      generalize used (l.take i) = u at *
      clear hp hsum hi
      go_wp2_with ((with_reducible show wpList _ _ _ (⟨_, .indexAddr _ _ _, _, _, _, _⟩ :: _) _ _); refine wpl_indexAddr elFile rfl rfl hR rfl rfl (by omega) (by omega) ?_; intro ad hcell hspot; (have k0 := hcell 0 (by omega)); (have k1 := hcell 1 (by omega)); rw [Int.toNat_natCast, g0] at k0; rw [Int.toNat_natCast, g1] at k1; clear hcell; obtain ⟨gb, gof, gs⟩ := ad; cases hspot; simp only [Addr.add_lit, Nat.add_zero] at k0 k1)
      exact ⟨⟨i + 1, by simp, hlt, by rw [HS.out]; simp, rfl⟩, by simp [intOf]; omega⟩
    · have htt : decide ((i : Int) < (l.length : Int)) = false := by simp; omega
      have hie : i = l.length := by omega
      have HF := Lib.hid (show used (l.take i) = used l by rw [hie, List.take_length])
      clear hie hi
      go_wp2_with fail
      go_ret
      exact ⟨by rw [HF.out]; rfl, rfl⟩
theorem rf_isName (w : World) (s : List UInt8) (hs : s.length ≤ 9223372036854775807) :
    Calls Tryz.prog 63 #[encS s] w fun e w' => e = .returned (.bool (isName s)) ∧ w = w' := by
  by_cases h0 : s = []
  · subst h0
    go_enter Tryz.func63, Tryz.ntmps63
    go_wp2
    go_ret
    exact ⟨rfl, rfl⟩
  · have h1 : decide ((1 : Int) ≤ (s.length : Int)) = true := by
      have := List.length_pos_iff.2 h0
      simp; omega
    have h2 : isName s = decide ((s.length : Int) ≤ 160) := by
      rw [Bool.eq_iff_iff]; simp [isName, h0]; omega
    have h3 : 1 ≤ s.length := List.length_pos_iff.2 h0
    rw [h2]
    clear h2
    generalize hq : decide ((s.length : Int) ≤ 160) = q
    go_enter Tryz.func63, Tryz.ntmps63
    go_wp2
    go_ret
    exact ⟨rfl, rfl⟩
theorem rf_clamp (w : World) (n : Int) (m : Nat) :
    Calls Tryz.prog 148 #[.int .i64 n, .int .i64 m] w fun e w' => e = .returned (.int .i64 (max 0 (min n m))) ∧ w = w' := by
  by_cases h0 : n < 0
  · have e1 : max 0 (min n (m : Int)) = 0 := by omega
    rw [e1]
    have ht : decide (n < 0) = true := by simpa using h0
    clear e1
    go_enter Tryz.func148, Tryz.ntmps148
    go_wp2
    go_ret
    exact ⟨rfl, rfl⟩
  · have ht : decide (n < 0) = false := by simpa using h0
    by_cases h1 : (m : Int) < n
    · have e1 : max 0 (min n (m : Int)) = m := by omega
      rw [e1]
      have ht1 : decide ((m : Int) < n) = true := by simpa using h1
      clear e1
      go_enter Tryz.func148, Tryz.ntmps148
      go_wp2
      go_ret
      exact ⟨rfl, rfl⟩
    · have e1 : max 0 (min n (m : Int)) = n := by omega
      rw [e1]
      have ht1 : decide ((m : Int) < n) = false := by simpa using h1
      clear e1
      go_enter Tryz.func148, Tryz.ntmps148
      go_wp2
      go_ret
      exact ⟨rfl, rfl⟩

/-- A change can be done to files. -/
structure Can (l : List (List UInt8 × List UInt8)) (c : Chg) : Prop where
  no : c.kind = 0 → aget c.a l = none
  yes : c.kind = 1 ∨ c.kind = 3 → ∃ b, aget c.a l = some b
theorem fdo_fits {l : List (List UInt8 × List UInt8)} {c : Chg} (h : Can l c) : (c.kind = 0 → fdo l c = fins (c.a, []) l) := by
  intro h0
  unfold fdo
  rw [if_pos h0]
  unfold fput
  rw [fdel_none (aget_none.1 (h.no h0))]
def DoFls (w : World) (l : List (List UInt8 × List UInt8)) (e : Ending) (w' : World) : Prop := ∃ v, e = .returned v ∧ Fls w' v l ∧ Upd [] w w'
theorem Fls.index {w : World} {v : Value} {l : List (List UInt8 × List UInt8)} (h : Fls w v l) {i : Nat} {p : List UInt8 × List UInt8} (hp : l[i]? = some p) :
    ∃ cells pv, Rd w 138 2 v l.length cells ∧ cells[i * 2 + 0]? = some (encS p.1) ∧ cells[i * 2 + 1]? = some pv ∧ By w pv p.2 ∧ (i : Int) < l.length := by
  obtain ⟨cells, hR, hC⟩ := h
  obtain ⟨pv, g0, g1, hpv⟩ := hC.get hp
  exact ⟨cells, pv, hR, g0, g1, hpv, by have := (List.getElem?_eq_some_iff.1 hp).1; omega⟩
set_option maxRecDepth 100000 in
theorem rf_do0 (w : World) (v pv : Value) (l : List (List UInt8 × List UInt8)) (hl : Fls w v l) (c : Chg) (hk : c.kind = 0) (hc : Can l c) (hp : By w pv c.p) (hn : l.length ≤ 1000000000) :
    Calls Tryz.prog 133 #[v, .agg #[.int .i64 c.kind, encS c.a, encS c.b, pv]] w (DoFls w (fdo l c)) := by
  rw [fdo_fits hc hk, hk]
  clear hk hc
  obtain ⟨po, pc, rfl⟩ := By.val hp
  have hU0 : Upd [] w (w.alloc (Obj.cells #[.int .i64 0, encS c.a, encS c.b, .slice po c.p.length pc] 136)) := Upd.alloc [] _ _
  have HL := Lib.hid (hl.upd0 hU0)
  have HN := Lib.hid hn
  obtain ⟨ao, cap, rfl⟩ := hl.shape
  clear hl hn hp
  go_enter Tryz.func133, Tryz.ntmps133
  go_wp2_with fail
  refine (rf_with _ _ _ l (c.a, []) HL.out (Rd.nil _ _ _) HN.out).mono ?_
  rintro e w2 ⟨v2, rfl, hv2, hU2⟩
  obtain ⟨ao2, cap2, hs2⟩ := hv2.fls.shape
  subst hs2
  go_wp2_with fail
  go_ret
  exact ⟨_, rfl, hv2.fls, hU0.trans0 hU2⟩
set_option maxRecDepth 100000 in
theorem rf_do2 (w : World) (v pv : Value) (l : List (List UInt8 × List UInt8)) (hl : Fls w v l) (c : Chg) (hk : c.kind = 2) (hp : By w pv c.p) (hn : l.length ≤ 1000000000) :
    Calls Tryz.prog 133 #[v, .agg #[.int .i64 c.kind, encS c.a, encS c.b, pv]] w (DoFls w (fdo l c)) := by
  rw [show fdo l c = fdel c.a l from by unfold fdo; rw [if_neg (by omega), if_neg (by omega), if_pos hk], hk]
  clear hk
  obtain ⟨po, pc, rfl⟩ := By.val hp
  have hU0 : Upd [] w (w.alloc (Obj.cells #[.int .i64 2, encS c.a, encS c.b, .slice po c.p.length pc] 136)) := Upd.alloc [] _ _
  have HL := Lib.hid (hl.upd0 hU0)
  have HN := Lib.hid hn
  obtain ⟨ao, cap, rfl⟩ := hl.shape
  clear hl hn hp
  go_enter Tryz.func133, Tryz.ntmps133
  go_wp2_with fail
  refine (rf_without _ _ l HL.out c.a HN.out).mono ?_
  rintro e w2 ⟨v2, rfl, hv2, hU2⟩
  obtain ⟨ao2, cap2, hs2⟩ := hv2.fls.shape
  subst hs2
  go_wp2_with fail
  go_ret
  exact ⟨_, rfl, hv2.fls, hU0.trans0 hU2⟩
set_option maxRecDepth 100000 in
set_option maxHeartbeats 2000000 in
theorem rf_do1 (w : World) (v pv : Value) (l : List (List UInt8 × List UInt8)) (hl : Fls w v l) (c : Chg) (hk : c.kind = 1) (hc : Can l c) (hp : By w pv c.p) (hn : l.length ≤ 1000000000) (hb : used l + c.p.length ≤ 1000000000) :
    Calls Tryz.prog 133 #[v, .agg #[.int .i64 c.kind, encS c.a, encS c.b, pv]] w (DoFls w (fdo l c)) := by
  obtain ⟨b, hab⟩ := hc.yes (.inl hk)
  rw [show fdo l c = fput c.a (b ++ c.p) l from by unfold fdo; rw [if_neg (by omega), if_pos hk, hab]; rfl, hk]
  have hbl := aget_le_used hab
  clear hk hc
  obtain ⟨po, pc, rfl⟩ := By.val hp
  have hU0 : Upd [] w (w.alloc (Obj.cells #[.int .i64 1, encS c.a, encS c.b, .slice po c.p.length pc] 136)) := Upd.alloc [] _ _
  have hb0 := heap_alloc_new w (Obj.cells #[.int .i64 1, encS c.a, encS c.b, .slice po c.p.length pc] 136)
  generalize hwb : w.alloc (Obj.cells #[.int .i64 1, encS c.a, encS c.b, .slice po c.p.length pc] 136) = wb at hU0 hb0
  have x1 : wb.cell? ⟨w.heap.size, 1, none⟩ = some (encS c.a) := by rw [cell_lit wb _ 1 _ _ _ hb0]; rfl
  have x3 : wb.cell? ⟨w.heap.size, 3, none⟩ = some (.slice po c.p.length pc) := by rw [cell_lit wb _ 3 _ _ _ hb0]; rfl
  have hlb := hl.upd0 hU0
  have hpb := hp.upd0 hU0
  have HWB := Lib.hid hwb
  have HAB := Lib.hid hab
  have HB := Lib.hid hb; have HBL := Lib.hid hbl; have HN := Lib.hid hn
  obtain ⟨ao, cap, rfl⟩ := hl.shape
  clear hl hp hwb hab hb hbl hn
  go_enter Tryz.func133, Tryz.ntmps133
  go_wp2_with fail
  rw [HWB.out]
  refine (rf_find_some wb _ l hlb c.a b HN.out HAB.out).mono ?_
  rintro e w1 ⟨i, hi, rfl, rfl⟩
  obtain ⟨cells, qv, hR, g0, g1, hqv, hil⟩ := hlb.index hi
  have i0 : (0 : Int) ≤ (i : Int) := by omega
  have HTW := Lib.hid (ref_Twin wb qv b hqv.x (by have := HB.out; have := HBL.out; omega))
  obtain ⟨qo, qc, rfl⟩ := By.val hqv
  clear hi
  go_wp2_with ((with_reducible show wpList _ _ _ (⟨_, .indexAddr _ _ _, _, _, _, _⟩ :: _) _ _); refine wpl_indexAddr elFile rfl rfl hR rfl rfl (by omega) (by omega) ?_; intro ad hcell hspot; (have k0 := hcell 0 (by omega)); (have k1 := hcell 1 (by omega)); rw [Int.toNat_natCast, g0] at k0; rw [Int.toNat_natCast, g1] at k1; clear hcell; obtain ⟨gb, gof, gs⟩ := ad; cases hspot; simp only [Addr.add_lit, Nat.add_zero] at k0 k1)
  refine HTW.out.mono ?_
  rintro e w2 ⟨v2, rfl, hv2, hU2⟩
  have y1 := hU2.cell x1 (by simp)
  have y3 := hU2.cell x3 (by simp)
  obtain ⟨ao2, cap2, hs2⟩ := By.val hv2.by
  subst hs2
  have HA := Lib.hid (show b.length + c.p.length ≤ 1073741824 by have := HB.out; have := HBL.out; omega)
  go_wp2_with ((with_reducible show wpList _ _ _ (⟨_, .call ⟨.builtin .append, _, _⟩, _, _, _, _⟩ :: _) _ _); refine wpl_append_by elU8 rfl rfl hU2 hv2 rfl (hpb.upd0 hU2) rfl HA.out ?_; intro v3 w3 hv3 _ hU3 hb3)
  have z1 := hU3.cell x1 (by simp)
  have z3 := hU3.cell x3 (by simp)
  obtain ⟨ao3, cap3, hs3⟩ := By.val hv3.by
  subst hs3
  have hUd := hU3.trans0 (Upd.drew [] w3)
  have hS : w3.drew.cell? ⟨w.heap.size, 1, none⟩ = some (encS c.a) := z1
  have HW := Lib.hid (rf_without w3.drew _ l (hlb.upd0 hUd) c.a HN.out)
  have HV := Lib.hid hv3.by
  clear hR g0 g1 hqv y1 y3 hU2 hb3 hv2
  refine wp_region_H (fun W => W.cell? ⟨w.heap.size, 1, none⟩ = some (encS c.a)) (by kernel_rfl) ?_
  (refine wpAnyH_takeO (i := 0) (dst := (some 34)) (op := (Go.Op.move (Go.Operand.tmp 0))) (v := ?_) (by rfl) (by kernel_rfl) (by kernel_rfl) (by kernel_rfl) (fun _ _ _ h => h) ?_ hS ?_; rotate_left; (focus (intro _ _ _ W HW; (try dsimp only at HW); go_simp; (try with_reducible rfl))); (try simp only [Act.put, List.setIfInBounds_toArray, List.set_cons_zero, List.set_cons_succ]))
  (refine wpAnyH_takeO (i := 1) (dst := (some 35)) (op := (Go.Op.fieldAddr 136 (Go.Operand.tmp 3) 1)) (v := ?_) (by rfl) (by kernel_rfl) (by kernel_rfl) (by kernel_rfl) (fun _ _ _ h => h) ?_ hS ?_; rotate_left; (focus (intro _ _ _ W HW; (try dsimp only at HW); go_simp; (try with_reducible rfl))); (try simp only [Act.put, List.setIfInBounds_toArray, List.set_cons_zero, List.set_cons_succ]))
  (refine wpAnyH_takeO (i := 2) (dst := (some 36)) (op := (Go.Op.load 9 (Go.Operand.tmp 35))) (v := ?_) (by rfl) (by kernel_rfl) (by kernel_rfl) (by kernel_rfl) (fun _ _ _ h => h) ?_ hS ?_; rotate_left; (focus (intro _ _ _ W HW; (try dsimp only at HW); go_simp; (try with_reducible rfl))); (try simp only [Act.put, List.setIfInBounds_toArray, List.set_cons_zero, List.set_cons_succ]))
  (refine wpAnyH_takeO (i := 4) (dst := (some 38)) (op := (Go.Op.fieldAddr 136 (Go.Operand.tmp 3) 1)) (v := ?_) (by rfl) (by kernel_rfl) (by kernel_rfl) (by kernel_rfl) (fun _ _ _ h => h) ?_ hS ?_; rotate_left; (focus (intro _ _ _ W HW; (try dsimp only at HW); go_simp; (try with_reducible rfl))); (try simp only [Act.put, List.setIfInBounds_toArray, List.set_cons_zero, List.set_cons_succ]))
  (refine wpAnyH_takeO (i := 5) (dst := (some 39)) (op := (Go.Op.load 9 (Go.Operand.tmp 38))) (v := ?_) (by rfl) (by kernel_rfl) (by kernel_rfl) (by kernel_rfl) (fun _ _ _ h => h) ?_ hS ?_; rotate_left; (focus (intro _ _ _ W HW; (try dsimp only at HW); go_simp; (try with_reducible rfl))); (try simp only [Act.put, List.setIfInBounds_toArray, List.set_cons_zero, List.set_cons_succ]))
  (refine wpAnyH_takeO (i := 6) (dst := (some 40)) (op := (Go.Op.move (Go.Operand.tmp 6))) (v := ?_) (by rfl) (by kernel_rfl) (by kernel_rfl) (by kernel_rfl) (fun _ _ _ h => h) ?_ hS ?_; rotate_left; (focus (intro _ _ _ W HW; (try dsimp only at HW); go_simp; (try with_reducible rfl))); (try simp only [Act.put, List.setIfInBounds_toArray, List.set_cons_zero, List.set_cons_succ]))
  (refine wpAnyH_takeO (i := 7) (dst := (some 41)) (op := (Go.Op.build 138 #[(0, (Go.Operand.tmp 39)), (1, (Go.Operand.tmp 40))])) (v := ?_) (by rfl) (by kernel_rfl) (by kernel_rfl) (by kernel_rfl) (fun _ _ _ h => h) ?_ hS ?_; rotate_left; (focus (intro _ _ _ W HW; (try dsimp only at HW); go_simp; (try with_reducible rfl))); (try simp only [Act.put, List.setIfInBounds_toArray, List.set_cons_zero, List.set_cons_succ]))
  refine wpAnyH_call (i := 3) (dst := (some 37)) (op := (Go.Op.call { callee := (Go.Callee.value (Go.Operand.func 165)), args := #[(Go.Operand.tmp 34), (Go.Operand.tmp 36)], argTypes := #[117, 9] })) (f := 165) (vs := #[.slice ao l.length cap, encS c.a]) (by kernel_rfl) (by rfl) (fun _ _ _ => by go_simp) ?_
  refine HW.out.mono ?_
  rintro e w4 ⟨v4, rfl, hv4, hU4⟩
  have hS4 : w4.cell? ⟨w.heap.size, 1, none⟩ = some (encS c.a) := hU4.cell hS (by simp)
  refine ⟨v4, rfl, hS4, ?_⟩
  (try simp only [Act.put, List.setIfInBounds_toArray, List.set_cons_zero, List.set_cons_succ])
  refine wpAnyH_call (i := 8) (dst := (some 42)) (op := (Go.Op.call { callee := (Go.Callee.value (Go.Operand.func 164)), args := #[(Go.Operand.tmp 37), (Go.Operand.tmp 41)], argTypes := #[117, 138] })) (f := 164) (vs := #[v4, .agg #[encS c.a, .slice ao3 (b ++ c.p).length cap3]]) (by kernel_rfl) (by rfl) (fun _ _ _ => by go_simp) ?_
  refine (rf_with w4 v4 _ (fdel c.a l) (c.a, b ++ c.p) hv4.fls ((HV.out.upd0 (Upd.drew [] w3)).upd0 hU4) (Nat.le_trans (fdel_lenR _ _) HN.out)).mono ?_
  rintro e w5 ⟨v5, rfl, hv5, hU5⟩
  have hS5 : w5.cell? ⟨w.heap.size, 1, none⟩ = some (encS c.a) := hU5.cell hS4 (by simp)
  refine ⟨v5, rfl, hS5, ?_⟩
  (try simp only [Act.put, List.setIfInBounds_toArray, List.set_cons_zero, List.set_cons_succ])
  (refine wpAnyH_takeO (i := 9) (dst := (some 4)) (op := (Go.Op.assign (Go.Operand.tmp 42))) (v := ?_) (by rfl) (by kernel_rfl) (by kernel_rfl) (by kernel_rfl) (fun _ _ _ h => h) ?_ hS5 ?_; rotate_left; (focus (intro _ _ _ W HW; (try dsimp only at HW); go_simp; (try with_reducible rfl))); (try simp only [Act.put, List.setIfInBounds_toArray, List.set_cons_zero, List.set_cons_succ]))
  refine wpAnyH_done (by kernel_rfl) ?_ _
  obtain ⟨ao5, cap5, hs5⟩ := hv5.fls.shape
  subst hs5
  go_wp2_with fail
  go_ret
  exact ⟨_, rfl, hv5.fls, ((hU0.trans0 hUd).trans0 hU4).trans0 hU5⟩
set_option maxRecDepth 100000 in
set_option maxHeartbeats 2000000 in
theorem rf_do3 (w : World) (v pv : Value) (l : List (List UInt8 × List UInt8)) (hl : Fls w v l) (c : Chg) (hk : c.kind = 3) (hc : Can l c) (hp : By w pv c.p) (hn : l.length ≤ 1000000000) :
    Calls Tryz.prog 133 #[v, .agg #[.int .i64 c.kind, encS c.a, encS c.b, pv]] w (DoFls w (fdo l c)) := by
  obtain ⟨b, hab⟩ := hc.yes (.inr hk)
  rw [show fdo l c = fput c.b b (fdel c.a l) from by unfold fdo; rw [if_neg (by omega), if_neg (by omega), if_neg (by omega), hab]; rfl, hk]
  clear hk hc
  obtain ⟨po, pc, rfl⟩ := By.val hp
  have hU0 : Upd [] w (w.alloc (Obj.cells #[.int .i64 3, encS c.a, encS c.b, .slice po c.p.length pc] 136)) := Upd.alloc [] _ _
  have hb0 := heap_alloc_new w (Obj.cells #[.int .i64 3, encS c.a, encS c.b, .slice po c.p.length pc] 136)
  generalize hwb : w.alloc (Obj.cells #[.int .i64 3, encS c.a, encS c.b, .slice po c.p.length pc] 136) = wb at hU0 hb0
  have x1 : wb.cell? ⟨w.heap.size, 1, none⟩ = some (encS c.a) := by rw [cell_lit wb _ 1 _ _ _ hb0]; rfl
  have x2 : wb.cell? ⟨w.heap.size, 2, none⟩ = some (encS c.b) := by rw [cell_lit wb _ 2 _ _ _ hb0]; rfl
  have hlb := hl.upd0 hU0
  have HWB := Lib.hid hwb
  have HAB := Lib.hid hab
  have HN := Lib.hid hn
  obtain ⟨ao, cap, rfl⟩ := hl.shape
  clear hl hp hwb hab hn
  go_enter Tryz.func133, Tryz.ntmps133
  go_wp2_with fail
  rw [HWB.out]
  refine (rf_find_some wb _ l hlb c.a b HN.out HAB.out).mono ?_
  rintro e w1 ⟨i, hi, rfl, rfl⟩
  obtain ⟨cells, qv, hR, g0, g1, hqv, hil⟩ := hlb.index hi
  have i0 : (0 : Int) ≤ (i : Int) := by omega
  obtain ⟨qo, qc, rfl⟩ := By.val hqv
  clear hi
  go_wp2_with ((with_reducible show wpList _ _ _ (⟨_, .indexAddr _ _ _, _, _, _, _⟩ :: _) _ _); refine wpl_indexAddr elFile rfl rfl hR rfl rfl (by omega) (by omega) ?_; intro ad hcell hspot; (have k0 := hcell 0 (by omega)); (have k1 := hcell 1 (by omega)); rw [Int.toNat_natCast, g0] at k0; rw [Int.toNat_natCast, g1] at k1; clear hcell; obtain ⟨gb, gof, gs⟩ := ad; cases hspot; simp only [Addr.add_lit, Nat.add_zero] at k0 k1)
  have hUd : Upd [] wb wb.drew := Upd.drew [] wb
  have hS : wb.drew.cell? ⟨w.heap.size, 1, none⟩ = some (encS c.a) ∧ wb.drew.cell? ⟨w.heap.size, 2, none⟩ = some (encS c.b) := ⟨x1, x2⟩
  have HW := Lib.hid (rf_without wb.drew _ l (hlb.upd0 hUd) c.a HN.out)
  have HV := Lib.hid (hqv.upd0 hUd)
  have hl1 : (fdel c.a l).length ≤ 1000000000 := Nat.le_trans (fdel_lenR _ _) HN.out
  have hl2 : (fdel c.b (fdel c.a l)).length ≤ 1000000000 := Nat.le_trans (fdel_lenR _ _) hl1
  have HL1 := Lib.hid hl1; have HL2 := Lib.hid hl2
  clear hR g0 g1 hqv hl1 hl2
  refine wp_region_H (fun W => W.cell? ⟨w.heap.size, 1, none⟩ = some (encS c.a) ∧ W.cell? ⟨w.heap.size, 2, none⟩ = some (encS c.b)) (by kernel_rfl) ?_
  (refine wpAnyH_takeO (i := 0) (dst := (some 58)) (op := (Go.Op.move (Go.Operand.tmp 0))) (v := ?_) (by rfl) (by kernel_rfl) (by kernel_rfl) (by kernel_rfl) (fun _ _ _ h => h) ?_ hS ?_; rotate_left; (focus (intro _ _ _ W HW; (try dsimp only at HW); go_simp; (try with_reducible rfl))); (try simp only [Act.put, List.setIfInBounds_toArray, List.set_cons_zero, List.set_cons_succ]))
  (refine wpAnyH_takeO (i := 1) (dst := (some 59)) (op := (Go.Op.fieldAddr 136 (Go.Operand.tmp 3) 1)) (v := ?_) (by rfl) (by kernel_rfl) (by kernel_rfl) (by kernel_rfl) (fun _ _ _ h => h) ?_ hS ?_; rotate_left; (focus (intro _ _ _ W HW; (try dsimp only at HW); go_simp; (try with_reducible rfl))); (try simp only [Act.put, List.setIfInBounds_toArray, List.set_cons_zero, List.set_cons_succ]))
  (refine wpAnyH_takeO (i := 2) (dst := (some 60)) (op := (Go.Op.load 9 (Go.Operand.tmp 59))) (v := ?_) (by rfl) (by kernel_rfl) (by kernel_rfl) (by kernel_rfl) (fun _ _ _ h => h) ?_ hS ?_; rotate_left; (focus (intro _ _ _ W HW; (try dsimp only at HW); go_simp; (try with_reducible rfl))); (try simp only [Act.put, List.setIfInBounds_toArray, List.set_cons_zero, List.set_cons_succ]))
  (refine wpAnyH_takeO (i := 4) (dst := (some 62)) (op := (Go.Op.fieldAddr 136 (Go.Operand.tmp 3) 2)) (v := ?_) (by rfl) (by kernel_rfl) (by kernel_rfl) (by kernel_rfl) (fun _ _ _ h => h) ?_ hS ?_; rotate_left; (focus (intro _ _ _ W HW; (try dsimp only at HW); go_simp; (try with_reducible rfl))); (try simp only [Act.put, List.setIfInBounds_toArray, List.set_cons_zero, List.set_cons_succ]))
  (refine wpAnyH_takeO (i := 5) (dst := (some 63)) (op := (Go.Op.load 9 (Go.Operand.tmp 62))) (v := ?_) (by rfl) (by kernel_rfl) (by kernel_rfl) (by kernel_rfl) (fun _ _ _ h => h) ?_ hS ?_; rotate_left; (focus (intro _ _ _ W HW; (try dsimp only at HW); go_simp; (try with_reducible rfl))); (try simp only [Act.put, List.setIfInBounds_toArray, List.set_cons_zero, List.set_cons_succ]))
  (refine wpAnyH_takeO (i := 7) (dst := (some 65)) (op := (Go.Op.fieldAddr 136 (Go.Operand.tmp 3) 2)) (v := ?_) (by rfl) (by kernel_rfl) (by kernel_rfl) (by kernel_rfl) (fun _ _ _ h => h) ?_ hS ?_; rotate_left; (focus (intro _ _ _ W HW; (try dsimp only at HW); go_simp; (try with_reducible rfl))); (try simp only [Act.put, List.setIfInBounds_toArray, List.set_cons_zero, List.set_cons_succ]))
  (refine wpAnyH_takeO (i := 8) (dst := (some 66)) (op := (Go.Op.load 9 (Go.Operand.tmp 65))) (v := ?_) (by rfl) (by kernel_rfl) (by kernel_rfl) (by kernel_rfl) (fun _ _ _ h => h) ?_ hS ?_; rotate_left; (focus (intro _ _ _ W HW; (try dsimp only at HW); go_simp; (try with_reducible rfl))); (try simp only [Act.put, List.setIfInBounds_toArray, List.set_cons_zero, List.set_cons_succ]))
  (refine wpAnyH_takeO (i := 9) (dst := (some 67)) (op := (Go.Op.move (Go.Operand.tmp 8))) (v := ?_) (by rfl) (by kernel_rfl) (by kernel_rfl) (by kernel_rfl) (fun _ _ _ h => h) ?_ hS ?_; rotate_left; (focus (intro _ _ _ W HW; (try dsimp only at HW); go_simp; (try with_reducible rfl))); (try simp only [Act.put, List.setIfInBounds_toArray, List.set_cons_zero, List.set_cons_succ]))
  (refine wpAnyH_takeO (i := 10) (dst := (some 68)) (op := (Go.Op.build 138 #[(0, (Go.Operand.tmp 66)), (1, (Go.Operand.tmp 67))])) (v := ?_) (by rfl) (by kernel_rfl) (by kernel_rfl) (by kernel_rfl) (fun _ _ _ h => h) ?_ hS ?_; rotate_left; (focus (intro _ _ _ W HW; (try dsimp only at HW); go_simp; (try with_reducible rfl))); (try simp only [Act.put, List.setIfInBounds_toArray, List.set_cons_zero, List.set_cons_succ]))
  refine wpAnyH_call (i := 3) (dst := (some 61)) (op := (Go.Op.call { callee := (Go.Callee.value (Go.Operand.func 165)), args := #[(Go.Operand.tmp 58), (Go.Operand.tmp 60)], argTypes := #[117, 9] })) (f := 165) (vs := #[.slice ao l.length cap, encS c.a]) (by kernel_rfl) (by rfl) (fun _ _ _ => by go_simp) ?_
  refine HW.out.mono ?_
  rintro e w4 ⟨v4, rfl, hv4, hU4⟩
  have hS4 : w4.cell? ⟨w.heap.size, 1, none⟩ = some (encS c.a) ∧ w4.cell? ⟨w.heap.size, 2, none⟩ = some (encS c.b) := ⟨hU4.cell hS.1 (by simp), hU4.cell hS.2 (by simp)⟩
  refine ⟨v4, rfl, hS4, ?_⟩
  (try simp only [Act.put, List.setIfInBounds_toArray, List.set_cons_zero, List.set_cons_succ])
  refine wpAnyH_call (i := 6) (dst := (some 64)) (op := (Go.Op.call { callee := (Go.Callee.value (Go.Operand.func 165)), args := #[(Go.Operand.tmp 61), (Go.Operand.tmp 63)], argTypes := #[117, 9] })) (f := 165) (vs := #[v4, encS c.b]) (by kernel_rfl) (by rfl) (fun _ _ _ => by go_simp) ?_
  refine (rf_without w4 v4 (fdel c.a l) hv4.fls c.b HL1.out).mono ?_
  rintro e w5 ⟨v5, rfl, hv5, hU5⟩
  have hS5 : w5.cell? ⟨w.heap.size, 1, none⟩ = some (encS c.a) ∧ w5.cell? ⟨w.heap.size, 2, none⟩ = some (encS c.b) := ⟨hU5.cell hS4.1 (by simp), hU5.cell hS4.2 (by simp)⟩
  refine ⟨v5, rfl, hS5, ?_⟩
  (try simp only [Act.put, List.setIfInBounds_toArray, List.set_cons_zero, List.set_cons_succ])
  refine wpAnyH_call (i := 11) (dst := (some 69)) (op := (Go.Op.call { callee := (Go.Callee.value (Go.Operand.func 164)), args := #[(Go.Operand.tmp 64), (Go.Operand.tmp 68)], argTypes := #[117, 138] })) (f := 164) (vs := #[v5, .agg #[encS c.b, .slice qo b.length qc]]) (by kernel_rfl) (by rfl) (fun _ _ _ => by go_simp) ?_
  refine (rf_with w5 v5 _ (fdel c.b (fdel c.a l)) (c.b, b) hv5.fls ((HV.out.upd0 hU4).upd0 hU5) HL2.out).mono ?_
  rintro e w6 ⟨v6, rfl, hv6, hU6⟩
  have hS6 : w6.cell? ⟨w.heap.size, 1, none⟩ = some (encS c.a) ∧ w6.cell? ⟨w.heap.size, 2, none⟩ = some (encS c.b) := ⟨hU6.cell hS5.1 (by simp), hU6.cell hS5.2 (by simp)⟩
  refine ⟨v6, rfl, hS6, ?_⟩
  (try simp only [Act.put, List.setIfInBounds_toArray, List.set_cons_zero, List.set_cons_succ])
  (refine wpAnyH_takeO (i := 12) (dst := (some 4)) (op := (Go.Op.assign (Go.Operand.tmp 69))) (v := ?_) (by rfl) (by kernel_rfl) (by kernel_rfl) (by kernel_rfl) (fun _ _ _ h => h) ?_ hS6 ?_; rotate_left; (focus (intro _ _ _ W HW; (try dsimp only at HW); go_simp; (try with_reducible rfl))); (try simp only [Act.put, List.setIfInBounds_toArray, List.set_cons_zero, List.set_cons_succ]))
  refine wpAnyH_done (by kernel_rfl) ?_ _
  obtain ⟨ao6, cap6, hs6⟩ := hv6.fls.shape
  subst hs6
  go_wp2_with fail
  go_ret
  exact ⟨_, rfl, hv6.fls, (((hU0.trans0 hUd).trans0 hU4).trans0 hU5).trans0 hU6⟩
theorem rf_do (w : World) (v pv : Value) (l : List (List UInt8 × List UInt8)) (hl : Fls w v l) (c : Chg) (hk : c.kind ≤ 3) (hc : Can l c) (hp : By w pv c.p) (hn : l.length ≤ 1000000000) (hb : c.kind = 1 → used l + c.p.length ≤ 1000000000) :
    Calls Tryz.prog 133 #[v, .agg #[.int .i64 c.kind, encS c.a, encS c.b, pv]] w (DoFls w (fdo l c)) := by
  rcases (show c.kind = 0 ∨ c.kind = 1 ∨ c.kind = 2 ∨ c.kind = 3 by omega) with h | h | h | h
  · exact rf_do0 w v pv l hl c h hc hp hn
  · exact rf_do1 w v pv l hl c h hc hp hn (hb h)
  · exact rf_do2 w v pv l hl c h hp hn
  · exact rf_do3 w v pv l hl c h hc hp hn
end Go.Proofs.YthfbfdkjgkkpcaaGreat

namespace Go.Proofs.YthfbfdkjgkkpcaaGreat
open Go Go.RowKit

/-- Why a change is refused, of a disk that has power. -/
def DSt.may (D : DSt) (c : Chg) : Nat :=
  if c.kind = 0 then (if isName c.a = false then 1 else if (aget c.a D.now).isSome then 7 else if 4096 ≤ D.now.length then 4 else 0)
  else if (aget c.a D.now).isNone then 6
  else if c.kind = 1 then (if 1048576 < c.p.length then 8 else if D.room < used D.now + c.p.length then 4 else 0)
  else if c.kind = 3 ∧ isName c.b = false then 1 else 0
def DSt.step (D : DSt) (c : Chg) : DSt × Nat := if D.down then (D, 5) else if D.may c ≠ 0 then (D, D.may c) else D.does c
theorem DSt.create_step (D : DSt) (a : List UInt8) : D.create a = D.step ⟨0, a, [], []⟩ := by
  unfold DSt.create DSt.step DSt.may
  simp only [if_true]
  repeat' split
  all_goals first | rfl | (simp_all; done)
theorem DSt.append_step (D : DSt) (a p : List UInt8) : D.append a p = D.step ⟨1, a, [], p⟩ := by
  unfold DSt.append DSt.step DSt.may
  simp only [if_true]
  repeat' split
  all_goals first | rfl | (simp_all; done) | (exfalso; omega)
theorem DSt.remove_step (D : DSt) (a : List UInt8) : D.remove a = D.step ⟨2, a, [], []⟩ := by
  unfold DSt.remove DSt.step DSt.may
  repeat' split
  all_goals first | rfl | (simp_all; done)
theorem DSt.rename_step (D : DSt) (a b : List UInt8) : D.rename a b = D.step ⟨3, a, b, []⟩ := by
  unfold DSt.rename DSt.step DSt.may
  repeat' split
  all_goals first | rfl | (simp_all; done)
theorem may_can {D : DSt} {c : Chg} (h : D.may c = 0) : Can D.now c ∧ (c.kind = 1 → c.p.length ≤ 1048576 ∧ used D.now + c.p.length ≤ D.room) := by
  unfold DSt.may at h
  by_cases h0 : c.kind = 0
  · rw [if_pos h0] at h
    split at h
    · cases h
    split at h
    · cases h
    · rename_i _ h2
      exact ⟨⟨fun _ => by simpa using h2, fun h3 => by omega⟩, fun h3 => by omega⟩
  · rw [if_neg h0] at h
    split at h
    · cases h
    · rename_i h2
      refine ⟨⟨fun h3 => absurd h3 h0, fun _ => Option.isSome_iff_exists.1 (by simpa [Option.isNone_iff_eq_none, Option.isSome_iff_ne_none] using h2)⟩, fun h1 => ?_⟩
      rw [if_pos h1] at h
      split at h
      · cases h
      split at h
      · cases h
      · omega

/-- Block d is the document's disk; S: the blocks that it turns. -/
structure RDiskAt (w : World) (d : Nat) (S : List Nat) (D : DSt) : Prop where
  ex : ∃ nv sv lv cells, S = d :: lv.ownBlock.toList ∧ w.heap[d]? = some (.cells #[.int .i64 D.room, nv, sv, lv, .int .i64 D.fuse, .bool D.down] 120 (0, 0)) ∧
    Fls w nv D.now ∧ Fls w sv D.sure ∧ w.ownsRow 0 136 4 lv D.loose.length cells ∧ ChgCells w cells D.loose
  inv : DInv D
  most : D.fuse ≤ 9223372036854775807
  can : ∀ i c, D.loose[i]? = some c → Can (D.mid i) c
theorem RDiskAt.off {w : World} {d : Nat} {S : List Nat} {D : DSt} (h : RDiskAt w d S D) {e : TypeId} (h1 : 120 ≠ e) (h2 : 136 ≠ e) : Off w e S := by
  obtain ⟨nv, sv, lv, cells, rfl, hd, hn, hs, ho, hc⟩ := h.ex
  exact Off.cons_cells hd h1 (own_off ho h2)
theorem RDiskAt.off8 {w : World} {d : Nat} {S : List Nat} {D : DSt} (h : RDiskAt w d S D) : Off w 5 S := h.off (by decide) (by decide)
theorem RDiskAt.lt {w : World} {d : Nat} {S : List Nat} {D : DSt} (h : RDiskAt w d S D) : ∀ k ∈ S, k < w.heap.size := by
  obtain ⟨nv, sv, lv, cells, rfl, hd, hn, hs, ho, hc⟩ := h.ex
  intro k hk
  simp only [List.mem_cons, Option.mem_toList] at hk
  rcases hk with rfl | hk
  · exact lt_of_get hd
  · exact (ho.lt k hk).2
theorem RDiskAt.upd {S T : List Nat} {w w' : World} {d : Nat} {D : DSt} (h : RDiskAt w d S D) (hU : Upd T w w') (h8 : Off w 5 T) (hf : Off w 138 T) (hn : ∀ k ∈ S, k ∉ T) : RDiskAt w' d S D := by
  obtain ⟨nv, sv, lv, cells, rfl, hd, hnb, hsb, ho, hc⟩ := h.ex
  refine ⟨⟨nv, sv, lv, cells, rfl, hU.get hd (hn d (by simp)), hnb.upd hU h8 hf, hsb.upd hU h8 hf, Own.upd ho hU ?_, hc.upd hU h8⟩, h.inv, h.most, h.can⟩
  intro g hg
  exact hn g (by simp [hg])
theorem RDiskAt.upd0 {S : List Nat} {w w' : World} {d : Nat} {D : DSt} (h : RDiskAt w d S D) (hU : Upd [] w w') : RDiskAt w' d S D := h.upd hU (Off.nil _ _) (Off.nil _ _) (fun _ _ hm => by cases hm)
theorem elRChange : Elem Tryz.prog 118 136 4 64 := ⟨by kernel_rfl, by omega, by
  obtain ⟨i, h1, h2, h3, h4⟩ := info_parts (P := Tryz.prog) (e := 136) (z := .agg #[.int .i64 0, .string ⟨#[]⟩, .string ⟨#[]⟩, .slice none 0 0]) (size := 4) (bytes := 64) (by kernel_rfl)
  exact ⟨i, _, h1, h2, h3, h4, rfl⟩⟩
/-- What a step of the document's disk leaves. -/
def RPost (w : World) (d : Nat) (S : List Nat) (r : DSt × Nat) (e : Ending) (w' : World) : Prop :=
  e = .returned (.int .i64 r.2) ∧ ∃ S', RDiskAt w' d S' r.1 ∧ Upd S w w' ∧ Sub w S S'
theorem rd_new (w : World) (room : Nat) (hr : room ≤ 67108864) :
    Calls Tryz.prog 11 #[.int .i64 room] w fun e w' => ∃ d S, e = .returned (.pointer (some ⟨d, 0, none⟩)) ∧ RDiskAt w' d S ⟨room, [], [], [], -1, false⟩ ∧ Upd [] w w' ∧ NewIn w S := by
  go_enter Tryz.func11, Tryz.ntmps11
  go_wp2_with fail
  go_ret
  refine ⟨_, [w.heap.size], rfl, ⟨⟨.slice none 0 0, .slice none 0 0, .slice none 0 0, [], rfl, heap_alloc_new w _, Fls.nil _, Fls.nil _, World.ownsRow_nil _ _ _ _, trivial⟩, DInv.new hr, by show (-1 : Int) ≤ _; omega, fun i c h => by simp at h⟩, Upd.alloc [] _ _, fun k hk => by simp at hk; omega⟩

/-- Power for a step. -/
theorem RDiskAt.poke {w w' : World} {d : Nat} {S : List Nat} {D : DSt} (h : RDiskAt w d S D) (fuse : Int) (down : Bool) (hU : Upd [d] w w')
    (hd' : ∀ c, w.heap[d]? = some (.cells c 120 (0, 0)) → w'.heap[d]? = some (.cells ((c.setIfInBounds 4 (.int .i64 fuse)).setIfInBounds 5 (.bool down)) 120 (0, 0))) (h1 : -1 ≤ fuse) (h2 : fuse ≤ 9223372036854775807) :
    RDiskAt w' d S { D with fuse := fuse, down := down } := by
  obtain ⟨nv, sv, lv, cells, rfl, hd, hn, hs, ho, hc⟩ := h.ex
  have h8 : Off w 5 [d] := Off.cons_cells hd (by decide) (Off.nil _ _)
  have hf : Off w 138 [d] := Off.cons_cells hd (by decide) (Off.nil _ _)
  refine ⟨⟨nv, sv, lv, cells, rfl, ?_, hn.upd hU h8 hf, hs.upd hU h8 hf, Own.upd ho hU ?_, hc.upd hU h8⟩, ?_, h2, h.can⟩
  · rw [hd' _ hd]; rfl
  · intro g hg hm
    simp only [List.mem_singleton] at hm
    subst hm
    exact own_ne_cells hd ho (by decide) g hg rfl
  · exact ⟨h.inv.room, h.inv.nodup, h.inv.now, h.inv.fits, h1, h.inv.kinds⟩
def PowPost (w : World) (d : Nat) (S : List Nat) (D : DSt) (e : Ending) (w' : World) : Prop :=
  e = .returned (.bool (decide (D.fuse ≠ 0))) ∧ RDiskAt w' d S D.spend.1 ∧ Upd [d] w w'
theorem rd_power (w : World) (d : Nat) (S : List Nat) (D : DSt) (h : RDiskAt w d S D) :
    Calls Tryz.prog 132 #[.pointer (some ⟨d, 0, none⟩)] w (PowPost w d S D) := by
  obtain ⟨nv, sv, lv, cells, hS, hd, _⟩ := h.ex
  have c4 : w.cell? ⟨d, 4, none⟩ = some (.int .i64 D.fuse) := by rw [cell_lit w d 4 _ _ _ hd]; rfl
  have c5 : w.cell? ⟨d, 5, none⟩ = some (.bool D.down) := by rw [cell_lit w d 5 _ _ _ hd]; rfl
  have f4 := frozen_lit w d 4 _ _ hd
  have f5 := frozen_lit w d 5 _ _ hd
  have hlo := h.inv.fuse
  have hhi := h.most
  have HD := Lib.hid hd; clear hd hS
  by_cases h0 : D.fuse = 0
  · have HK := Lib.hid (h.poke D.fuse true (w' := w.setCell ⟨d, 5, none⟩ (.bool true)) (Upd.setCell _ _ _ (by simp)) (by
      intro c hc
      rw [setCell_get hc]
      have e : c = #[.int .i64 D.room, nv, sv, lv, .int .i64 D.fuse, .bool D.down] := by rw [HD.out] at hc; cases hc; rfl
      subst e
      rfl) hlo hhi)
    have HF := Lib.hid (show PowPost w d S D (.returned (.bool false)) (w.setCell ⟨d, 5, none⟩ (.bool true)) from ⟨by rw [h0]; rfl, by unfold DSt.spend; rw [if_pos h0]; exact HK.out, Upd.setCell _ _ _ (by simp)⟩)
    rw [h0] at c4
    clear h0 hlo hhi h
    go_enter Tryz.func132, Tryz.ntmps132
    go_wp2_with fail
    go_ret
    exact HF.out
  · have t0 : (D.fuse == 0) = false := by simpa using h0
    by_cases h1 : 0 < D.fuse
    · have hb : burn D.fuse = D.fuse - 1 := by unfold burn; rw [if_pos h1]
      have HK := Lib.hid (h.poke (D.fuse - 1) D.down (w' := w.setCell ⟨d, 4, none⟩ (.int .i64 (D.fuse - 1))) (Upd.setCell _ _ _ (by simp)) (by
        intro c hc
        rw [setCell_get hc]
        have e : c = #[.int .i64 D.room, nv, sv, lv, .int .i64 D.fuse, .bool D.down] := by rw [HD.out] at hc; cases hc; rfl
        subst e
        rfl) (by omega) (by omega))
      have HF := Lib.hid (show PowPost w d S D (.returned (.bool true)) (w.setCell ⟨d, 4, none⟩ (.int .i64 (D.fuse - 1))) from ⟨by rw [decide_eq_true h0], by unfold DSt.spend; rw [if_neg h0, hb]; exact HK.out, Upd.setCell _ _ _ (by simp)⟩)
      have t1 : decide (0 < D.fuse) = true := by simpa using h1
      clear hb h0 h
      go_enter Tryz.func132, Tryz.ntmps132
      go_wp2_with fail
      go_ret
      exact HF.out
    · have hb : burn D.fuse = D.fuse := by unfold burn; rw [if_neg h1]
      have HF := Lib.hid (show PowPost w d S D (.returned (.bool true)) w from ⟨by rw [decide_eq_true h0], by unfold DSt.spend; rw [if_neg h0, hb]; exact h, Upd.refl _ _⟩)
      have t1 : decide (0 < D.fuse) = false := by simpa using h1
      clear hb h0 h
      go_enter Tryz.func132, Tryz.ntmps132
      go_wp2_with fail
      go_ret
      exact HF.out

/-- The files, seen through Find. -/
def FndPost (w : World) (l : List (List UInt8 × List UInt8)) (k : List UInt8) (e : Ending) (w' : World) : Prop := ∃ x : Int, e = .returned (.int .i64 x) ∧ decide (0 ≤ x) = (aget k l).isSome ∧ decide (x < 0) = (aget k l).isNone ∧ w = w'
theorem rf_find (w : World) (v : Value) (l : List (List UInt8 × List UInt8)) (hl : Fls w v l) (k : List UInt8) (hn : l.length ≤ 1000000000) :
    Calls Tryz.prog 64 #[v, encS k] w (FndPost w l k) := by
  cases hk : aget k l with
  | none =>
    refine (rf_find_none w v l hl k hn hk).mono ?_
    rintro e w' ⟨rfl, rfl⟩
    exact ⟨-1, rfl, by rw [hk]; rfl, by rw [hk]; rfl, rfl⟩
  | some b =>
    refine (rf_find_some w v l hl k b hn hk).mono ?_
    rintro e w' ⟨i, _, rfl, rfl⟩
    exact ⟨i, rfl, by rw [hk]; simp, by rw [hk]; simp, rfl⟩
def MayPost (w : World) (n : Nat) (e : Ending) (w' : World) : Prop := e = .returned (.int .i64 n) ∧ Upd [] w w'
set_option maxRecDepth 100000 in
set_option maxHeartbeats 2000000 in
theorem rd_may0 (w : World) (d : Nat) (S : List Nat) (D : DSt) (h : RDiskAt w d S D) (c : Chg) (pv : Value) (hk : c.kind = 0) (hp : By w pv c.p) (hln : D.now.length ≤ 1000000000) (hpl : c.p.length ≤ 1000000000) (hal : c.a.length ≤ 1000000000) :
    Calls Tryz.prog 131 #[.pointer (some ⟨d, 0, none⟩), .agg #[.int .i64 c.kind, encS c.a, encS c.b, pv]] w (MayPost w (D.may c)) := by
  rw [hk]
  have HK := Lib.hid hk
  clear hk
  have HNM := Lib.hid (fun (W : World) => rf_isName W c.a (by omega))
  clear hal
  obtain ⟨po, pc, rfl⟩ := By.val hp
  obtain ⟨nv, sv, lv, cells, hS, hd, hfn, _⟩ := h.ex
  have hnn := h.inv.nodup
  have hU0 : Upd [] w (w.alloc (Obj.cells #[.int .i64 0, encS c.a, encS c.b, .slice po c.p.length pc] 136)) := Upd.alloc [] _ _
  have hb0 := heap_alloc_new w (Obj.cells #[.int .i64 0, encS c.a, encS c.b, .slice po c.p.length pc] 136)
  have hdw := hU0.get hd (by simp)
  generalize hwb : w.alloc (Obj.cells #[.int .i64 0, encS c.a, encS c.b, .slice po c.p.length pc] 136) = wb at hU0 hb0 hdw
  have HWB := Lib.hid hwb
  have x0 : wb.cell? ⟨w.heap.size, 0, none⟩ = some (.int .i64 0) := by rw [cell_lit wb _ 0 _ _ _ hb0]; rfl
  have x1 : wb.cell? ⟨w.heap.size, 1, none⟩ = some (encS c.a) := by rw [cell_lit wb _ 1 _ _ _ hb0]; rfl
  have x2 : wb.cell? ⟨w.heap.size, 2, none⟩ = some (encS c.b) := by rw [cell_lit wb _ 2 _ _ _ hb0]; rfl
  have x3 : wb.cell? ⟨w.heap.size, 3, none⟩ = some (.slice po c.p.length pc) := by rw [cell_lit wb _ 3 _ _ _ hb0]; rfl
  have d0 : wb.cell? ⟨d, 0, none⟩ = some (.int .i64 D.room) := by rw [cell_lit wb _ 0 _ _ _ hdw]; rfl
  have d1 : wb.cell? ⟨d, 1, none⟩ = some nv := by rw [cell_lit wb _ 1 _ _ _ hdw]; rfl
  obtain ⟨no, nc, hns⟩ := hfn.shape
  subst hns
  have HFD := Lib.hid (rf_find wb.drew _ D.now (hfn.upd0 (hU0.trans0 (Upd.drew [] _))) c.a hln)
  have hUd := hU0.trans0 (Upd.drew [] wb)
  have hS0 : wb.drew.cell? ⟨w.heap.size, 1, none⟩ = some (encS c.a) ∧ wb.drew.cell? ⟨d, 1, none⟩ = some (.slice no D.now.length nc) := ⟨x1, d1⟩
  have HFN := Lib.hid (hfn.upd0 hUd)
  have HINV := Lib.hid h.inv
  have HLN := Lib.hid hln
  have HPL := Lib.hid hpl
  clear hp hS hd hfn hnn hwb hb0 hdw h hln hpl
  go_enter Tryz.func131, Tryz.ntmps131
  go_wp2_with fail
  rw [HWB.out]
  refine wp_region_H (fun W => W.cell? ⟨w.heap.size, 1, none⟩ = some (encS c.a) ∧ W.cell? ⟨d, 1, none⟩ = some (.slice no D.now.length nc)) (by kernel_rfl) ?_
  (refine wpAnyH_takeO (i := 0) (dst := (some 6)) (op := (Go.Op.move (Go.Operand.tmp 0))) (v := ?_) (by rfl) (by kernel_rfl) (by kernel_rfl) (by kernel_rfl) (fun _ _ _ h => h) ?_ hS0 ?_; rotate_left; (focus (intro _ _ _ W HW; (try dsimp only at HW); go_simp; (try with_reducible rfl))); (try simp only [Act.put, List.setIfInBounds_toArray, List.set_cons_zero, List.set_cons_succ]))
  (refine wpAnyH_takeO (i := 1) (dst := (some 7)) (op := (Go.Op.nilCheck (Go.Operand.tmp 6))) (v := ?_) (by rfl) (by kernel_rfl) (by kernel_rfl) (by kernel_rfl) (fun _ _ _ h => h) ?_ hS0 ?_; rotate_left; (focus (intro _ _ _ W HW; (try dsimp only at HW); go_simp; (try with_reducible rfl))); (try simp only [Act.put, List.setIfInBounds_toArray, List.set_cons_zero, List.set_cons_succ]))
  (refine wpAnyH_takeO (i := 2) (dst := (some 8)) (op := (Go.Op.fieldAddr 120 (Go.Operand.tmp 7) 1)) (v := ?_) (by rfl) (by kernel_rfl) (by kernel_rfl) (by kernel_rfl) (fun _ _ _ h => h) ?_ hS0 ?_; rotate_left; (focus (intro _ _ _ W HW; (try dsimp only at HW); go_simp; (try with_reducible rfl))); (try simp only [Act.put, List.setIfInBounds_toArray, List.set_cons_zero, List.set_cons_succ]))
  (refine wpAnyH_takeO (i := 3) (dst := (some 9)) (op := (Go.Op.load 117 (Go.Operand.tmp 8))) (v := ?_) (by rfl) (by kernel_rfl) (by kernel_rfl) (by kernel_rfl) (fun _ _ _ h => h) ?_ hS0 ?_; rotate_left; (focus (intro _ _ _ W HW; (try dsimp only at HW); go_simp; (try with_reducible rfl))); (try simp only [Act.put, List.setIfInBounds_toArray, List.set_cons_zero, List.set_cons_succ]))
  (refine wpAnyH_takeO (i := 4) (dst := (some 10)) (op := (Go.Op.fieldAddr 136 (Go.Operand.tmp 3) 1)) (v := ?_) (by rfl) (by kernel_rfl) (by kernel_rfl) (by kernel_rfl) (fun _ _ _ h => h) ?_ hS0 ?_; rotate_left; (focus (intro _ _ _ W HW; (try dsimp only at HW); go_simp; (try with_reducible rfl))); (try simp only [Act.put, List.setIfInBounds_toArray, List.set_cons_zero, List.set_cons_succ]))
  (refine wpAnyH_takeO (i := 5) (dst := (some 11)) (op := (Go.Op.load 9 (Go.Operand.tmp 10))) (v := ?_) (by rfl) (by kernel_rfl) (by kernel_rfl) (by kernel_rfl) (fun _ _ _ h => h) ?_ hS0 ?_; rotate_left; (focus (intro _ _ _ W HW; (try dsimp only at HW); go_simp; (try with_reducible rfl))); (try simp only [Act.put, List.setIfInBounds_toArray, List.set_cons_zero, List.set_cons_succ]))
  refine wpAnyH_call (i := 6) (dst := (some 12)) (op := (Go.Op.call { callee := (Go.Callee.value (Go.Operand.func 64)), args := #[(Go.Operand.tmp 9), (Go.Operand.tmp 11)], argTypes := #[117, 9] })) (f := 64) (vs := #[.slice no D.now.length nc, encS c.a]) (by kernel_rfl) (by rfl) (fun _ _ _ => by go_simp) ?_
  refine HFD.out.mono ?_
  rintro e w2 ⟨x, rfl, hx1, hx2, rfl⟩
  refine ⟨_, rfl, hS0, ?_⟩
  (try simp only [Act.put, List.setIfInBounds_toArray, List.set_cons_zero, List.set_cons_succ])
  (refine wpAnyH_takeO (i := 7) (dst := (some 5)) (op := (Go.Op.assign (Go.Operand.tmp 12))) (v := ?_) (by rfl) (by kernel_rfl) (by kernel_rfl) (by kernel_rfl) (fun _ _ _ h => h) ?_ hS0 ?_; rotate_left; (focus (intro _ _ _ W HW; (try dsimp only at HW); go_simp; (try with_reducible rfl))); (try simp only [Act.put, List.setIfInBounds_toArray, List.set_cons_zero, List.set_cons_succ]))
  refine wpAnyH_done (by kernel_rfl) ?_ _
  cases hnm : isName c.a with
  | false =>
    have HM := Lib.hid (show D.may c = 1 from by unfold DSt.may; rw [if_pos HK.out, if_pos hnm])
    rw [hnm] at HNM
    clear hnm hx1 hx2
    go_wp2_with fail
    refine (HNM.out _).mono ?_
    rintro e w3 ⟨rfl, rfl⟩
    go_wp2_with fail
    go_ret
    exact ⟨by rw [HM.out]; rfl, hUd⟩
  | true =>
    rw [hnm] at HNM
    cases hsm : (aget c.a D.now).isSome with
    | true =>
      have HM := Lib.hid (show D.may c = 7 from by unfold DSt.may; rw [if_pos HK.out, if_neg (by rw [hnm]; simp), if_pos hsm])
      rw [hsm] at hx1
      clear hsm hx2 hnm
      go_wp2_with fail
      refine (HNM.out _).mono ?_
      rintro e w3 ⟨rfl, rfl⟩
      go_wp2_with fail
      go_ret
      exact ⟨by rw [HM.out]; rfl, hUd⟩
    | false =>
      rw [hsm] at hx1
      by_cases h4 : 4096 ≤ D.now.length
      · have HM := Lib.hid (show D.may c = 4 from by unfold DSt.may; rw [if_pos HK.out, if_neg (by rw [hnm]; simp), if_neg (by rw [hsm]; simp), if_pos h4])
        clear hsm hx2 hnm
        go_wp2_with fail
        refine (HNM.out _).mono ?_
        rintro e w3 ⟨rfl, rfl⟩
        go_wp2_with fail
        go_ret
        exact ⟨by rw [HM.out]; rfl, hUd⟩
      · have HM := Lib.hid (show D.may c = 0 from by unfold DSt.may; rw [if_pos HK.out, if_neg (by rw [hnm]; simp), if_neg (by rw [hsm]; simp), if_neg h4])
        clear hsm hx2 hnm
        go_wp2_with fail
        refine (HNM.out _).mono ?_
        rintro e w3 ⟨rfl, rfl⟩
        go_wp2_with fail
        go_ret
        exact ⟨by rw [HM.out]; rfl, hUd⟩
set_option maxRecDepth 100000 in
set_option maxHeartbeats 2000000 in
theorem rd_may1 (w : World) (d : Nat) (S : List Nat) (D : DSt) (h : RDiskAt w d S D) (c : Chg) (pv : Value) (hk : c.kind = 1) (hp : By w pv c.p) (hln : D.now.length ≤ 1000000000) (hpl : c.p.length ≤ 1000000000) :
    Calls Tryz.prog 131 #[.pointer (some ⟨d, 0, none⟩), .agg #[.int .i64 c.kind, encS c.a, encS c.b, pv]] w (MayPost w (D.may c)) := by
  rw [hk]
  have HK := Lib.hid hk
  clear hk
  obtain ⟨po, pc, rfl⟩ := By.val hp
  obtain ⟨nv, sv, lv, cells, hS, hd, hfn, _⟩ := h.ex
  have hnn := h.inv.nodup
  have hU0 : Upd [] w (w.alloc (Obj.cells #[.int .i64 1, encS c.a, encS c.b, .slice po c.p.length pc] 136)) := Upd.alloc [] _ _
  have hb0 := heap_alloc_new w (Obj.cells #[.int .i64 1, encS c.a, encS c.b, .slice po c.p.length pc] 136)
  have hdw := hU0.get hd (by simp)
  generalize hwb : w.alloc (Obj.cells #[.int .i64 1, encS c.a, encS c.b, .slice po c.p.length pc] 136) = wb at hU0 hb0 hdw
  have HWB := Lib.hid hwb
  have x0 : wb.cell? ⟨w.heap.size, 0, none⟩ = some (.int .i64 1) := by rw [cell_lit wb _ 0 _ _ _ hb0]; rfl
  have x1 : wb.cell? ⟨w.heap.size, 1, none⟩ = some (encS c.a) := by rw [cell_lit wb _ 1 _ _ _ hb0]; rfl
  have x2 : wb.cell? ⟨w.heap.size, 2, none⟩ = some (encS c.b) := by rw [cell_lit wb _ 2 _ _ _ hb0]; rfl
  have x3 : wb.cell? ⟨w.heap.size, 3, none⟩ = some (.slice po c.p.length pc) := by rw [cell_lit wb _ 3 _ _ _ hb0]; rfl
  have d0 : wb.cell? ⟨d, 0, none⟩ = some (.int .i64 D.room) := by rw [cell_lit wb _ 0 _ _ _ hdw]; rfl
  have d1 : wb.cell? ⟨d, 1, none⟩ = some nv := by rw [cell_lit wb _ 1 _ _ _ hdw]; rfl
  obtain ⟨no, nc, hns⟩ := hfn.shape
  subst hns
  have HFD := Lib.hid (rf_find wb.drew _ D.now (hfn.upd0 (hU0.trans0 (Upd.drew [] _))) c.a hln)
  have hUd := hU0.trans0 (Upd.drew [] wb)
  have hS0 : wb.drew.cell? ⟨w.heap.size, 1, none⟩ = some (encS c.a) ∧ wb.drew.cell? ⟨d, 1, none⟩ = some (.slice no D.now.length nc) := ⟨x1, d1⟩
  have HFN := Lib.hid (hfn.upd0 hUd)
  have HINV := Lib.hid h.inv
  have HLN := Lib.hid hln
  have HPL := Lib.hid hpl
  clear hp hS hd hfn hnn hwb hb0 hdw h hln hpl
  go_enter Tryz.func131, Tryz.ntmps131
  go_wp2_with fail
  rw [HWB.out]
  refine wp_region_H (fun W => W.cell? ⟨w.heap.size, 1, none⟩ = some (encS c.a) ∧ W.cell? ⟨d, 1, none⟩ = some (.slice no D.now.length nc)) (by kernel_rfl) ?_
  (refine wpAnyH_takeO (i := 0) (dst := (some 6)) (op := (Go.Op.move (Go.Operand.tmp 0))) (v := ?_) (by rfl) (by kernel_rfl) (by kernel_rfl) (by kernel_rfl) (fun _ _ _ h => h) ?_ hS0 ?_; rotate_left; (focus (intro _ _ _ W HW; (try dsimp only at HW); go_simp; (try with_reducible rfl))); (try simp only [Act.put, List.setIfInBounds_toArray, List.set_cons_zero, List.set_cons_succ]))
  (refine wpAnyH_takeO (i := 1) (dst := (some 7)) (op := (Go.Op.nilCheck (Go.Operand.tmp 6))) (v := ?_) (by rfl) (by kernel_rfl) (by kernel_rfl) (by kernel_rfl) (fun _ _ _ h => h) ?_ hS0 ?_; rotate_left; (focus (intro _ _ _ W HW; (try dsimp only at HW); go_simp; (try with_reducible rfl))); (try simp only [Act.put, List.setIfInBounds_toArray, List.set_cons_zero, List.set_cons_succ]))
  (refine wpAnyH_takeO (i := 2) (dst := (some 8)) (op := (Go.Op.fieldAddr 120 (Go.Operand.tmp 7) 1)) (v := ?_) (by rfl) (by kernel_rfl) (by kernel_rfl) (by kernel_rfl) (fun _ _ _ h => h) ?_ hS0 ?_; rotate_left; (focus (intro _ _ _ W HW; (try dsimp only at HW); go_simp; (try with_reducible rfl))); (try simp only [Act.put, List.setIfInBounds_toArray, List.set_cons_zero, List.set_cons_succ]))
  (refine wpAnyH_takeO (i := 3) (dst := (some 9)) (op := (Go.Op.load 117 (Go.Operand.tmp 8))) (v := ?_) (by rfl) (by kernel_rfl) (by kernel_rfl) (by kernel_rfl) (fun _ _ _ h => h) ?_ hS0 ?_; rotate_left; (focus (intro _ _ _ W HW; (try dsimp only at HW); go_simp; (try with_reducible rfl))); (try simp only [Act.put, List.setIfInBounds_toArray, List.set_cons_zero, List.set_cons_succ]))
  (refine wpAnyH_takeO (i := 4) (dst := (some 10)) (op := (Go.Op.fieldAddr 136 (Go.Operand.tmp 3) 1)) (v := ?_) (by rfl) (by kernel_rfl) (by kernel_rfl) (by kernel_rfl) (fun _ _ _ h => h) ?_ hS0 ?_; rotate_left; (focus (intro _ _ _ W HW; (try dsimp only at HW); go_simp; (try with_reducible rfl))); (try simp only [Act.put, List.setIfInBounds_toArray, List.set_cons_zero, List.set_cons_succ]))
  (refine wpAnyH_takeO (i := 5) (dst := (some 11)) (op := (Go.Op.load 9 (Go.Operand.tmp 10))) (v := ?_) (by rfl) (by kernel_rfl) (by kernel_rfl) (by kernel_rfl) (fun _ _ _ h => h) ?_ hS0 ?_; rotate_left; (focus (intro _ _ _ W HW; (try dsimp only at HW); go_simp; (try with_reducible rfl))); (try simp only [Act.put, List.setIfInBounds_toArray, List.set_cons_zero, List.set_cons_succ]))
  refine wpAnyH_call (i := 6) (dst := (some 12)) (op := (Go.Op.call { callee := (Go.Callee.value (Go.Operand.func 64)), args := #[(Go.Operand.tmp 9), (Go.Operand.tmp 11)], argTypes := #[117, 9] })) (f := 64) (vs := #[.slice no D.now.length nc, encS c.a]) (by kernel_rfl) (by rfl) (fun _ _ _ => by go_simp) ?_
  refine HFD.out.mono ?_
  rintro e w2 ⟨x, rfl, hx1, hx2, rfl⟩
  refine ⟨_, rfl, hS0, ?_⟩
  (try simp only [Act.put, List.setIfInBounds_toArray, List.set_cons_zero, List.set_cons_succ])
  (refine wpAnyH_takeO (i := 7) (dst := (some 5)) (op := (Go.Op.assign (Go.Operand.tmp 12))) (v := ?_) (by rfl) (by kernel_rfl) (by kernel_rfl) (by kernel_rfl) (fun _ _ _ h => h) ?_ hS0 ?_; rotate_left; (focus (intro _ _ _ W HW; (try dsimp only at HW); go_simp; (try with_reducible rfl))); (try simp only [Act.put, List.setIfInBounds_toArray, List.set_cons_zero, List.set_cons_succ]))
  refine wpAnyH_done (by kernel_rfl) ?_ _
  cases hnn : (aget c.a D.now).isNone with
  | true =>
    have HM := Lib.hid (show D.may c = 6 from by unfold DSt.may; rw [if_neg (by rw [HK.out]; omega), if_pos hnn])
    rw [hnn] at hx2
    clear hnn hx1
    go_wp2_with fail
    go_ret
    exact ⟨by rw [HM.out]; rfl, hUd⟩
  | false =>
    rw [hnn] at hx2
    by_cases h8 : 1048576 < c.p.length
    · have t8 : decide ((1048576 : Int) < (c.p.length : Int)) = true := by simp; omega
      have HM := Lib.hid (show D.may c = 8 from by unfold DSt.may; rw [if_neg (by rw [HK.out]; omega), if_neg (by rw [hnn]; simp), if_pos HK.out, if_pos h8])
      clear hnn hx1
      go_wp2_with fail
      go_ret
      exact ⟨by rw [HM.out]; rfl, hUd⟩
    · have t8 : decide ((1048576 : Int) < (c.p.length : Int)) = false := by simp; omega
      have hus := HINV.out.usedNow
      have hrm := HINV.out.room
      have HUS := Lib.hid (rf_used wb.drew.drew _ D.now (HFN.out.upd0 (Upd.drew [] _)) HLN.out (by omega))
      have e12 : IntKind.i64.wrap ((D.room : Int) - (used D.now : Int)) = (D.room : Int) - (used D.now : Int) := IntWalk.i64_in _ (by omega)
      have hS3 : wb.drew.drew.cell? ⟨w.heap.size, 3, none⟩ = some (.slice po c.p.length pc) ∧ wb.drew.drew.cell? ⟨d, 0, none⟩ = some (.int .i64 D.room) ∧ wb.drew.drew.cell? ⟨d, 1, none⟩ = some (.slice no D.now.length nc) := ⟨x3, d0, d1⟩
      have hUd2 := hUd.trans0 (Upd.drew [] _)
      by_cases hrr : D.room < used D.now + c.p.length
      · have HM := Lib.hid (show D.may c = 4 from by unfold DSt.may; rw [if_neg (by rw [HK.out]; omega), if_neg (by rw [hnn]; simp), if_pos HK.out, if_neg h8, if_pos hrr])
        have hg : decide ((D.room : Int) - (used D.now : Int) < (c.p.length : Int)) = true := by simp; omega
        clear hus hrm hrr h8 hUd hS0 hnn hx1
        go_wp2_with fail
        refine wp_region_H (fun W => W.cell? ⟨w.heap.size, 3, none⟩ = some (.slice po c.p.length pc) ∧ W.cell? ⟨d, 0, none⟩ = some (.int .i64 D.room) ∧ W.cell? ⟨d, 1, none⟩ = some (.slice no D.now.length nc)) (by kernel_rfl) ?_
        (refine wpAnyH_takeO (i := 0) (dst := (some 37)) (op := (Go.Op.fieldAddr 136 (Go.Operand.tmp 3) 3)) (v := ?_) (by rfl) (by kernel_rfl) (by kernel_rfl) (by kernel_rfl) (fun _ _ _ h => h) ?_ hS3 ?_; rotate_left; (focus (intro _ _ _ W HW; (try dsimp only at HW); go_simp; (try with_reducible rfl))); (try simp only [Act.put, List.setIfInBounds_toArray, List.set_cons_zero, List.set_cons_succ]))
        (refine wpAnyH_takeO (i := 1) (dst := (some 38)) (op := (Go.Op.load 36 (Go.Operand.tmp 37))) (v := ?_) (by rfl) (by kernel_rfl) (by kernel_rfl) (by kernel_rfl) (fun _ _ _ h => h) ?_ hS3 ?_; rotate_left; (focus (intro _ _ _ W HW; (try dsimp only at HW); go_simp; (try with_reducible rfl))); (try simp only [Act.put, List.setIfInBounds_toArray, List.set_cons_zero, List.set_cons_succ]))
        (refine wpAnyH_takeO (i := 2) (dst := (some 39)) (op := (Go.Op.call { callee := (Go.Callee.builtin Go.Builtin.len), args := #[(Go.Operand.tmp 38)], argTypes := #[36] })) (v := ?_) (by rfl) (by kernel_rfl) (by kernel_rfl) (by kernel_rfl) (fun _ _ _ h => h) ?_ hS3 ?_; rotate_left; (focus (intro _ _ _ W HW; (try dsimp only at HW); go_simp; (try with_reducible rfl))); (try simp only [Act.put, List.setIfInBounds_toArray, List.set_cons_zero, List.set_cons_succ]))
        (refine wpAnyH_takeO (i := 3) (dst := (some 40)) (op := (Go.Op.move (Go.Operand.tmp 0))) (v := ?_) (by rfl) (by kernel_rfl) (by kernel_rfl) (by kernel_rfl) (fun _ _ _ h => h) ?_ hS3 ?_; rotate_left; (focus (intro _ _ _ W HW; (try dsimp only at HW); go_simp; (try with_reducible rfl))); (try simp only [Act.put, List.setIfInBounds_toArray, List.set_cons_zero, List.set_cons_succ]))
        (refine wpAnyH_takeO (i := 4) (dst := (some 41)) (op := (Go.Op.nilCheck (Go.Operand.tmp 40))) (v := ?_) (by rfl) (by kernel_rfl) (by kernel_rfl) (by kernel_rfl) (fun _ _ _ h => h) ?_ hS3 ?_; rotate_left; (focus (intro _ _ _ W HW; (try dsimp only at HW); go_simp; (try with_reducible rfl))); (try simp only [Act.put, List.setIfInBounds_toArray, List.set_cons_zero, List.set_cons_succ]))
        (refine wpAnyH_takeO (i := 5) (dst := (some 42)) (op := (Go.Op.fieldAddr 120 (Go.Operand.tmp 41) 0)) (v := ?_) (by rfl) (by kernel_rfl) (by kernel_rfl) (by kernel_rfl) (fun _ _ _ h => h) ?_ hS3 ?_; rotate_left; (focus (intro _ _ _ W HW; (try dsimp only at HW); go_simp; (try with_reducible rfl))); (try simp only [Act.put, List.setIfInBounds_toArray, List.set_cons_zero, List.set_cons_succ]))
        (refine wpAnyH_takeO (i := 6) (dst := (some 43)) (op := (Go.Op.load 3 (Go.Operand.tmp 42))) (v := ?_) (by rfl) (by kernel_rfl) (by kernel_rfl) (by kernel_rfl) (fun _ _ _ h => h) ?_ hS3 ?_; rotate_left; (focus (intro _ _ _ W HW; (try dsimp only at HW); go_simp; (try with_reducible rfl))); (try simp only [Act.put, List.setIfInBounds_toArray, List.set_cons_zero, List.set_cons_succ]))
        (refine wpAnyH_takeO (i := 7) (dst := (some 44)) (op := (Go.Op.move (Go.Operand.tmp 0))) (v := ?_) (by rfl) (by kernel_rfl) (by kernel_rfl) (by kernel_rfl) (fun _ _ _ h => h) ?_ hS3 ?_; rotate_left; (focus (intro _ _ _ W HW; (try dsimp only at HW); go_simp; (try with_reducible rfl))); (try simp only [Act.put, List.setIfInBounds_toArray, List.set_cons_zero, List.set_cons_succ]))
        (refine wpAnyH_takeO (i := 8) (dst := (some 45)) (op := (Go.Op.nilCheck (Go.Operand.tmp 44))) (v := ?_) (by rfl) (by kernel_rfl) (by kernel_rfl) (by kernel_rfl) (fun _ _ _ h => h) ?_ hS3 ?_; rotate_left; (focus (intro _ _ _ W HW; (try dsimp only at HW); go_simp; (try with_reducible rfl))); (try simp only [Act.put, List.setIfInBounds_toArray, List.set_cons_zero, List.set_cons_succ]))
        (refine wpAnyH_takeO (i := 9) (dst := (some 46)) (op := (Go.Op.fieldAddr 120 (Go.Operand.tmp 45) 1)) (v := ?_) (by rfl) (by kernel_rfl) (by kernel_rfl) (by kernel_rfl) (fun _ _ _ h => h) ?_ hS3 ?_; rotate_left; (focus (intro _ _ _ W HW; (try dsimp only at HW); go_simp; (try with_reducible rfl))); (try simp only [Act.put, List.setIfInBounds_toArray, List.set_cons_zero, List.set_cons_succ]))
        (refine wpAnyH_takeO (i := 10) (dst := (some 47)) (op := (Go.Op.load 117 (Go.Operand.tmp 46))) (v := ?_) (by rfl) (by kernel_rfl) (by kernel_rfl) (by kernel_rfl) (fun _ _ _ h => h) ?_ hS3 ?_; rotate_left; (focus (intro _ _ _ W HW; (try dsimp only at HW); go_simp; (try with_reducible rfl))); (try simp only [Act.put, List.setIfInBounds_toArray, List.set_cons_zero, List.set_cons_succ]))
        refine wpAnyH_call (i := 11) (dst := (some 48)) (op := (Go.Op.call { callee := (Go.Callee.value (Go.Operand.func 95)), args := #[(Go.Operand.tmp 47)], argTypes := #[117] })) (f := 95) (vs := #[.slice no D.now.length nc]) (by kernel_rfl) (by rfl) (fun _ _ _ => by go_simp) ?_
        refine HUS.out.mono ?_
        rintro e w4 ⟨rfl, rfl⟩
        refine ⟨_, rfl, hS3, ?_⟩
        (try simp only [Act.put, List.setIfInBounds_toArray, List.set_cons_zero, List.set_cons_succ])
        (refine wpAnyH_takeO (i := 12) (dst := (some 49)) (op := (Go.Op.binOp Go.BinOp.sub 3 (Go.Operand.tmp 43) (Go.Operand.tmp 48) 3)) (v := ?_) (by rfl) (by kernel_rfl) (by kernel_rfl) (by kernel_rfl) (fun _ _ _ h => h) ?_ hS3 ?_; rotate_left; (focus (intro _ _ _ W HW; (try dsimp only at HW); go_simp; (try with_reducible rfl))); (try simp only [Act.put, List.setIfInBounds_toArray, List.set_cons_zero, List.set_cons_succ]))
        (refine wpAnyH_takeO (i := 13) (dst := (some 50)) (op := (Go.Op.binOp Go.BinOp.gtr 3 (Go.Operand.tmp 39) (Go.Operand.tmp 49) 3)) (v := ?_) (by rfl) (by kernel_rfl) (by kernel_rfl) (by kernel_rfl) (fun _ _ _ h => h) ?_ hS3 ?_; rotate_left; (focus (intro _ _ _ W HW; (try dsimp only at HW); go_simp; (try with_reducible rfl))); (try simp only [Act.put, List.setIfInBounds_toArray, List.set_cons_zero, List.set_cons_succ]))
        refine wpAnyH_done (by kernel_rfl) ?_ _
        go_wp2_with fail
        go_ret
        exact ⟨by rw [HM.out]; rfl, hUd2⟩
      · have HM := Lib.hid (show D.may c = 0 from by unfold DSt.may; rw [if_neg (by rw [HK.out]; omega), if_neg (by rw [hnn]; simp), if_pos HK.out, if_neg h8, if_neg hrr])
        have hg : decide ((D.room : Int) - (used D.now : Int) < (c.p.length : Int)) = false := by simp; omega
        clear hus hrm hrr h8 hUd hS0 hnn hx1
        go_wp2_with fail
        refine wp_region_H (fun W => W.cell? ⟨w.heap.size, 3, none⟩ = some (.slice po c.p.length pc) ∧ W.cell? ⟨d, 0, none⟩ = some (.int .i64 D.room) ∧ W.cell? ⟨d, 1, none⟩ = some (.slice no D.now.length nc)) (by kernel_rfl) ?_
        (refine wpAnyH_takeO (i := 0) (dst := (some 37)) (op := (Go.Op.fieldAddr 136 (Go.Operand.tmp 3) 3)) (v := ?_) (by rfl) (by kernel_rfl) (by kernel_rfl) (by kernel_rfl) (fun _ _ _ h => h) ?_ hS3 ?_; rotate_left; (focus (intro _ _ _ W HW; (try dsimp only at HW); go_simp; (try with_reducible rfl))); (try simp only [Act.put, List.setIfInBounds_toArray, List.set_cons_zero, List.set_cons_succ]))
        (refine wpAnyH_takeO (i := 1) (dst := (some 38)) (op := (Go.Op.load 36 (Go.Operand.tmp 37))) (v := ?_) (by rfl) (by kernel_rfl) (by kernel_rfl) (by kernel_rfl) (fun _ _ _ h => h) ?_ hS3 ?_; rotate_left; (focus (intro _ _ _ W HW; (try dsimp only at HW); go_simp; (try with_reducible rfl))); (try simp only [Act.put, List.setIfInBounds_toArray, List.set_cons_zero, List.set_cons_succ]))
        (refine wpAnyH_takeO (i := 2) (dst := (some 39)) (op := (Go.Op.call { callee := (Go.Callee.builtin Go.Builtin.len), args := #[(Go.Operand.tmp 38)], argTypes := #[36] })) (v := ?_) (by rfl) (by kernel_rfl) (by kernel_rfl) (by kernel_rfl) (fun _ _ _ h => h) ?_ hS3 ?_; rotate_left; (focus (intro _ _ _ W HW; (try dsimp only at HW); go_simp; (try with_reducible rfl))); (try simp only [Act.put, List.setIfInBounds_toArray, List.set_cons_zero, List.set_cons_succ]))
        (refine wpAnyH_takeO (i := 3) (dst := (some 40)) (op := (Go.Op.move (Go.Operand.tmp 0))) (v := ?_) (by rfl) (by kernel_rfl) (by kernel_rfl) (by kernel_rfl) (fun _ _ _ h => h) ?_ hS3 ?_; rotate_left; (focus (intro _ _ _ W HW; (try dsimp only at HW); go_simp; (try with_reducible rfl))); (try simp only [Act.put, List.setIfInBounds_toArray, List.set_cons_zero, List.set_cons_succ]))
        (refine wpAnyH_takeO (i := 4) (dst := (some 41)) (op := (Go.Op.nilCheck (Go.Operand.tmp 40))) (v := ?_) (by rfl) (by kernel_rfl) (by kernel_rfl) (by kernel_rfl) (fun _ _ _ h => h) ?_ hS3 ?_; rotate_left; (focus (intro _ _ _ W HW; (try dsimp only at HW); go_simp; (try with_reducible rfl))); (try simp only [Act.put, List.setIfInBounds_toArray, List.set_cons_zero, List.set_cons_succ]))
        (refine wpAnyH_takeO (i := 5) (dst := (some 42)) (op := (Go.Op.fieldAddr 120 (Go.Operand.tmp 41) 0)) (v := ?_) (by rfl) (by kernel_rfl) (by kernel_rfl) (by kernel_rfl) (fun _ _ _ h => h) ?_ hS3 ?_; rotate_left; (focus (intro _ _ _ W HW; (try dsimp only at HW); go_simp; (try with_reducible rfl))); (try simp only [Act.put, List.setIfInBounds_toArray, List.set_cons_zero, List.set_cons_succ]))
        (refine wpAnyH_takeO (i := 6) (dst := (some 43)) (op := (Go.Op.load 3 (Go.Operand.tmp 42))) (v := ?_) (by rfl) (by kernel_rfl) (by kernel_rfl) (by kernel_rfl) (fun _ _ _ h => h) ?_ hS3 ?_; rotate_left; (focus (intro _ _ _ W HW; (try dsimp only at HW); go_simp; (try with_reducible rfl))); (try simp only [Act.put, List.setIfInBounds_toArray, List.set_cons_zero, List.set_cons_succ]))
        (refine wpAnyH_takeO (i := 7) (dst := (some 44)) (op := (Go.Op.move (Go.Operand.tmp 0))) (v := ?_) (by rfl) (by kernel_rfl) (by kernel_rfl) (by kernel_rfl) (fun _ _ _ h => h) ?_ hS3 ?_; rotate_left; (focus (intro _ _ _ W HW; (try dsimp only at HW); go_simp; (try with_reducible rfl))); (try simp only [Act.put, List.setIfInBounds_toArray, List.set_cons_zero, List.set_cons_succ]))
        (refine wpAnyH_takeO (i := 8) (dst := (some 45)) (op := (Go.Op.nilCheck (Go.Operand.tmp 44))) (v := ?_) (by rfl) (by kernel_rfl) (by kernel_rfl) (by kernel_rfl) (fun _ _ _ h => h) ?_ hS3 ?_; rotate_left; (focus (intro _ _ _ W HW; (try dsimp only at HW); go_simp; (try with_reducible rfl))); (try simp only [Act.put, List.setIfInBounds_toArray, List.set_cons_zero, List.set_cons_succ]))
        (refine wpAnyH_takeO (i := 9) (dst := (some 46)) (op := (Go.Op.fieldAddr 120 (Go.Operand.tmp 45) 1)) (v := ?_) (by rfl) (by kernel_rfl) (by kernel_rfl) (by kernel_rfl) (fun _ _ _ h => h) ?_ hS3 ?_; rotate_left; (focus (intro _ _ _ W HW; (try dsimp only at HW); go_simp; (try with_reducible rfl))); (try simp only [Act.put, List.setIfInBounds_toArray, List.set_cons_zero, List.set_cons_succ]))
        (refine wpAnyH_takeO (i := 10) (dst := (some 47)) (op := (Go.Op.load 117 (Go.Operand.tmp 46))) (v := ?_) (by rfl) (by kernel_rfl) (by kernel_rfl) (by kernel_rfl) (fun _ _ _ h => h) ?_ hS3 ?_; rotate_left; (focus (intro _ _ _ W HW; (try dsimp only at HW); go_simp; (try with_reducible rfl))); (try simp only [Act.put, List.setIfInBounds_toArray, List.set_cons_zero, List.set_cons_succ]))
        refine wpAnyH_call (i := 11) (dst := (some 48)) (op := (Go.Op.call { callee := (Go.Callee.value (Go.Operand.func 95)), args := #[(Go.Operand.tmp 47)], argTypes := #[117] })) (f := 95) (vs := #[.slice no D.now.length nc]) (by kernel_rfl) (by rfl) (fun _ _ _ => by go_simp) ?_
        refine HUS.out.mono ?_
        rintro e w4 ⟨rfl, rfl⟩
        refine ⟨_, rfl, hS3, ?_⟩
        (try simp only [Act.put, List.setIfInBounds_toArray, List.set_cons_zero, List.set_cons_succ])
        (refine wpAnyH_takeO (i := 12) (dst := (some 49)) (op := (Go.Op.binOp Go.BinOp.sub 3 (Go.Operand.tmp 43) (Go.Operand.tmp 48) 3)) (v := ?_) (by rfl) (by kernel_rfl) (by kernel_rfl) (by kernel_rfl) (fun _ _ _ h => h) ?_ hS3 ?_; rotate_left; (focus (intro _ _ _ W HW; (try dsimp only at HW); go_simp; (try with_reducible rfl))); (try simp only [Act.put, List.setIfInBounds_toArray, List.set_cons_zero, List.set_cons_succ]))
        (refine wpAnyH_takeO (i := 13) (dst := (some 50)) (op := (Go.Op.binOp Go.BinOp.gtr 3 (Go.Operand.tmp 39) (Go.Operand.tmp 49) 3)) (v := ?_) (by rfl) (by kernel_rfl) (by kernel_rfl) (by kernel_rfl) (fun _ _ _ h => h) ?_ hS3 ?_; rotate_left; (focus (intro _ _ _ W HW; (try dsimp only at HW); go_simp; (try with_reducible rfl))); (try simp only [Act.put, List.setIfInBounds_toArray, List.set_cons_zero, List.set_cons_succ]))
        refine wpAnyH_done (by kernel_rfl) ?_ _
        go_wp2_with fail
        go_ret
        exact ⟨by rw [HM.out]; rfl, hUd2⟩
set_option maxRecDepth 100000 in
set_option maxHeartbeats 2000000 in
theorem rd_may2 (w : World) (d : Nat) (S : List Nat) (D : DSt) (h : RDiskAt w d S D) (c : Chg) (pv : Value) (hk : c.kind = 2) (hp : By w pv c.p) (hln : D.now.length ≤ 1000000000) (hpl : c.p.length ≤ 1000000000) :
    Calls Tryz.prog 131 #[.pointer (some ⟨d, 0, none⟩), .agg #[.int .i64 c.kind, encS c.a, encS c.b, pv]] w (MayPost w (D.may c)) := by
  rw [hk]
  have HK := Lib.hid hk
  clear hk
  obtain ⟨po, pc, rfl⟩ := By.val hp
  obtain ⟨nv, sv, lv, cells, hS, hd, hfn, _⟩ := h.ex
  have hnn := h.inv.nodup
  have hU0 : Upd [] w (w.alloc (Obj.cells #[.int .i64 2, encS c.a, encS c.b, .slice po c.p.length pc] 136)) := Upd.alloc [] _ _
  have hb0 := heap_alloc_new w (Obj.cells #[.int .i64 2, encS c.a, encS c.b, .slice po c.p.length pc] 136)
  have hdw := hU0.get hd (by simp)
  generalize hwb : w.alloc (Obj.cells #[.int .i64 2, encS c.a, encS c.b, .slice po c.p.length pc] 136) = wb at hU0 hb0 hdw
  have HWB := Lib.hid hwb
  have x0 : wb.cell? ⟨w.heap.size, 0, none⟩ = some (.int .i64 2) := by rw [cell_lit wb _ 0 _ _ _ hb0]; rfl
  have x1 : wb.cell? ⟨w.heap.size, 1, none⟩ = some (encS c.a) := by rw [cell_lit wb _ 1 _ _ _ hb0]; rfl
  have x2 : wb.cell? ⟨w.heap.size, 2, none⟩ = some (encS c.b) := by rw [cell_lit wb _ 2 _ _ _ hb0]; rfl
  have x3 : wb.cell? ⟨w.heap.size, 3, none⟩ = some (.slice po c.p.length pc) := by rw [cell_lit wb _ 3 _ _ _ hb0]; rfl
  have d0 : wb.cell? ⟨d, 0, none⟩ = some (.int .i64 D.room) := by rw [cell_lit wb _ 0 _ _ _ hdw]; rfl
  have d1 : wb.cell? ⟨d, 1, none⟩ = some nv := by rw [cell_lit wb _ 1 _ _ _ hdw]; rfl
  obtain ⟨no, nc, hns⟩ := hfn.shape
  subst hns
  have HFD := Lib.hid (rf_find wb.drew _ D.now (hfn.upd0 (hU0.trans0 (Upd.drew [] _))) c.a hln)
  have hUd := hU0.trans0 (Upd.drew [] wb)
  have hS0 : wb.drew.cell? ⟨w.heap.size, 1, none⟩ = some (encS c.a) ∧ wb.drew.cell? ⟨d, 1, none⟩ = some (.slice no D.now.length nc) := ⟨x1, d1⟩
  have HFN := Lib.hid (hfn.upd0 hUd)
  have HINV := Lib.hid h.inv
  have HLN := Lib.hid hln
  have HPL := Lib.hid hpl
  clear hp hS hd hfn hnn hwb hb0 hdw h hln hpl
  go_enter Tryz.func131, Tryz.ntmps131
  go_wp2_with fail
  rw [HWB.out]
  refine wp_region_H (fun W => W.cell? ⟨w.heap.size, 1, none⟩ = some (encS c.a) ∧ W.cell? ⟨d, 1, none⟩ = some (.slice no D.now.length nc)) (by kernel_rfl) ?_
  (refine wpAnyH_takeO (i := 0) (dst := (some 6)) (op := (Go.Op.move (Go.Operand.tmp 0))) (v := ?_) (by rfl) (by kernel_rfl) (by kernel_rfl) (by kernel_rfl) (fun _ _ _ h => h) ?_ hS0 ?_; rotate_left; (focus (intro _ _ _ W HW; (try dsimp only at HW); go_simp; (try with_reducible rfl))); (try simp only [Act.put, List.setIfInBounds_toArray, List.set_cons_zero, List.set_cons_succ]))
  (refine wpAnyH_takeO (i := 1) (dst := (some 7)) (op := (Go.Op.nilCheck (Go.Operand.tmp 6))) (v := ?_) (by rfl) (by kernel_rfl) (by kernel_rfl) (by kernel_rfl) (fun _ _ _ h => h) ?_ hS0 ?_; rotate_left; (focus (intro _ _ _ W HW; (try dsimp only at HW); go_simp; (try with_reducible rfl))); (try simp only [Act.put, List.setIfInBounds_toArray, List.set_cons_zero, List.set_cons_succ]))
  (refine wpAnyH_takeO (i := 2) (dst := (some 8)) (op := (Go.Op.fieldAddr 120 (Go.Operand.tmp 7) 1)) (v := ?_) (by rfl) (by kernel_rfl) (by kernel_rfl) (by kernel_rfl) (fun _ _ _ h => h) ?_ hS0 ?_; rotate_left; (focus (intro _ _ _ W HW; (try dsimp only at HW); go_simp; (try with_reducible rfl))); (try simp only [Act.put, List.setIfInBounds_toArray, List.set_cons_zero, List.set_cons_succ]))
  (refine wpAnyH_takeO (i := 3) (dst := (some 9)) (op := (Go.Op.load 117 (Go.Operand.tmp 8))) (v := ?_) (by rfl) (by kernel_rfl) (by kernel_rfl) (by kernel_rfl) (fun _ _ _ h => h) ?_ hS0 ?_; rotate_left; (focus (intro _ _ _ W HW; (try dsimp only at HW); go_simp; (try with_reducible rfl))); (try simp only [Act.put, List.setIfInBounds_toArray, List.set_cons_zero, List.set_cons_succ]))
  (refine wpAnyH_takeO (i := 4) (dst := (some 10)) (op := (Go.Op.fieldAddr 136 (Go.Operand.tmp 3) 1)) (v := ?_) (by rfl) (by kernel_rfl) (by kernel_rfl) (by kernel_rfl) (fun _ _ _ h => h) ?_ hS0 ?_; rotate_left; (focus (intro _ _ _ W HW; (try dsimp only at HW); go_simp; (try with_reducible rfl))); (try simp only [Act.put, List.setIfInBounds_toArray, List.set_cons_zero, List.set_cons_succ]))
  (refine wpAnyH_takeO (i := 5) (dst := (some 11)) (op := (Go.Op.load 9 (Go.Operand.tmp 10))) (v := ?_) (by rfl) (by kernel_rfl) (by kernel_rfl) (by kernel_rfl) (fun _ _ _ h => h) ?_ hS0 ?_; rotate_left; (focus (intro _ _ _ W HW; (try dsimp only at HW); go_simp; (try with_reducible rfl))); (try simp only [Act.put, List.setIfInBounds_toArray, List.set_cons_zero, List.set_cons_succ]))
  refine wpAnyH_call (i := 6) (dst := (some 12)) (op := (Go.Op.call { callee := (Go.Callee.value (Go.Operand.func 64)), args := #[(Go.Operand.tmp 9), (Go.Operand.tmp 11)], argTypes := #[117, 9] })) (f := 64) (vs := #[.slice no D.now.length nc, encS c.a]) (by kernel_rfl) (by rfl) (fun _ _ _ => by go_simp) ?_
  refine HFD.out.mono ?_
  rintro e w2 ⟨x, rfl, hx1, hx2, rfl⟩
  refine ⟨_, rfl, hS0, ?_⟩
  (try simp only [Act.put, List.setIfInBounds_toArray, List.set_cons_zero, List.set_cons_succ])
  (refine wpAnyH_takeO (i := 7) (dst := (some 5)) (op := (Go.Op.assign (Go.Operand.tmp 12))) (v := ?_) (by rfl) (by kernel_rfl) (by kernel_rfl) (by kernel_rfl) (fun _ _ _ h => h) ?_ hS0 ?_; rotate_left; (focus (intro _ _ _ W HW; (try dsimp only at HW); go_simp; (try with_reducible rfl))); (try simp only [Act.put, List.setIfInBounds_toArray, List.set_cons_zero, List.set_cons_succ]))
  refine wpAnyH_done (by kernel_rfl) ?_ _
  cases hnn : (aget c.a D.now).isNone with
  | true =>
    have HM := Lib.hid (show D.may c = 6 from by unfold DSt.may; rw [if_neg (by rw [HK.out]; omega), if_pos hnn])
    rw [hnn] at hx2
    clear hnn hx1
    go_wp2_with fail
    go_ret
    exact ⟨by rw [HM.out]; rfl, hUd⟩
  | false =>
    rw [hnn] at hx2
    have HM := Lib.hid (show D.may c = 0 from by unfold DSt.may; rw [if_neg (by rw [HK.out]; omega), if_neg (by rw [hnn]; simp), if_neg (by rw [HK.out]; omega), if_neg (by rw [HK.out]; omega)])
    clear hnn hx1
    go_wp2_with fail
    go_ret
    exact ⟨by rw [HM.out]; rfl, hUd⟩
set_option maxRecDepth 100000 in
set_option maxHeartbeats 2000000 in
theorem rd_may3 (w : World) (d : Nat) (S : List Nat) (D : DSt) (h : RDiskAt w d S D) (c : Chg) (pv : Value) (hk : c.kind = 3) (hp : By w pv c.p) (hln : D.now.length ≤ 1000000000) (hpl : c.p.length ≤ 1000000000) (hbl : c.b.length ≤ 1000000000) :
    Calls Tryz.prog 131 #[.pointer (some ⟨d, 0, none⟩), .agg #[.int .i64 c.kind, encS c.a, encS c.b, pv]] w (MayPost w (D.may c)) := by
  rw [hk]
  have HK := Lib.hid hk
  clear hk
  have HNM := Lib.hid (fun (W : World) => rf_isName W c.b (by omega))
  clear hbl
  obtain ⟨po, pc, rfl⟩ := By.val hp
  obtain ⟨nv, sv, lv, cells, hS, hd, hfn, _⟩ := h.ex
  have hnn := h.inv.nodup
  have hU0 : Upd [] w (w.alloc (Obj.cells #[.int .i64 3, encS c.a, encS c.b, .slice po c.p.length pc] 136)) := Upd.alloc [] _ _
  have hb0 := heap_alloc_new w (Obj.cells #[.int .i64 3, encS c.a, encS c.b, .slice po c.p.length pc] 136)
  have hdw := hU0.get hd (by simp)
  generalize hwb : w.alloc (Obj.cells #[.int .i64 3, encS c.a, encS c.b, .slice po c.p.length pc] 136) = wb at hU0 hb0 hdw
  have HWB := Lib.hid hwb
  have x0 : wb.cell? ⟨w.heap.size, 0, none⟩ = some (.int .i64 3) := by rw [cell_lit wb _ 0 _ _ _ hb0]; rfl
  have x1 : wb.cell? ⟨w.heap.size, 1, none⟩ = some (encS c.a) := by rw [cell_lit wb _ 1 _ _ _ hb0]; rfl
  have x2 : wb.cell? ⟨w.heap.size, 2, none⟩ = some (encS c.b) := by rw [cell_lit wb _ 2 _ _ _ hb0]; rfl
  have x3 : wb.cell? ⟨w.heap.size, 3, none⟩ = some (.slice po c.p.length pc) := by rw [cell_lit wb _ 3 _ _ _ hb0]; rfl
  have d0 : wb.cell? ⟨d, 0, none⟩ = some (.int .i64 D.room) := by rw [cell_lit wb _ 0 _ _ _ hdw]; rfl
  have d1 : wb.cell? ⟨d, 1, none⟩ = some nv := by rw [cell_lit wb _ 1 _ _ _ hdw]; rfl
  obtain ⟨no, nc, hns⟩ := hfn.shape
  subst hns
  have HFD := Lib.hid (rf_find wb.drew _ D.now (hfn.upd0 (hU0.trans0 (Upd.drew [] _))) c.a hln)
  have hUd := hU0.trans0 (Upd.drew [] wb)
  have hS0 : wb.drew.cell? ⟨w.heap.size, 1, none⟩ = some (encS c.a) ∧ wb.drew.cell? ⟨d, 1, none⟩ = some (.slice no D.now.length nc) := ⟨x1, d1⟩
  have HFN := Lib.hid (hfn.upd0 hUd)
  have HINV := Lib.hid h.inv
  have HLN := Lib.hid hln
  have HPL := Lib.hid hpl
  clear hp hS hd hfn hnn hwb hb0 hdw h hln hpl
  go_enter Tryz.func131, Tryz.ntmps131
  go_wp2_with fail
  rw [HWB.out]
  refine wp_region_H (fun W => W.cell? ⟨w.heap.size, 1, none⟩ = some (encS c.a) ∧ W.cell? ⟨d, 1, none⟩ = some (.slice no D.now.length nc)) (by kernel_rfl) ?_
  (refine wpAnyH_takeO (i := 0) (dst := (some 6)) (op := (Go.Op.move (Go.Operand.tmp 0))) (v := ?_) (by rfl) (by kernel_rfl) (by kernel_rfl) (by kernel_rfl) (fun _ _ _ h => h) ?_ hS0 ?_; rotate_left; (focus (intro _ _ _ W HW; (try dsimp only at HW); go_simp; (try with_reducible rfl))); (try simp only [Act.put, List.setIfInBounds_toArray, List.set_cons_zero, List.set_cons_succ]))
  (refine wpAnyH_takeO (i := 1) (dst := (some 7)) (op := (Go.Op.nilCheck (Go.Operand.tmp 6))) (v := ?_) (by rfl) (by kernel_rfl) (by kernel_rfl) (by kernel_rfl) (fun _ _ _ h => h) ?_ hS0 ?_; rotate_left; (focus (intro _ _ _ W HW; (try dsimp only at HW); go_simp; (try with_reducible rfl))); (try simp only [Act.put, List.setIfInBounds_toArray, List.set_cons_zero, List.set_cons_succ]))
  (refine wpAnyH_takeO (i := 2) (dst := (some 8)) (op := (Go.Op.fieldAddr 120 (Go.Operand.tmp 7) 1)) (v := ?_) (by rfl) (by kernel_rfl) (by kernel_rfl) (by kernel_rfl) (fun _ _ _ h => h) ?_ hS0 ?_; rotate_left; (focus (intro _ _ _ W HW; (try dsimp only at HW); go_simp; (try with_reducible rfl))); (try simp only [Act.put, List.setIfInBounds_toArray, List.set_cons_zero, List.set_cons_succ]))
  (refine wpAnyH_takeO (i := 3) (dst := (some 9)) (op := (Go.Op.load 117 (Go.Operand.tmp 8))) (v := ?_) (by rfl) (by kernel_rfl) (by kernel_rfl) (by kernel_rfl) (fun _ _ _ h => h) ?_ hS0 ?_; rotate_left; (focus (intro _ _ _ W HW; (try dsimp only at HW); go_simp; (try with_reducible rfl))); (try simp only [Act.put, List.setIfInBounds_toArray, List.set_cons_zero, List.set_cons_succ]))
  (refine wpAnyH_takeO (i := 4) (dst := (some 10)) (op := (Go.Op.fieldAddr 136 (Go.Operand.tmp 3) 1)) (v := ?_) (by rfl) (by kernel_rfl) (by kernel_rfl) (by kernel_rfl) (fun _ _ _ h => h) ?_ hS0 ?_; rotate_left; (focus (intro _ _ _ W HW; (try dsimp only at HW); go_simp; (try with_reducible rfl))); (try simp only [Act.put, List.setIfInBounds_toArray, List.set_cons_zero, List.set_cons_succ]))
  (refine wpAnyH_takeO (i := 5) (dst := (some 11)) (op := (Go.Op.load 9 (Go.Operand.tmp 10))) (v := ?_) (by rfl) (by kernel_rfl) (by kernel_rfl) (by kernel_rfl) (fun _ _ _ h => h) ?_ hS0 ?_; rotate_left; (focus (intro _ _ _ W HW; (try dsimp only at HW); go_simp; (try with_reducible rfl))); (try simp only [Act.put, List.setIfInBounds_toArray, List.set_cons_zero, List.set_cons_succ]))
  refine wpAnyH_call (i := 6) (dst := (some 12)) (op := (Go.Op.call { callee := (Go.Callee.value (Go.Operand.func 64)), args := #[(Go.Operand.tmp 9), (Go.Operand.tmp 11)], argTypes := #[117, 9] })) (f := 64) (vs := #[.slice no D.now.length nc, encS c.a]) (by kernel_rfl) (by rfl) (fun _ _ _ => by go_simp) ?_
  refine HFD.out.mono ?_
  rintro e w2 ⟨x, rfl, hx1, hx2, rfl⟩
  refine ⟨_, rfl, hS0, ?_⟩
  (try simp only [Act.put, List.setIfInBounds_toArray, List.set_cons_zero, List.set_cons_succ])
  (refine wpAnyH_takeO (i := 7) (dst := (some 5)) (op := (Go.Op.assign (Go.Operand.tmp 12))) (v := ?_) (by rfl) (by kernel_rfl) (by kernel_rfl) (by kernel_rfl) (fun _ _ _ h => h) ?_ hS0 ?_; rotate_left; (focus (intro _ _ _ W HW; (try dsimp only at HW); go_simp; (try with_reducible rfl))); (try simp only [Act.put, List.setIfInBounds_toArray, List.set_cons_zero, List.set_cons_succ]))
  refine wpAnyH_done (by kernel_rfl) ?_ _
  cases hnn : (aget c.a D.now).isNone with
  | true =>
    have HM := Lib.hid (show D.may c = 6 from by unfold DSt.may; rw [if_neg (by rw [HK.out]; omega), if_pos hnn])
    rw [hnn] at hx2
    clear hnn hx1
    go_wp2_with fail
    go_ret
    exact ⟨by rw [HM.out]; rfl, hUd⟩
  | false =>
    rw [hnn] at hx2
    cases hnm : isName c.b with
    | false =>
      have HM := Lib.hid (show D.may c = 1 from by unfold DSt.may; rw [if_neg (by rw [HK.out]; omega), if_neg (by rw [hnn]; simp), if_neg (by rw [HK.out]; omega), if_pos ⟨HK.out, hnm⟩])
      rw [hnm] at HNM
      clear hnm hnn hx1
      go_wp2_with fail
      refine (HNM.out _).mono ?_
      rintro e w3 ⟨rfl, rfl⟩
      go_wp2_with fail
      go_ret
      exact ⟨by rw [HM.out]; rfl, hUd⟩
    | true =>
      have HM := Lib.hid (show D.may c = 0 from by unfold DSt.may; rw [if_neg (by rw [HK.out]; omega), if_neg (by rw [hnn]; simp), if_neg (by rw [HK.out]; omega), if_neg (by rw [hnm]; simp)])
      rw [hnm] at HNM
      clear hnm hnn hx1
      go_wp2_with fail
      refine (HNM.out _).mono ?_
      rintro e w3 ⟨rfl, rfl⟩
      go_wp2_with fail
      go_ret
      exact ⟨by rw [HM.out]; rfl, hUd⟩
theorem rd_may (w : World) (d : Nat) (S : List Nat) (D : DSt) (h : RDiskAt w d S D) (c : Chg) (pv : Value) (hk : c.kind ≤ 3) (hp : By w pv c.p) (hln : D.now.length ≤ 1000000000) (hpl : c.p.length ≤ 1000000000) (hal : c.a.length ≤ 1000000000) (hbl : c.b.length ≤ 1000000000) :
    Calls Tryz.prog 131 #[.pointer (some ⟨d, 0, none⟩), .agg #[.int .i64 c.kind, encS c.a, encS c.b, pv]] w (MayPost w (D.may c)) := by
  rcases (show c.kind = 0 ∨ c.kind = 1 ∨ c.kind = 2 ∨ c.kind = 3 by omega) with h0 | h0 | h0 | h0
  · exact rd_may0 w d S D h c pv h0 hp hln hpl hal
  · exact rd_may1 w d S D h c pv h0 hp hln hpl
  · exact rd_may2 w d S D h c pv h0 hp hln hpl
  · exact rd_may3 w d S D h c pv h0 hp hln hpl hbl
end Go.Proofs.YthfbfdkjgkkpcaaGreat

namespace Go.Proofs.YthfbfdkjgkkpcaaGreat
open Go Go.RowKit

/-- A change is laid behind the loose ones. -/
theorem rloose_push (w : World) (d : Nat) (nv sv lv : Value) (cells : List Value) (D : DSt) (c : Chg) (pv : Value) (loose : List Chg) (hD : D.loose = loose ++ [c])
    (hd : w.heap[d]? = some (.cells #[.int .i64 D.room, nv, sv, lv, .int .i64 D.fuse, .bool D.down] 120 (0, 0)))
    (hnb : Fls w nv D.now) (hsb : Fls w sv D.sure) (ho : w.ownsRow 0 136 4 lv loose.length cells) (hc : ChgCells w cells loose) (hp : By w pv c.p) (hl : loose.length ≤ 1000000000)
    (inv : DInv D) (most : D.fuse ≤ 9223372036854775807) (can : ∀ i c', D.loose[i]? = some c' → Can (D.mid i) c') (O : Obj) (hO : O = Obj.cells #[Value.int IntKind.i64 c.kind, encS c.a, encS c.b, pv] 136) (ty : Nat) :
    ∃ v' w4, (∃ ao n cap, v' = .slice ao n cap) ∧ (Builtin.append_ #[118, 118] ty #[lv, .slice (some ⟨w.heap.size, 0, none⟩) 1 1]).run Tryz.prog (w.drew.alloc O) = .ok v' w4 ∧
      Upd lv.ownBlock.toList w w4 ∧ w4.cell? ⟨d, 3, none⟩ = some lv ∧ w4.frozen? ⟨d, 3, none⟩ = false ∧
      RDiskAt (w4.setCell ⟨d, 3, none⟩ v') d (d :: v'.ownBlock.toList) D ∧ Upd (d :: lv.ownBlock.toList) w (w4.setCell ⟨d, 3, none⟩ v') ∧ Sub w (d :: lv.ownBlock.toList) (d :: v'.ownBlock.toList) := by
  subst hO
  have hU0 : Upd [] w (w.drew.alloc (.cells #[Value.int IntKind.i64 c.kind, encS c.a, encS c.b, pv] 136)) := (Upd.drew [] w).trans0 (Upd.alloc [] _ _)
  have hR : Rd (w.drew.alloc (.cells #[Value.int IntKind.i64 c.kind, encS c.a, encS c.b, pv] 136)) 136 4 (.slice (some ⟨w.heap.size, 0, none⟩) 1 1) 1 [.int .i64 c.kind, encS c.a, encS c.b, pv] :=
    Rd.new (w := w.drew) (by simp) (Nat.le_refl _) (by decide) rfl rfl
  obtain ⟨v', w4, r1, r2, r3, r4⟩ := run_append_rd (P := Tryz.prog) (ty := ty) elRChange (Own.upd0 ho hU0) hR (by
    intro u hu
    simp only [List.mem_cons, List.not_mem_nil, or_false] at hu
    rcases hu with rfl | rfl | rfl | rfl
    · rfl
    · rfl
    · rfl
    · obtain ⟨ao, cap, rfl⟩ := hp.val; rfl) (by unfold maxLen; omega) (by omega) (Nat.zero_le _)
  have hU1 : Upd lv.ownBlock.toList (w.drew.alloc (.cells #[Value.int IntKind.i64 c.kind, encS c.a, encS c.b, pv] 136)) w4 := Upd.grown r3 (fun k hk => by rw [hk]; simp)
  have hU : Upd lv.ownBlock.toList w w4 := (hU0.mono (T := lv.ownBlock.toList) (by simp)).trans hU1 (fun i hi _ => hi)
  have hlvd := own_ne_cells hd ho (by decide)
  have dn : d ∉ lv.ownBlock.toList := by intro hm; exact hlvd d (by simpa using hm) rfl
  have off : Off w 5 lv.ownBlock.toList := own_off ho (by decide)
  have offf : Off w 138 lv.ownBlock.toList := own_off ho (by decide)
  have hd4 := hU.get hd dn
  have hnb4 := hnb.upd hU off offf
  have hsb4 := hsb.upd hU off offf
  have hc4 := (hc.upd hU off).snoc (hp.upd hU off)
  have hU2 : Upd [d] w4 (w4.setCell ⟨d, 3, none⟩ v') := Upd.setCell _ _ _ (by simp)
  have off4 : Off w4 5 [d] := Off.cons_cells hd4 (by decide) (Off.nil _ _)
  have offf4 : Off w4 138 [d] := Off.cons_cells hd4 (by decide) (Off.nil _ _)
  have hv4 := own_ne_cells hd4 r2 (by decide)
  refine ⟨v', w4, (by obtain ⟨ao, cap, h9, _⟩ := (Rd.of_own r2).shape; exact ⟨ao, _, cap, h9⟩), r1, hU, ?_, frozen_lit w4 d 3 _ _ hd4, ⟨⟨nv, sv, v', cells ++ [.int .i64 c.kind, encS c.a, encS c.b, pv], rfl, ?_, hnb4.upd hU2 off4 offf4, hsb4.upd hU2 off4 offf4, ?_, ?_⟩, inv, most, can⟩, ?_, ?_⟩
  · rw [cell_lit w4 d 3 _ _ _ hd4]; rfl
  · rw [setCell_get hd4]; rfl
  · rw [hD, List.length_append]
    exact Own.upd r2 hU2 (fun g hg => by simp; exact hv4 g hg)
  · rw [hD]; exact hc4.upd hU2 off4
  · exact (hU.mono (T := d :: lv.ownBlock.toList) (fun i hi _ => List.mem_cons_of_mem _ hi)).trans hU2 (fun i hi _ => by simp at hi; subst hi; simp)
  · intro k hk
    simp only [List.mem_cons, Option.mem_toList] at hk
    rcases hk with rfl | hk
    · left; simp
    · rcases r4 with r4 | r4
      · left; rw [r4] at hk; simp [hk]
      · right; rw [r4] at hk
        have hk' : (w.drew.alloc (.cells #[Value.int IntKind.i64 c.kind, encS c.a, encS c.b, pv] 136)).heap.size = k := Option.some.inj hk
        rw [← hk']; exact hU0.size
theorem can_push {D : DSt} (hinv : DInv D) (can : ∀ i c, D.loose[i]? = some c → Can (D.mid i) c) {c : Chg} (hc : Can D.now c) (fuse : Int) :
    ∀ i c', (D.loose ++ [c])[i]? = some c' → Can (({ D with fuse := fuse, now := fdo D.now c, loose := D.loose ++ [c] } : DSt).mid i) c' := by
  intro i c' h
  rcases Nat.lt_or_ge i D.loose.length with h1 | h1
  · rw [List.getElem?_append_left h1] at h
    have := can i c' h
    unfold DSt.mid at this ⊢
    rwa [List.take_append_of_le_length (Nat.le_of_lt h1)]
  · rw [List.getElem?_append_right h1] at h
    have hi : i = D.loose.length := by
      have := (List.getElem?_eq_some_iff.1 h).1
      simp at this; omega
    subst hi
    simp at h
    subst h
    unfold DSt.mid
    rw [List.take_append_of_le_length (Nat.le_refl _), List.take_length, hinv.now]
    exact hc
theorem RDiskAt.step_post {w w' : World} {d : Nat} {S : List Nat} {D : DSt} (h : RDiskAt w d S D) (hU : Upd [] w w') : ∃ S', RDiskAt w' d S' D ∧ Upd S w w' ∧ Sub w S S' := ⟨S, h.upd0 hU, hU.mono (by simp), Sub.refl _ _⟩
set_option maxRecDepth 100000 in
set_option maxHeartbeats 4000000 in
theorem rd_step (w : World) (d : Nat) (S : List Nat) (D : DSt) (h : RDiskAt w d S D) (c : Chg) (pv : Value) (hk : c.kind ≤ 3) (hp : By w pv c.p) (hl : D.loose.length ≤ 1000000000) (hln : D.now.length ≤ 1000000000) (hpl : c.p.length ≤ 1000000000) (hal : c.a.length ≤ 1000000000) (hbl : c.b.length ≤ 1000000000) (hp0 : c.kind ≠ 1 → c.p = []) :
    Calls Tryz.prog 65 #[.pointer (some ⟨d, 0, none⟩), .agg #[.int .i64 c.kind, encS c.a, encS c.b, pv]] w (RPost w d S (D.step c)) := by
  obtain ⟨po, pc, rfl⟩ := By.val hp
  have hU0 : Upd [] w (w.alloc (Obj.cells #[.int .i64 c.kind, encS c.a, encS c.b, .slice po c.p.length pc] 136)) := Upd.alloc [] _ _
  have hb0 := heap_alloc_new w (Obj.cells #[.int .i64 c.kind, encS c.a, encS c.b, .slice po c.p.length pc] 136)
  have hmem := h.lt
  have hd5 : (w.alloc (Obj.cells #[.int .i64 c.kind, encS c.a, encS c.b, .slice po c.p.length pc] 136)).cell? ⟨d, 5, none⟩ = some (.bool D.down) := by
    obtain ⟨nv, sv, lv, cells, _, hd, _⟩ := (h.upd0 hU0).ex
    rw [cell_lit _ _ 5 _ _ _ hd]; rfl
  generalize hwb : w.alloc (Obj.cells #[.int .i64 c.kind, encS c.a, encS c.b, .slice po c.p.length pc] 136) = wb at hU0 hb0
  have HWB := Lib.hid hwb
  have hq : w.heap.size ∉ S := fun hm => by have := hmem _ hm; omega
  have x0 : wb.cell? ⟨w.heap.size, 0, none⟩ = some (.int .i64 c.kind) := by rw [cell_lit wb _ 0 _ _ _ hb0]; rfl
  have x1 : wb.cell? ⟨w.heap.size, 1, none⟩ = some (encS c.a) := by rw [cell_lit wb _ 1 _ _ _ hb0]; rfl
  have x2 : wb.cell? ⟨w.heap.size, 2, none⟩ = some (encS c.b) := by rw [cell_lit wb _ 2 _ _ _ hb0]; rfl
  have x3 : wb.cell? ⟨w.heap.size, 3, none⟩ = some (.slice po c.p.length pc) := by rw [cell_lit wb _ 3 _ _ _ hb0]; rfl
  have hb := h.upd0 hU0
  have hpb := hp.upd0 hU0
  have HMY := Lib.hid (rd_may wb d S D hb c _ hk hpb hln hpl hal hbl)
  have HMEM := Lib.hid hmem; have HB0 := Lib.hid hb0; have HK := Lib.hid hk; have HL := Lib.hid hl; have HLN := Lib.hid hln; have HPL := Lib.hid hpl
  clear hwb hp h hal hbl hmem hb0 hk hl hln hpl
  cases hdn : D.down with
  | true =>
    have HF := Lib.hid (show RPost w d S (D.step c) (.returned (.int .i64 5)) wb from by
      have : D.step c = (D, 5) := by unfold DSt.step; rw [if_pos hdn]
      rw [this]
      exact ⟨rfl, S, hb, hU0.mono (by simp), Sub.refl _ _⟩)
    rw [hdn] at hd5
    clear hdn
    go_enter Tryz.func65, Tryz.ntmps65
    go_wp2_with fail
    rw [HWB.out]
    go_ret
    exact HF.out
  | false =>
    rw [hdn] at hd5
    go_enter Tryz.func65, Tryz.ntmps65
    go_wp2_with fail
    rw [HWB.out]
    refine HMY.out.mono ?_
    rintro e w2 ⟨rfl, hU2⟩
    have hb2 := hb.upd0 hU2
    have y0 := hU2.cell x0 (by simp)
    have y1 := hU2.cell x1 (by simp)
    have y2 := hU2.cell x2 (by simp)
    have y3 := hU2.cell x3 (by simp)
    have hbx2 := hU2.get HB0.out (by simp)
    have hU02 := hU0.trans0 hU2
    have hp2 := hpb.upd0 hU2
    clear hU2 hb x0 x1 x2 x3 hU0 hpb hd5
    by_cases hm : D.may c = 0
    · have t0 : ((D.may c : Int) != 0) = false := by rw [hm]; rfl
      have hmc := may_can hm
      have hPW := rd_power w2 d S D hb2
      by_cases hf : D.fuse = 0
      · have HF := Lib.hid (fun (w3 : World) (h3 : RDiskAt w3 d S D.spend.1) (hU3 : Upd [d] w2 w3) (hdS : d ∈ S) => show RPost w d S (D.step c) (.returned (.int .i64 5)) w3 from by
          have : D.step c = (D.spend.1, 5) := by unfold DSt.step DSt.does DSt.spend; rw [if_neg (by simp [hdn]), if_neg (by omega), if_pos hf, if_pos hf]
          rw [this]
          exact ⟨rfl, S, h3, (hU02.mono (T := S) (by simp)).trans hU3 (fun i hi _ => by simp at hi; subst hi; exact hdS), Sub.refl _ _⟩)
        have hdS : d ∈ S := by obtain ⟨_, _, _, _, hS, _⟩ := hb2.ex; rw [hS]; simp
        have hPW2 := Lib.hid (show Calls Tryz.prog 132 #[.pointer (some ⟨d, 0, none⟩)] w2 (fun e w' => e = .returned (.bool false) ∧ RDiskAt w' d S D.spend.1 ∧ Upd [d] w2 w') from hPW.mono (by rintro e w' ⟨rfl, h1, h2⟩; exact ⟨by rw [hf]; rfl, h1, h2⟩))
        clear hm hmc hPW hf hdn
        go_wp2_with fail
        refine hPW2.out.mono ?_
        rintro e w3 ⟨rfl, h3, hU3⟩
        go_wp2_with fail
        go_ret
        exact HF.out w3 h3 hU3 hdS
      · have hsp : D.spend.1 = { D with fuse := burn D.fuse } := by unfold DSt.spend; rw [if_neg hf]
        have hPW2 := Lib.hid (show Calls Tryz.prog 132 #[.pointer (some ⟨d, 0, none⟩)] w2 (fun e w' => e = .returned (.bool true) ∧ RDiskAt w' d S { D with fuse := burn D.fuse } ∧ Upd [d] w2 w') from hPW.mono (by rintro e w' ⟨rfl, h1, h2⟩; exact ⟨by rw [decide_eq_true hf], hsp ▸ h1, h2⟩))
        have hst : D.step c = ({ D with fuse := burn D.fuse, now := fdo D.now c, loose := D.loose ++ [c] }, 0) := by unfold DSt.step DSt.does; rw [if_neg (by simp [hdn]), if_neg (by omega), if_neg hf]
        have hcp : c.p.length ≤ 1048576 := by
          by_cases h1 : c.kind = 1
          · exact (hmc.2 h1).1
          · rw [hp0 h1]; simp
        have hinv : DInv { D with fuse := burn D.fuse, now := fdo D.now c, loose := D.loose ++ [c] } := by
          have h2 := hb2.inv.does c HK.out hcp (fun h1 => (hmc.2 h1).2)
          simpa [DSt.does, hf] using h2
        have hus : c.kind = 1 → used D.now + c.p.length ≤ 1000000000 := fun h1 => by have := (hmc.2 h1).2; have := hb2.inv.room; omega
        have HINV := Lib.hid hinv; have HUS := Lib.hid hus; have HCAN := Lib.hid hmc.1; have HCP := Lib.hid hcp
        have HCN := Lib.hid (can_push hb2.inv hb2.can hmc.1 (burn D.fuse)); have HST := Lib.hid hst; have HMO := Lib.hid hb2.most
        have HOFF := Lib.hid (show Off w2 5 [d] from by obtain ⟨_, _, _, _, _, hd, _⟩ := hb2.ex; exact Off.cons_cells hd (by decide) (Off.nil _ _))
        clear hm hmc hPW hf hdn hsp hst hcp hinv hus hp0 hb2
        go_wp2_with fail
        refine hPW2.out.mono ?_
        rintro e w3 ⟨rfl, h3, hU3⟩
        obtain ⟨nv, sv, lv, cells, hS, hd3, hfn, hfs, hown, hcc⟩ := h3.ex
        obtain ⟨no, nc, hns⟩ := hfn.shape
        subst hns
        obtain ⟨so, sc, hss⟩ := hfs.shape
        subst hss
        dsimp only at hd3 hfn hfs hown hcc
        have hdS : d ∈ S := by rw [hS]; simp
        have hdw := HMEM.out d hdS
        have hqd : w.heap.size ∉ [d] := by simp; omega
        have hbx3 := hU3.get hbx2 hqd
        have hp3 := hp2.upd hU3 HOFF.out
        have hoff3 : Off w3 5 [d] := Off.cons_cells hd3 (by decide) (Off.nil _ _)
        have z3 : w3.cell? ⟨w.heap.size, 3, none⟩ = some (.slice po c.p.length pc) := by rw [cell_lit w3 _ 3 _ _ _ hbx3]; rfl
        have hU03 : Upd S w w3 := (hU02.mono (T := S) (by simp)).trans hU3 (fun i hi _ => by simp at hi; subst hi; exact hdS)
        have HTW := Lib.hid (ref_Twin w3 _ c.p hp3.x (by have := HCP.out; omega))
        have HS := Lib.hid hS
        clear y0 y1 y2 y3 hbx2 hU02 hp2 hU3 hPW2 h3 hS hp3 HMY
        go_wp2_with fail
        refine HTW.out.mono ?_
        rintro e w4 ⟨v4, rfl, hv4, hU4⟩
        obtain ⟨ao4, cap4, hs4⟩ := By.val hv4.by
        subst hs4
        have hbx4 := hU4.get hbx3 (by simp)
        have hd4 := hU4.get hd3 (by simp)
        have k3 : w4.cell? ⟨w.heap.size, 3, none⟩ = some (.slice po c.p.length pc) := by rw [cell_lit w4 _ 3 _ _ _ hbx4]; rfl
        have kf := frozen_lit w4 w.heap.size 3 _ _ hbx4
        have hbx5 := setCell_get (i := 3) hbx4 (.slice ao4 c.p.length cap4)
        have hU5 : Upd [w.heap.size] w4 (w4.setCell ⟨w.heap.size, 3, none⟩ (.slice ao4 c.p.length cap4)) := Upd.setCell _ _ _ (by simp)
        have o8 : Off w4 5 [w.heap.size] := Off.cons_cells hbx4 (by decide) (Off.nil _ _)
        have oF : Off w4 138 [w.heap.size] := Off.cons_cells hbx4 (by decide) (Off.nil _ _)
        have hfn5 := (hfn.upd0 hU4).upd hU5 o8 oF
        have hfs5 := (hfs.upd0 hU4).upd hU5 o8 oF
        have hcc5 := (hcc.upd hU4 (Off.nil _ _)).upd hU5 o8
        have hlq : Away lv [w.heap.size] := fun g hg hm => by
          simp at hm
          have := HMEM.out g (by rw [HS.out]; simp [hg])
          omega
        have hown5 := Own.upd (Own.upd0 hown hU4) hU5 hlq
        have hv5 := (hv4.by).upd hU5 o8
        have hd5' := hU5.get hd4 (by simp; omega)
        have hU05 : Upd S w (w4.setCell ⟨w.heap.size, 3, none⟩ (.slice ao4 c.p.length cap4)) := (hU03.then0 hU4).trans hU5 (fun i hi hlt => by simp at hi; omega)
        clear hbx3 hd3 hbx4 hd4 hfn hfs hcc hown hv4 z3 hoff3 hU4 hU5 o8 oF hlq hU03 HTW
        go_wp2_with fail
        generalize hw5 : w4.setCell ⟨w.heap.size, 3, none⟩ (.slice ao4 c.p.length cap4) = w5 at *
        clear hw5 k3 kf
        have b0 : w5.cell? ⟨w.heap.size, 0, none⟩ = some (.int .i64 c.kind) := by rw [cell_lit w5 _ 0 _ _ _ hbx5]; rfl
        have b1 : w5.cell? ⟨w.heap.size, 1, none⟩ = some (encS c.a) := by rw [cell_lit w5 _ 1 _ _ _ hbx5]; rfl
        have b2 : w5.cell? ⟨w.heap.size, 2, none⟩ = some (encS c.b) := by rw [cell_lit w5 _ 2 _ _ _ hbx5]; rfl
        have b3 : w5.cell? ⟨w.heap.size, 3, none⟩ = some (.slice ao4 c.p.length cap4) := by rw [cell_lit w5 _ 3 _ _ _ hbx5]; rfl
        have c1 : w5.cell? ⟨d, 1, none⟩ = some (.slice no D.now.length nc) := by rw [cell_lit w5 _ 1 _ _ _ hd5']; rfl
        have hUd := Upd.drew [] w5
        have HDO := Lib.hid (rf_do w5.drew _ _ D.now (hfn5.upd0 hUd) c HK.out HCAN.out (hv5.upd0 hUd) HLN.out HUS.out)
        have hS5 : w5.drew.cell? ⟨w.heap.size, 0, none⟩ = some (.int .i64 c.kind) ∧ w5.drew.cell? ⟨w.heap.size, 1, none⟩ = some (encS c.a) ∧ w5.drew.cell? ⟨w.heap.size, 2, none⟩ = some (encS c.b) ∧ w5.drew.cell? ⟨w.heap.size, 3, none⟩ = some (.slice ao4 c.p.length cap4) ∧ w5.drew.cell? ⟨d, 1, none⟩ = some (.slice no D.now.length nc) := ⟨b0, b1, b2, b3, c1⟩
        clear b0 b1 b2 b3 c1
        refine wp_region_noPanic ?_
        refine wp_region_M 9 (fun W => W.cell? ⟨w.heap.size, 0, none⟩ = some (.int .i64 c.kind) ∧ W.cell? ⟨w.heap.size, 1, none⟩ = some (encS c.a) ∧ W.cell? ⟨w.heap.size, 2, none⟩ = some (encS c.b) ∧ W.cell? ⟨w.heap.size, 3, none⟩ = some (.slice ao4 c.p.length cap4) ∧ W.cell? ⟨d, 1, none⟩ = some (.slice no D.now.length nc)) (by kernel_rfl) ?_
        (refine wpAnyM_takeO (i := 0) (dst := (some 23)) (op := (Go.Op.move (Go.Operand.tmp 0))) (v := ?_) (by rfl) (by kernel_rfl) (by kernel_rfl) (by kernel_rfl) (by kernel_rfl) (by rfl) (fun _ _ _ h => h) ?_ hS5 ?_; rotate_left; (focus (intro _ _ _ W HW; (try dsimp only at HW); go_simp; (try with_reducible rfl))); (try simp only [Act.put, List.setIfInBounds_toArray, List.set_cons_zero, List.set_cons_succ]))
        (refine wpAnyM_takeO (i := 1) (dst := (some 24)) (op := (Go.Op.move (Go.Operand.tmp 0))) (v := ?_) (by rfl) (by kernel_rfl) (by kernel_rfl) (by kernel_rfl) (by kernel_rfl) (by rfl) (fun _ _ _ h => h) ?_ hS5 ?_; rotate_left; (focus (intro _ _ _ W HW; (try dsimp only at HW); go_simp; (try with_reducible rfl))); (try simp only [Act.put, List.setIfInBounds_toArray, List.set_cons_zero, List.set_cons_succ]))
        (refine wpAnyM_takeO (i := 2) (dst := (some 25)) (op := (Go.Op.nilCheck (Go.Operand.tmp 24))) (v := ?_) (by rfl) (by kernel_rfl) (by kernel_rfl) (by kernel_rfl) (by kernel_rfl) (by rfl) (fun _ _ _ h => h) ?_ hS5 ?_; rotate_left; (focus (intro _ _ _ W HW; (try dsimp only at HW); go_simp; (try with_reducible rfl))); (try simp only [Act.put, List.setIfInBounds_toArray, List.set_cons_zero, List.set_cons_succ]))
        (refine wpAnyM_takeO (i := 3) (dst := (some 26)) (op := (Go.Op.fieldAddr 120 (Go.Operand.tmp 25) 1)) (v := ?_) (by rfl) (by kernel_rfl) (by kernel_rfl) (by kernel_rfl) (by kernel_rfl) (by rfl) (fun _ _ _ h => h) ?_ hS5 ?_; rotate_left; (focus (intro _ _ _ W HW; (try dsimp only at HW); go_simp; (try with_reducible rfl))); (try simp only [Act.put, List.setIfInBounds_toArray, List.set_cons_zero, List.set_cons_succ]))
        (refine wpAnyM_takeO (i := 4) (dst := (some 27)) (op := (Go.Op.load 117 (Go.Operand.tmp 26))) (v := ?_) (by rfl) (by kernel_rfl) (by kernel_rfl) (by kernel_rfl) (by kernel_rfl) (by rfl) (fun _ _ _ h => h) ?_ hS5 ?_; rotate_left; (focus (intro _ _ _ W HW; (try dsimp only at HW); go_simp; (try with_reducible rfl))); (try simp only [Act.put, List.setIfInBounds_toArray, List.set_cons_zero, List.set_cons_succ]))
        (refine wpAnyM_takeO (i := 5) (dst := (some 28)) (op := (Go.Op.load 136 (Go.Operand.tmp 3))) (v := ?_) (by rfl) (by kernel_rfl) (by kernel_rfl) (by kernel_rfl) (by kernel_rfl) (by rfl) (fun _ _ _ h => h) ?_ hS5 ?_; rotate_left; (focus (intro _ _ _ W HW; (try dsimp only at HW); go_simp; (try with_reducible rfl))); (try simp only [Act.put, List.setIfInBounds_toArray, List.set_cons_zero, List.set_cons_succ]))
        refine wpAnyM_one (i := 6) (by kernel_rfl) ?_
        refine opM_call (i := 6) (dst := (some 29)) (op := (Go.Op.call { callee := (Go.Callee.value (Go.Operand.func 133)), args := #[(Go.Operand.tmp 27), (Go.Operand.tmp 28)], argTypes := #[117, 136] })) (f := 133) (vs := #[.slice no D.now.length nc, .agg #[.int .i64 c.kind, encS c.a, encS c.b, .slice ao4 c.p.length cap4]]) (by rfl) (fun _ _ _ => by go_simp) ?_
        refine HDO.out.mono ?_
        rintro e w6 ⟨v6, rfl, hv6, hU6⟩
        have hU56 := hUd.trans0 hU6
        have hS6 : w6.cell? ⟨w.heap.size, 0, none⟩ = some (.int .i64 c.kind) ∧ w6.cell? ⟨w.heap.size, 1, none⟩ = some (encS c.a) ∧ w6.cell? ⟨w.heap.size, 2, none⟩ = some (encS c.b) ∧ w6.cell? ⟨w.heap.size, 3, none⟩ = some (.slice ao4 c.p.length cap4) ∧ w6.cell? ⟨d, 1, none⟩ = some (.slice no D.now.length nc) := ⟨hU6.cell hS5.1 (by simp), hU6.cell hS5.2.1 (by simp), hU6.cell hS5.2.2.1 (by simp), hU6.cell hS5.2.2.2.1 (by simp), hU6.cell hS5.2.2.2.2 (by simp)⟩
        refine ⟨v6, rfl, .inr hS6, ?_⟩
        (try simp only [Act.put, List.setIfInBounds_toArray, List.set_cons_zero, List.set_cons_succ])
        obtain ⟨ao6, cap6, hs6⟩ := hv6.shape
        subst hs6
        have hd6 := hU56.get hd5' (by simp)
        have hbx6 := hU56.get hbx5 (by simp)
        have RS := run_store_slice (P := Tryz.prog) (T := 117) (by kernel_rfl) hS6.2.2.2.2 (frozen_lit w6 d 1 _ _ hd6) ao6 (fdo D.now c).length cap6
        (refine wpAnyM_val (i := 7) (dst := (some 30)) (op := (Go.Op.nilCheck (Go.Operand.tmp 23))) (by rfl) (by kernel_rfl) (fun _ _ _ => by go_simp; rfl) (.inr hS6) ?_; (try simp only [Act.put, List.setIfInBounds_toArray, List.set_cons_zero, List.set_cons_succ]))
        (refine wpAnyM_val (i := 8) (dst := (some 31)) (op := (Go.Op.fieldAddr 120 (Go.Operand.tmp 30) 1)) (by rfl) (by kernel_rfl) (fun _ _ _ => by go_simp; rfl) (.inr hS6) ?_; (try simp only [Act.put, List.setIfInBounds_toArray, List.set_cons_zero, List.set_cons_succ]))
        (refine wpAnyM_skip (i := 9) (dst := none) (op := (Go.Op.store 117 (Go.Operand.tmp 31) (Go.Operand.tmp 29))) (by rfl) (by kernel_rfl) (ex_store RS (by rfl) (by rfl)) (.inl (by rfl)) ?_; (try simp only [Act.put, List.setIfInBounds_toArray, List.set_cons_zero, List.set_cons_succ]))
        refine wpAnyM_done (by kernel_rfl) ?_ _
        refine NoPanic.normal ?_
        have hd7 := setCell_get (i := 1) hd6 (.slice ao6 (fdo D.now c).length cap6)
        have hU7 : Upd [d] w6 (w6.setCell ⟨d, 1, none⟩ (.slice ao6 (fdo D.now c).length cap6)) := Upd.setCell _ _ _ (by simp)
        have o8 : Off w6 5 [d] := Off.cons_cells hd6 (by decide) (Off.nil _ _)
        have oF : Off w6 138 [d] := Off.cons_cells hd6 (by decide) (Off.nil _ _)
        have hfn7 := hv6.upd hU7 o8 oF
        have hfs7 := (hfs5.upd0 hU56).upd hU7 o8 oF
        have hcc7 := (hcc5.upd hU56 (Off.nil _ _)).upd hU7 o8
        have hld : Away lv [d] := fun g hg hm => by
          simp at hm
          exact own_ne_cells hd5' hown5 (by decide) g hg hm
        have hown7 := Own.upd (Own.upd0 hown5 hU56) hU7 hld
        have hv7 := (hv5.upd0 hU56).upd hU7 o8
        have hbx7 := hU7.get hbx6 hqd
        have hU07 : Upd S w (w6.setCell ⟨d, 1, none⟩ (.slice ao6 (fdo D.now c).length cap6)) := (hU05.then0 hU56).trans hU7 (fun i hi _ => by simp at hi; subst hi; exact hdS)
        clear hd6 hbx6 RS hS6 hS5 hv6 hU6 hU56 hU7 o8 oF hfn5 hfs5 hcc5 hown5 hv5 hd5' hbx5 hU05 hld hUd HDO
        go_wp2_with fail
        generalize hw7 : w6.setCell ⟨d, 1, none⟩ (.slice ao6 (fdo D.now c).length cap6) = w7 at *
        clear hw7
        obtain ⟨v8, w8, ⟨ao8, n8, cap8, rfl⟩, r1, r2, r3, r4, r5, r6, r7⟩ := rloose_push w7 d _ _ lv cells { D with fuse := burn D.fuse, now := fdo D.now c, loose := D.loose ++ [c] } c _ D.loose rfl hd7 hfn7 hfs7 hown7 hcc7 hv7 HL.out HINV.out (by have := HMO.out; have := HINV.out.fuse; show burn D.fuse ≤ _; unfold burn; split <;> omega) HCN.out _ rfl 118
        have hboxne : w.heap.size ∉ lv.ownBlock.toList := by
          intro hm
          have := HMEM.out w.heap.size (by rw [HS.out]; simp at hm ⊢; simp [hm])
          omega
        have hbx8 := r2.get hbx7 hboxne
        have q0 : ∀ W : World, W.heap[w.heap.size]? = some (Obj.cells #[Value.int IntKind.i64 c.kind, encS c.a, encS c.b, .slice ao4 c.p.length cap4] 136) → W.cell? ⟨d, 3, none⟩ = some lv →
            W.cell? ⟨w.heap.size, 0, none⟩ = some (.int .i64 c.kind) ∧ W.cell? ⟨w.heap.size, 1, none⟩ = some (encS c.a) ∧ W.cell? ⟨w.heap.size, 2, none⟩ = some (encS c.b) ∧ W.cell? ⟨w.heap.size, 3, none⟩ = some (.slice ao4 c.p.length cap4) ∧ W.cell? ⟨d, 3, none⟩ = some lv := by
          intro W hW hl
          refine ⟨?_, ?_, ?_, ?_, hl⟩
          all_goals
            rw [cell_lit W _ _ _ _ _ hW]
            rfl
        have e3 : w7.cell? ⟨d, 3, none⟩ = some lv := by rw [cell_lit w7 _ 3 _ _ _ hd7]; rfl
        have hU7a : Upd [] w7 (w7.drew.alloc (Obj.cells #[Value.int IntKind.i64 c.kind, encS c.a, encS c.b, .slice ao4 c.p.length cap4] 136)) := (Upd.drew [] w7).trans0 (Upd.alloc [] _ _)
        have HS0 := q0 w7.drew hbx7 e3
        have HS1 := q0 _ (hU7a.get hbx7 (by simp)) (hU7a.cell e3 (by simp))
        have HS2 := q0 w8 hbx8 r3
        have RS := run_store_slice (P := Tryz.prog) (T := 118) (by kernel_rfl) r3 r4 ao8 n8 cap8
        have RL := show (Instr.buildSlice 118 1 #[(0, chgV c (.slice ao4 c.p.length cap4))]).run Tryz.prog w7.drew = .ok (.slice (some ⟨w7.heap.size, 0, none⟩) 1 1) (w7.drew.alloc (Obj.cells #[Value.int IntKind.i64 c.kind, encS c.a, encS c.b, .slice ao4 c.p.length cap4] 136)) from run_lit elRChange (chgV c (.slice ao4 c.p.length cap4)) rfl (by omega)
        have HF := Lib.hid (show RPost w d S (D.step c) (.returned (.int .i64 (0 : Nat))) (w8.setCell ⟨d, 3, none⟩ (.slice ao8 n8 cap8)) from by
          rw [HST.out]
          refine ⟨rfl, _, r5, hU07.trans r6 (fun i hi _ => ?_), ?_⟩
          · rw [HS.out]; exact hi
          · intro k hk
            rcases r7 k hk with h7 | h7
            · left; rw [HS.out]; exact h7
            · right; exact Nat.le_trans hU07.size h7)
        have R1 := Lib.hid r1; have RS' := Lib.hid RS; have RL' := Lib.hid RL
        have H0' := Lib.hid HS0; have H1' := Lib.hid HS1; have H2' := Lib.hid HS2
        clear q0 HS0 HS1 HS2 r1 r2 r3 r4 r5 r6 r7 hU7a e3 hbx8 hboxne hU07 hd7 hfn7 hfs7 hcc7 hown7 hv7 hbx7 RS RL
        refine wp_region_noPanic ?_
        refine wp_region_M 10 (fun W => W.cell? ⟨w.heap.size, 0, none⟩ = some (.int .i64 c.kind) ∧ W.cell? ⟨w.heap.size, 1, none⟩ = some (encS c.a) ∧ W.cell? ⟨w.heap.size, 2, none⟩ = some (encS c.b) ∧ W.cell? ⟨w.heap.size, 3, none⟩ = some (.slice ao4 c.p.length cap4) ∧ W.cell? ⟨d, 3, none⟩ = some lv) (by kernel_rfl) ?_
        (refine wpAnyM_takeO (i := 0) (dst := (some 32)) (op := (Go.Op.move (Go.Operand.tmp 0))) (v := ?_) (by rfl) (by kernel_rfl) (by kernel_rfl) (by kernel_rfl) (by kernel_rfl) (by rfl) (fun _ _ _ h => h) ?_ H0'.out ?_; rotate_left; (focus (intro _ _ _ W HW; (try dsimp only at HW); go_simp; (try with_reducible rfl))); (try simp only [Act.put, List.setIfInBounds_toArray, List.set_cons_zero, List.set_cons_succ]))
        (refine wpAnyM_takeO (i := 1) (dst := (some 33)) (op := (Go.Op.move (Go.Operand.tmp 0))) (v := ?_) (by rfl) (by kernel_rfl) (by kernel_rfl) (by kernel_rfl) (by kernel_rfl) (by rfl) (fun _ _ _ h => h) ?_ H0'.out ?_; rotate_left; (focus (intro _ _ _ W HW; (try dsimp only at HW); go_simp; (try with_reducible rfl))); (try simp only [Act.put, List.setIfInBounds_toArray, List.set_cons_zero, List.set_cons_succ]))
        (refine wpAnyM_takeO (i := 2) (dst := (some 34)) (op := (Go.Op.nilCheck (Go.Operand.tmp 33))) (v := ?_) (by rfl) (by kernel_rfl) (by kernel_rfl) (by kernel_rfl) (by kernel_rfl) (by rfl) (fun _ _ _ h => h) ?_ H0'.out ?_; rotate_left; (focus (intro _ _ _ W HW; (try dsimp only at HW); go_simp; (try with_reducible rfl))); (try simp only [Act.put, List.setIfInBounds_toArray, List.set_cons_zero, List.set_cons_succ]))
        (refine wpAnyM_takeO (i := 3) (dst := (some 35)) (op := (Go.Op.fieldAddr 120 (Go.Operand.tmp 34) 3)) (v := ?_) (by rfl) (by kernel_rfl) (by kernel_rfl) (by kernel_rfl) (by kernel_rfl) (by rfl) (fun _ _ _ h => h) ?_ H0'.out ?_; rotate_left; (focus (intro _ _ _ W HW; (try dsimp only at HW); go_simp; (try with_reducible rfl))); (try simp only [Act.put, List.setIfInBounds_toArray, List.set_cons_zero, List.set_cons_succ]))
        (refine wpAnyM_takeO (i := 4) (dst := (some 36)) (op := (Go.Op.load 118 (Go.Operand.tmp 35))) (v := ?_) (by rfl) (by kernel_rfl) (by kernel_rfl) (by kernel_rfl) (by kernel_rfl) (by rfl) (fun _ _ _ h => h) ?_ H0'.out ?_; rotate_left; (focus (intro _ _ _ W HW; (try dsimp only at HW); go_simp; (try with_reducible rfl))); (try simp only [Act.put, List.setIfInBounds_toArray, List.set_cons_zero, List.set_cons_succ]))
        (refine wpAnyM_takeO (i := 5) (dst := (some 37)) (op := (Go.Op.load 136 (Go.Operand.tmp 3))) (v := ?_) (by rfl) (by kernel_rfl) (by kernel_rfl) (by kernel_rfl) (by kernel_rfl) (by rfl) (fun _ _ _ h => h) ?_ H0'.out ?_; rotate_left; (focus (intro _ _ _ W HW; (try dsimp only at HW); go_simp; (try with_reducible rfl))); (try simp only [Act.put, List.setIfInBounds_toArray, List.set_cons_zero, List.set_cons_succ]))
        (refine wpAnyM_val (i := 6) (dst := (some 38)) (op := (Go.Op.buildSlice 118 1 #[(0, (Go.Operand.tmp 37))])) (by rfl) (by kernel_rfl) (ex_lit RL'.out (by rfl)) (.inr H1'.out) ?_; (try simp only [Act.put, List.setIfInBounds_toArray, List.set_cons_zero, List.set_cons_succ]))
        (refine wpAnyM_val (i := 7) (dst := (some 39)) (op := (Go.Op.call { callee := (Go.Callee.builtin Go.Builtin.append), args := #[(Go.Operand.tmp 36), (Go.Operand.tmp 38)], argTypes := #[118, 118] })) (by rfl) (by kernel_rfl) (ex_append R1.out (by rfl) (by rfl)) (.inr H2'.out) ?_; (try simp only [Act.put, List.setIfInBounds_toArray, List.set_cons_zero, List.set_cons_succ]))
        (refine wpAnyM_val (i := 8) (dst := (some 40)) (op := (Go.Op.nilCheck (Go.Operand.tmp 32))) (by rfl) (by kernel_rfl) (fun _ _ _ => by go_simp; rfl) (.inr H2'.out) ?_; (try simp only [Act.put, List.setIfInBounds_toArray, List.set_cons_zero, List.set_cons_succ]))
        (refine wpAnyM_val (i := 9) (dst := (some 41)) (op := (Go.Op.fieldAddr 120 (Go.Operand.tmp 40) 3)) (by rfl) (by kernel_rfl) (fun _ _ _ => by go_simp; rfl) (.inr H2'.out) ?_; (try simp only [Act.put, List.setIfInBounds_toArray, List.set_cons_zero, List.set_cons_succ]))
        (refine wpAnyM_skip (i := 10) (dst := none) (op := (Go.Op.store 118 (Go.Operand.tmp 41) (Go.Operand.tmp 39))) (by rfl) (by kernel_rfl) (ex_store RS'.out (by rfl) (by rfl)) (.inl (by rfl)) ?_; (try simp only [Act.put, List.setIfInBounds_toArray, List.set_cons_zero, List.set_cons_succ]))
        refine wpAnyM_done (by kernel_rfl) ?_ _
        refine NoPanic.normal ?_
        go_wp2_with fail
        go_ret
        exact HF.out
    · have t0 : ((D.may c : Int) != 0) = true := by simpa using hm
      have HF := Lib.hid (show RPost w d S (D.step c) (.returned (.int .i64 (D.may c : Nat))) w2 from by
        have : D.step c = (D, D.may c) := by unfold DSt.step; rw [if_neg (by simp [hdn]), if_pos hm]
        rw [this]
        exact ⟨rfl, S, hb2, hU02.mono (by simp), Sub.refl _ _⟩)
      clear hm hdn
      go_wp2_with fail
      go_ret
      exact HF.out

set_option maxRecDepth 100000 in
set_option maxHeartbeats 2000000 in
theorem rd_sync (w : World) (d : Nat) (S : List Nat) (D : DSt) (h : RDiskAt w d S D) :
    Calls Tryz.prog 66 #[.pointer (some ⟨d, 0, none⟩)] w (RPost w d S D.sync) := by
  have hd5 : w.cell? ⟨d, 5, none⟩ = some (.bool D.down) := by
    obtain ⟨nv, sv, lv, cells, _, hd, _⟩ := h.ex
    rw [cell_lit w _ 5 _ _ _ hd]; rfl
  have hdS : d ∈ S := by obtain ⟨_, _, _, _, hS, _⟩ := h.ex; rw [hS]; simp
  have hPW := rd_power w d S D h
  cases hdn : D.down with
  | true =>
    have HF := Lib.hid (show RPost w d S D.sync (.returned (.int .i64 5)) w from by
      have : D.sync = (D, 5) := by unfold DSt.sync; rw [if_pos hdn]
      rw [this]
      exact ⟨rfl, S, h, Upd.refl _ _, Sub.refl _ _⟩)
    rw [hdn] at hd5
    clear hdn hPW h
    go_enter Tryz.func66, Tryz.ntmps66
    go_wp2_with fail
    go_ret
    exact HF.out
  | false =>
    rw [hdn] at hd5
    by_cases hf : D.fuse = 0
    · have hst : D.sync = (D.spend.1, 5) := by unfold DSt.sync DSt.spend; rw [if_neg (by simp [hdn]), if_pos hf, if_pos hf]
      have HP := Lib.hid (show Calls Tryz.prog 132 #[.pointer (some ⟨d, 0, none⟩)] w (fun e w' => e = .returned (.bool false) ∧ RPost w d S D.sync (.returned (.int .i64 5)) w') from hPW.mono (by
        rintro e w' ⟨rfl, h1, h2⟩
        rw [hst]
        exact ⟨by rw [hf]; rfl, rfl, S, h1, h2.mono (fun i hi _ => by simp at hi; subst hi; exact hdS), Sub.refl _ _⟩))
      clear hst hf hdn hPW h
      go_enter Tryz.func66, Tryz.ntmps66
      go_wp2_with fail
      refine HP.out.mono ?_
      rintro e w2 ⟨rfl, h2⟩
      have H2 := Lib.hid h2
      clear h2
      go_wp2_with fail
      go_ret
      exact H2.out
    · have hsp : D.spend.1 = { D with fuse := burn D.fuse } := by unfold DSt.spend; rw [if_neg hf]
      have hst : D.sync = ({ D with fuse := burn D.fuse, sure := D.now, loose := [] }, 0) := by unfold DSt.sync; rw [if_neg (by simp [hdn]), if_neg hf]
      have hinv := h.inv.sync
      rw [hst] at hinv
      have HST := Lib.hid hst; have HINV := Lib.hid hinv; have HMO := Lib.hid h.most
      have HP := Lib.hid (show Calls Tryz.prog 132 #[.pointer (some ⟨d, 0, none⟩)] w (fun e w' => e = .returned (.bool true) ∧ RDiskAt w' d S { D with fuse := burn D.fuse } ∧ Upd [d] w w') from hPW.mono (by rintro e w' ⟨rfl, h1, h2⟩; exact ⟨by rw [decide_eq_true hf], hsp ▸ h1, h2⟩))
      clear hst hf hdn hPW hsp hinv h
      go_enter Tryz.func66, Tryz.ntmps66
      go_wp2_with fail
      refine HP.out.mono ?_
      rintro e w2 ⟨rfl, h2, hU2⟩
      obtain ⟨nv, sv, lv, cells, hS, hd2, hfn, hfs, hown, hcc⟩ := h2.ex
      dsimp only at hd2 hfn hfs hown hcc
      obtain ⟨no, nc, hns⟩ := hfn.shape
      subst hns
      obtain ⟨lo, lc, hls, _⟩ := (Rd.of_own hown).shape
      subst hls
      obtain ⟨so, sc, hss⟩ := hfs.shape
      subst hss
      have c1 : w2.cell? ⟨d, 1, none⟩ = some (.slice no D.now.length nc) := by rw [cell_lit w2 _ 1 _ _ _ hd2]; rfl
      have c2 : w2.cell? ⟨d, 2, none⟩ = some (.slice so D.sure.length sc) := by rw [cell_lit w2 _ 2 _ _ _ hd2]; rfl
      have c3 : w2.cell? ⟨d, 3, none⟩ = some (.slice lo D.loose.length lc) := by rw [cell_lit w2 _ 3 _ _ _ hd2]; rfl
      have f2 := frozen_lit w2 d 2 _ _ hd2
      have f3 := frozen_lit w2 d 3 _ _ hd2
      have HF := Lib.hid (show RPost w d S D.sync (.returned (.int .i64 (0 : Nat))) ((w2.setCell ⟨d, 2, none⟩ (.slice no D.now.length nc)).setCell ⟨d, 3, none⟩ (.slice none 0 0)) from by
        rw [HST.out]
        have o8 : Off w2 5 [d] := Off.cons_cells hd2 (by decide) (Off.nil _ _)
        have oF : Off w2 138 [d] := Off.cons_cells hd2 (by decide) (Off.nil _ _)
        have s1 : Upd [d] w2 (w2.setCell ⟨d, 2, none⟩ (.slice no D.now.length nc)) := Upd.setCell _ _ _ (by simp)
        have g1 := setCell_get (i := 2) hd2 (.slice no D.now.length nc)
        have s2 : Upd [d] (w2.setCell ⟨d, 2, none⟩ (.slice no D.now.length nc)) ((w2.setCell ⟨d, 2, none⟩ (.slice no D.now.length nc)).setCell ⟨d, 3, none⟩ (.slice none 0 0)) := Upd.setCell _ _ _ (by simp)
        have g2 := setCell_get (i := 3) g1 (.slice none 0 0)
        have s12 := s1.trans s2 (fun i hi _ => hi)
        refine ⟨rfl, [d], ⟨⟨_, _, .slice none 0 0, [], rfl, g2, hfn.upd s12 o8 oF, hfn.upd s12 o8 oF, World.ownsRow_nil _ _ _ _, trivial⟩, HINV.out, by have := HMO.out; have := HINV.out.fuse; show burn D.fuse ≤ _; unfold burn; split <;> omega, fun i c h => by simp at h⟩, (hU2.mono (T := S) (fun i hi _ => by simp at hi; subst hi; exact hdS)).trans s12 (fun i hi _ => by simp at hi; subst hi; exact hdS), fun k hk => by simp at hk; subst hk; exact .inl hdS⟩)
      clear hd2 hfn hfs hown hcc hS h2 hU2 HP
      go_wp2_with fail
      go_ret
      exact HF.out
end Go.Proofs.YthfbfdkjgkkpcaaGreat

namespace Go.Proofs.YthfbfdkjgkkpcaaGreat
open Go Go.RowKit

theorem own_away {w : World} {B e sz n : Nat} {v : Value} {xs : List Value} (h : w.ownsRow B e sz v n xs) {S : List Nat} (hS : Off w e S) : Away v S := by
  intro g hg hm
  rcases h.2 with ⟨rfl, _⟩ | ⟨g', cap, cur, rfl, _, hg', _⟩
  · simp [Value.ownBlock] at hg
  · simp [Value.ownBlock] at hg
    subst hg
    exact hS _ hm _ _ hg'
/-- Block j is the document's journal on the disk d; S: the blocks that it turns. -/
structure RJAt (w : World) (d j : Nat) (S : List Nat) (J : JSt) (recs : List (List UInt8)) : Prop where
  ex : ∃ rv cells S0, S = j :: (rv.ownBlock.toList ++ S0) ∧ RDiskAt w d S0 J.D ∧ w.heap[j]? = some (.cells #[.pointer (some ⟨d, 0, none⟩), encS J.name, rv] 70 (0, 0)) ∧
    w.ownsRow 0 36 1 rv recs.length cells ∧ BCells w cells recs
theorem RJAt.off {w : World} {d j : Nat} {S : List Nat} {J : JSt} {recs : List (List UInt8)} (h : RJAt w d j S J recs) {e : TypeId} (h1 : 120 ≠ e) (h2 : 136 ≠ e) (h3 : 70 ≠ e) (h4 : 36 ≠ e) : Off w e S := by
  obtain ⟨rv, cells, S0, rfl, hD, hj, ho, hc⟩ := h.ex
  have o1 := hD.off h1 h2
  have o2 : Off w e rv.ownBlock.toList := own_off ho h4
  refine Off.cons_cells hj h3 ?_
  intro k hk
  rcases List.mem_append.1 hk with hk | hk
  · exact o2 k hk
  · exact o1 k hk
theorem RJAt.lt {w : World} {d j : Nat} {S : List Nat} {J : JSt} {recs : List (List UInt8)} (h : RJAt w d j S J recs) : ∀ k ∈ S, k < w.heap.size := by
  obtain ⟨rv, cells, S0, rfl, hD, hj, ho, hc⟩ := h.ex
  intro k hk
  simp only [List.mem_cons, List.mem_append, Option.mem_toList] at hk
  rcases hk with rfl | hk | hk
  · exact lt_of_get hj
  · exact (ho.lt k hk).2
  · exact hD.lt k hk
theorem RJAt.upd {S T : List Nat} {w w' : World} {d j : Nat} {J : JSt} {recs : List (List UInt8)} (h : RJAt w d j S J recs) (hU : Upd T w w') (h8 : Off w 5 T) (hf : Off w 138 T) (hn : ∀ k ∈ S, k ∉ T) : RJAt w' d j S J recs := by
  obtain ⟨rv, cells, S0, rfl, hD, hj, ho, hc⟩ := h.ex
  exact ⟨rv, cells, S0, rfl, hD.upd hU h8 hf (fun k hk => hn k (by simp [hk])), hU.get hj (hn j (by simp)), Own.upd ho hU (fun g hg => hn g (by simp [hg])), hc.upd hU h8⟩
theorem RJAt.upd0 {S : List Nat} {w w' : World} {d j : Nat} {J : JSt} {recs : List (List UInt8)} (h : RJAt w d j S J recs) (hU : Upd [] w w') : RJAt w' d j S J recs := h.upd hU (Off.nil _ _) (Off.nil _ _) (fun _ _ hm => by cases hm)
/-- What a call of the disk below leaves of a journal. -/
theorem rj_below {w w' : World} {d j : Nat} {rv : Value} {cells : List Value} {S0 S' : List Nat} {D D' : DSt} {J : JSt} {recs : List (List UInt8)} (hD : RDiskAt w d S0 D) (hj : w.heap[j]? = some (.cells #[.pointer (some ⟨d, 0, none⟩), encS J.name, rv] 70 (0, 0)))
    (ho : w.ownsRow 0 36 1 rv recs.length cells) (hc : BCells w cells recs) (hU : Upd S0 w w') (hD' : RDiskAt w' d S' D') (hs : Sub w S0 S') (J' : JSt) (hJD : J'.D = D') (hJN : J'.name = J.name) :
    RJAt w' d j (j :: (rv.ownBlock.toList ++ S')) J' recs ∧ w'.heap[j]? = some (.cells #[.pointer (some ⟨d, 0, none⟩), encS J.name, rv] 70 (0, 0)) ∧ w'.ownsRow 0 36 1 rv recs.length cells ∧ BCells w' cells recs ∧
      Upd (j :: (rv.ownBlock.toList ++ S0)) w w' ∧ Sub w (j :: (rv.ownBlock.toList ++ S0)) (j :: (rv.ownBlock.toList ++ S')) := by
  have hjn : j ∉ S0 := not_mem_off (hD.off (e := 70) (by decide) (by decide)) hj
  have h1 := hU.get hj hjn
  have h2 := Own.upd ho hU (own_away ho (hD.off (by decide) (by decide)))
  have h3 := hc.upd hU hD.off8
  refine ⟨⟨rv, cells, S', rfl, hJD ▸ hD', by rw [hJN]; exact h1, h2, h3⟩, h1, h2, h3, hU.mono (fun i hi _ => by simp [hi]), ?_⟩
  intro k hk
  simp only [List.mem_cons, List.mem_append] at hk ⊢
  rcases hk with rfl | hk | hk
  · simp
  · simp [hk]
  · rcases hs k hk with h4 | h4
    · simp [h4]
    · exact .inr h4
def RJPost (w : World) (d j : Nat) (S : List Nat) (r : JSt × Nat) (recs : List (List UInt8)) (e : Ending) (w' : World) : Prop :=
  e = .returned (.int .i64 r.2) ∧ ∃ S', RJAt w' d j S' r.1 recs ∧ Upd S w w' ∧ Sub w S S'
def RzRel (w : World) (l : List (List UInt8)) (x n : Value) (wr : World) : Prop := ∃ i : Nat, x = .int .i64 i ∧ i ≤ l.length ∧ n = .int .i64 ((framesB (l.take i)).length : Nat) ∧ wr = w
theorem framesB_append (a b : List (List UInt8)) : framesB (a ++ b) = framesB a ++ framesB b := by unfold framesB; simp
theorem framesB_take (l : List (List UInt8)) (i : Nat) : (framesB (l.take i)).length ≤ (framesB l).length := by
  have := framesB_append (l.take i) (l.drop i)
  rw [List.take_append_drop] at this
  rw [this, List.length_append]; omega
set_option maxRecDepth 100000 in
theorem rj_size (w : World) (v : Value) (l : List (List UInt8)) (hl : Recs w v l) (hn : l.length ≤ 1000000000) (hb : (framesB l).length ≤ 1000000000) :
    Calls Tryz.prog 29 #[v] w fun e w' => e = .returned (.int .i64 ((framesB l).length : Nat)) ∧ w = w' := by
  obtain ⟨cells, hR, hC⟩ := hl
  obtain ⟨ao, cap, rfl, _⟩ := hR.shape
  have HN9 := Lib.hid hn; have HB := Lib.hid hb; clear hn hb
  go_enter Tryz.func29, Tryz.ntmps29
  go_wp2_with fail
  go_loopw [4, 3] (fun x n wr => RzRel w l x n wr) (fun x _ _ => l.length - (intOf x).toNat)
  case atStart => exact ⟨0, rfl, Nat.zero_le _, rfl, rfl⟩
  case round =>
    obtain ⟨i, rfl, hi, rfl, rfl⟩ := hrel
    have hll := HN9.out
    have hul := HB.out
    by_cases hlt : i < l.length
    · have htt : decide ((i : Int) < (l.length : Int)) = true := by simp; omega
      obtain ⟨p, hp⟩ : ∃ p, l[i]? = some p := ⟨_, List.getElem?_eq_getElem hlt⟩
      obtain ⟨pv, g0, hpv⟩ := hC.get hp
      obtain ⟨aq, cq, hsq⟩ := By.val hpv
      subst hsq
      have hsum : (framesB (l.take (i + 1))).length = (framesB (l.take i)).length + 8 + p.length := by
        rw [List.take_add_one, hp, framesB_append, List.length_append]
        simp [framesB, frameB_length]
        omega
      have hle := framesB_take l (i + 1)
      rw [hsum] at hle
      have HS := Lib.hid hsum
      generalize (framesB (l.take i)).length = u at *
      clear hp hsum hi
      go_wp2_with ((with_reducible show wpList _ _ _ (⟨_, .indexAddr _ _ _, _, _, _, _⟩ :: _) _ _); refine wpl_indexAddr1 elRec rfl rfl hR rfl rfl (by omega) (by omega) (.slice aq p.length cq) (by rw [Int.toNat_natCast]; exact g0) ?_; intro ad hcell)
      exact ⟨⟨i + 1, by simp, hlt, by rw [HS.out]; simp, rfl⟩, by simp [intOf]; omega⟩
    · have htt : decide ((i : Int) < (l.length : Int)) = false := by simp; omega
      have hie : i = l.length := by omega
      have HF := Lib.hid (show (framesB (l.take i)).length = (framesB l).length by rw [hie, List.take_length])
      clear hie hi
      go_wp2_with fail
      go_ret
      exact ⟨by rw [HF.out]; rfl, rfl⟩
theorem rrecs_push (w : World) (d j : Nat) (rv : Value) (cells : List Value) (S1 : List Nat) (J : JSt) (recs : List (List UInt8)) (p : List UInt8) (ao : Option Addr) (cap : Nat) (hD : RDiskAt w d S1 J.D) (hj : w.heap[j]? = some (.cells #[.pointer (some ⟨d, 0, none⟩), encS J.name, rv] 70 (0, 0)))
    (ho : w.ownsRow 0 36 1 rv recs.length cells) (hc : BCells w cells recs) (hp : By w (.slice ao p.length cap) p) (hl : recs.length ≤ 999000000) :
    ∃ v5 w5 v6 w6, (Instr.buildSlice 22 1 #[(0, .slice ao p.length cap)]).run Tryz.prog w = .ok v5 w5 ∧ (Builtin.append_ #[22, 22] 0 #[rv, v5]).run Tryz.prog w5 = .ok v6 w6 ∧ (∃ o n c, v6 = .slice o n c) ∧ Upd [] w w5 ∧ Upd rv.ownBlock.toList w w6 ∧
      w6.cell? ⟨j, 2, none⟩ = some rv ∧ w6.frozen? ⟨j, 2, none⟩ = false ∧ RJAt (w6.setCell ⟨j, 2, none⟩ v6) d j (j :: (v6.ownBlock.toList ++ S1)) J (recs ++ [p]) ∧ Upd (j :: rv.ownBlock.toList) w (w6.setCell ⟨j, 2, none⟩ v6) ∧ (∀ k, v6.ownBlock = some k → rv.ownBlock = some k ∨ w.heap.size ≤ k) := by
  obtain ⟨v5, w5, hr5, hv5, hU5⟩ := lit_row (P := Tryz.prog) elRec w (.slice ao p.length cap) (cs := [.slice ao p.length cap]) rfl rfl (by omega)
  have ho5 := Own.upd0 ho hU5
  have hj5 := hU5.get hj (by simp)
  have hD5 := hD.upd0 hU5
  obtain ⟨v6, w6, r1, r2, r3, r4⟩ := run_append_rd (P := Tryz.prog) (ty := 0) elRec ho5 hv5 (by intro u hu; simp at hu; subst hu; rfl) (by unfold maxLen; omega) (by omega) (Nat.zero_le _)
  have hU6 : Upd rv.ownBlock.toList w5 w6 := Upd.grown r3 (fun k hk => by rw [hk]; simp)
  have o8 : Off w5 5 rv.ownBlock.toList := own_off ho5 (by decide)
  have oF : Off w5 138 rv.ownBlock.toList := own_off ho5 (by decide)
  have haw := own_away ho5 (hD5.off (e := 36) (by decide) (by decide))
  have jn : j ∉ rv.ownBlock.toList := by intro hm; exact own_ne_cells hj5 ho5 (by decide) j (by simpa using hm) rfl
  have hj6 := hU6.get hj5 jn
  have hD6 := hD5.upd hU6 o8 oF (fun k hk hm => haw k (by simpa using hm) hk)
  have hc6 := (hc.upd hU5 (Off.nil _ _)).upd hU6 o8
  have hp6 := (hp.upd0 hU5).upd hU6 o8
  have hU7 : Upd [j] w6 (w6.setCell ⟨j, 2, none⟩ v6) := Upd.setCell _ _ _ (by simp)
  have q8 : Off w6 5 [j] := Off.cons_cells hj6 (by decide) (Off.nil _ _)
  have qF : Off w6 138 [j] := Off.cons_cells hj6 (by decide) (Off.nil _ _)
  have hjS : j ∉ S1 := not_mem_off (hD6.off (e := 70) (by decide) (by decide)) hj6
  have hv6j := own_ne_cells hj6 r2 (by decide)
  have hU06 := hU5.mono (T := rv.ownBlock.toList) (by simp) |>.trans hU6 (fun i hi _ => hi)
  refine ⟨v5, w5, v6, w6, hr5, r1, (by obtain ⟨o, c, h9, _⟩ := (Rd.of_own r2).shape; exact ⟨o, _, c, h9⟩), hU5, hU06, ?_, frozen_lit w6 j 2 _ _ hj6, ⟨v6, cells ++ [.slice ao p.length cap], S1, rfl, hD6.upd hU7 q8 qF (fun k hk hm => by simp at hm; subst hm; exact hjS hk), ?_, ?_, ?_⟩, ?_, ?_⟩
  · rw [cell_lit w6 j 2 _ _ _ hj6]; rfl
  · rw [setCell_get hj6]; rfl
  · rw [List.length_append]
    exact Own.upd r2 hU7 (fun g hg => by simp; exact hv6j g hg)
  · have hd : BCells w6 [.slice ao p.length cap] [p] := ⟨hp6, trivial⟩
    exact (hd.append hc6).upd hU7 q8
  · exact (hU06.mono (T := j :: rv.ownBlock.toList) (fun i hi _ => List.mem_cons_of_mem _ hi)).trans hU7 (fun i hi _ => by simp at hi; subst hi; simp)
  · intro k hk
    rcases r4 with r4 | r4
    · left; rw [← r4]; exact hk
    · right
      rw [r4] at hk
      have : w5.heap.size = k := Option.some.inj hk
      rw [← this]; exact hU5.size
/-- The records behind an Append. -/
def pushIf (k : Nat) (recs : List (List UInt8)) (p : List UInt8) : List (List UInt8) := if k = 0 then recs ++ [p] else recs
/-- The name stays short: what a journal's calls take. -/
structure Fit (D : DSt) (name : List UInt8) (n : Nat) : Prop where
  small : Small D n
  name : name.length ≤ 1000
set_option maxRecDepth 100000 in
set_option maxHeartbeats 2000000 in
theorem rj_append (w : World) (d j : Nat) (S : List Nat) (J : JSt) (recs : List (List UInt8)) (h : RJAt w d j S J recs) (pv : Value) (p : List UInt8) (hpk : ∀ W', Upd S w W' → ByX W' pv p) (hpl : p.length ≤ 999999000) (hf : Fit J.D J.name 999000000) (hrl : recs.length ≤ 999000000) :
    Calls Tryz.prog 16 #[.pointer (some ⟨j, 0, none⟩), pv] w (RJPost w d j S (J.append p) (pushIf (J.append p).2 recs p)) := by
  have hp := hpk w (Upd.refl _ _)
  obtain ⟨po, pc, rfl, _⟩ := hp.shape
  by_cases h8 : 1048568 < p.length
  · have t8 : decide ((1048568 : Int) < (p.length : Int)) = true := by simp; omega
    have HF := Lib.hid (show RJPost w d j S (J.append p) (pushIf (J.append p).2 recs p) (.returned (.int .i64 (8 : Nat))) w from by
      have : J.append p = (J, 8) := by unfold JSt.append; rw [if_pos h8]
      rw [this]
      exact ⟨rfl, S, h, Upd.refl _ _, Sub.refl _ _⟩)
    clear h8 h
    go_enter Tryz.func16, Tryz.ntmps16
    go_wp2_with fail
    go_ret
    exact HF.out
  · have t8 : decide ((1048568 : Int) < (p.length : Int)) = false := by simp; omega
    obtain ⟨rv, cells, S0, hS, hD, hj, ho, hc⟩ := h.ex
    have HFR := Lib.hid (rf_frame w.drew _ p (hp.upd0 (Upd.drew [] w)) (by omega))
    have HFL := Lib.hid (frameB_length p)
    have hJ : J.append p = if (J.D.step ⟨1, J.name, [], frameB p⟩).2 = 0 then ({ J with D := (J.D.step ⟨1, J.name, [], frameB p⟩).1, size := J.size + (8 + p.length) }, 0) else ({ J with D := (J.D.step ⟨1, J.name, [], frameB p⟩).1 }, (J.D.step ⟨1, J.name, [], frameB p⟩).2) := by
      unfold JSt.append
      rw [if_neg h8, DSt.append_step]
    have HST := Lib.hid (fun (W : World) (v : Value) (hU : Upd [] w W) (hv : By W v (frameB p)) => rd_step W d S0 J.D (hD.upd0 hU) ⟨1, J.name, [], frameB p⟩ v (by simp) hv (by have := hf.small.1; omega) (by have := hf.small.2; omega) (by rw [HFL.out]; omega) (by have := hf.name; show J.name.length ≤ _; omega) (by simp) (by simp))
    have HJ := Lib.hid hJ
    have c0 : w.drew.cell? ⟨j, 0, none⟩ = some (.pointer (some ⟨d, 0, none⟩)) := by show w.cell? _ = _; rw [cell_lit w _ 0 _ _ _ hj]; rfl
    have c1 : w.drew.cell? ⟨j, 1, none⟩ = some (encS J.name) := by show w.cell? _ = _; rw [cell_lit w _ 1 _ _ _ hj]; rfl
    have hS0 : w.drew.cell? ⟨j, 0, none⟩ = some (.pointer (some ⟨d, 0, none⟩)) ∧ w.drew.cell? ⟨j, 1, none⟩ = some (encS J.name) := ⟨c0, c1⟩
    have hjn : j ∉ S0 := not_mem_off (hD.off (e := 70) (by decide) (by decide)) hj
    have HRL := Lib.hid hrl
    generalize hr : J.D.step ⟨1, J.name, [], frameB p⟩ = r at *
    obtain ⟨D2, k⟩ := r
    dsimp only at HJ
    have HJN := Lib.hid hjn; have HS := Lib.hid hS
    clear hJ hr h8 h c0 c1 hjn hS hf hrl
    go_enter Tryz.func16, Tryz.ntmps16
    go_wp2_with fail
    refine wp_region_H (fun W => W.cell? ⟨j, 0, none⟩ = some (.pointer (some ⟨d, 0, none⟩)) ∧ W.cell? ⟨j, 1, none⟩ = some (encS J.name)) (by kernel_rfl) ?_
    (refine wpAnyH_takeO (i := 0) (dst := (some 9)) (op := (Go.Op.move (Go.Operand.tmp 0))) (v := ?_) (by rfl) (by kernel_rfl) (by kernel_rfl) (by kernel_rfl) (fun _ _ _ h => h) ?_ hS0 ?_; rotate_left; (focus (intro _ _ _ W HW; (try dsimp only at HW); go_simp; (try with_reducible rfl))); (try simp only [Act.put, List.setIfInBounds_toArray, List.set_cons_zero, List.set_cons_succ]))
    (refine wpAnyH_takeO (i := 1) (dst := (some 10)) (op := (Go.Op.nilCheck (Go.Operand.tmp 9))) (v := ?_) (by rfl) (by kernel_rfl) (by kernel_rfl) (by kernel_rfl) (fun _ _ _ h => h) ?_ hS0 ?_; rotate_left; (focus (intro _ _ _ W HW; (try dsimp only at HW); go_simp; (try with_reducible rfl))); (try simp only [Act.put, List.setIfInBounds_toArray, List.set_cons_zero, List.set_cons_succ]))
    (refine wpAnyH_takeO (i := 2) (dst := (some 11)) (op := (Go.Op.fieldAddr 70 (Go.Operand.tmp 10) 0)) (v := ?_) (by rfl) (by kernel_rfl) (by kernel_rfl) (by kernel_rfl) (fun _ _ _ h => h) ?_ hS0 ?_; rotate_left; (focus (intro _ _ _ W HW; (try dsimp only at HW); go_simp; (try with_reducible rfl))); (try simp only [Act.put, List.setIfInBounds_toArray, List.set_cons_zero, List.set_cons_succ]))
    (refine wpAnyH_takeO (i := 3) (dst := (some 12)) (op := (Go.Op.load 27 (Go.Operand.tmp 11))) (v := ?_) (by rfl) (by kernel_rfl) (by kernel_rfl) (by kernel_rfl) (fun _ _ _ h => h) ?_ hS0 ?_; rotate_left; (focus (intro _ _ _ W HW; (try dsimp only at HW); go_simp; (try with_reducible rfl))); (try simp only [Act.put, List.setIfInBounds_toArray, List.set_cons_zero, List.set_cons_succ]))
    (refine wpAnyH_takeO (i := 4) (dst := (some 13)) (op := (Go.Op.move (Go.Operand.tmp 0))) (v := ?_) (by rfl) (by kernel_rfl) (by kernel_rfl) (by kernel_rfl) (fun _ _ _ h => h) ?_ hS0 ?_; rotate_left; (focus (intro _ _ _ W HW; (try dsimp only at HW); go_simp; (try with_reducible rfl))); (try simp only [Act.put, List.setIfInBounds_toArray, List.set_cons_zero, List.set_cons_succ]))
    (refine wpAnyH_takeO (i := 5) (dst := (some 14)) (op := (Go.Op.nilCheck (Go.Operand.tmp 13))) (v := ?_) (by rfl) (by kernel_rfl) (by kernel_rfl) (by kernel_rfl) (fun _ _ _ h => h) ?_ hS0 ?_; rotate_left; (focus (intro _ _ _ W HW; (try dsimp only at HW); go_simp; (try with_reducible rfl))); (try simp only [Act.put, List.setIfInBounds_toArray, List.set_cons_zero, List.set_cons_succ]))
    (refine wpAnyH_takeO (i := 6) (dst := (some 15)) (op := (Go.Op.fieldAddr 70 (Go.Operand.tmp 14) 1)) (v := ?_) (by rfl) (by kernel_rfl) (by kernel_rfl) (by kernel_rfl) (fun _ _ _ h => h) ?_ hS0 ?_; rotate_left; (focus (intro _ _ _ W HW; (try dsimp only at HW); go_simp; (try with_reducible rfl))); (try simp only [Act.put, List.setIfInBounds_toArray, List.set_cons_zero, List.set_cons_succ]))
    (refine wpAnyH_takeO (i := 7) (dst := (some 16)) (op := (Go.Op.load 9 (Go.Operand.tmp 15))) (v := ?_) (by rfl) (by kernel_rfl) (by kernel_rfl) (by kernel_rfl) (fun _ _ _ h => h) ?_ hS0 ?_; rotate_left; (focus (intro _ _ _ W HW; (try dsimp only at HW); go_simp; (try with_reducible rfl))); (try simp only [Act.put, List.setIfInBounds_toArray, List.set_cons_zero, List.set_cons_succ]))
    (refine wpAnyH_takeO (i := 8) (dst := (some 17)) (op := (Go.Op.move (Go.Operand.tmp 1))) (v := ?_) (by rfl) (by kernel_rfl) (by kernel_rfl) (by kernel_rfl) (fun _ _ _ h => h) ?_ hS0 ?_; rotate_left; (focus (intro _ _ _ W HW; (try dsimp only at HW); go_simp; (try with_reducible rfl))); (try simp only [Act.put, List.setIfInBounds_toArray, List.set_cons_zero, List.set_cons_succ]))
    refine wpAnyH_call (i := 9) (dst := (some 18)) (op := (Go.Op.call { callee := (Go.Callee.value (Go.Operand.func 74)), args := #[(Go.Operand.tmp 17)], argTypes := #[36] })) (f := 74) (vs := #[.slice po p.length pc]) (by kernel_rfl) (by rfl) (fun _ _ _ => by go_simp) ?_
    refine HFR.out.mono ?_
    rintro e w2 ⟨v2, rfl, hv2, hU2⟩
    obtain ⟨ao2, cap2, hs2⟩ := By.val hv2.by
    subst hs2
    have hS2 : w2.cell? ⟨j, 0, none⟩ = some (.pointer (some ⟨d, 0, none⟩)) ∧ w2.cell? ⟨j, 1, none⟩ = some (encS J.name) := ⟨hU2.cell hS0.1 (by simp), hU2.cell hS0.2 (by simp)⟩
    refine ⟨_, rfl, hS2, ?_⟩
    (try simp only [Act.put, List.setIfInBounds_toArray, List.set_cons_zero, List.set_cons_succ])
    have hU02 := (Upd.drew [] w).trans0 hU2
    (refine wpAnyH_takeO (i := 10) (dst := (some 19)) (op := (Go.Op.build 136 #[(0, (Go.Operand.const (Go.Value.int Go.IntKind.i64 1))), (1, (Go.Operand.tmp 16)), (3, (Go.Operand.tmp 18))])) (v := ?_) (by rfl) (by kernel_rfl) (by kernel_rfl) (by kernel_rfl) (fun _ _ _ h => h) ?_ hS2 ?_; rotate_left; (focus (intro _ _ _ W HW; (try dsimp only at HW); go_simp; (try with_reducible rfl))); (try simp only [Act.put, List.setIfInBounds_toArray, List.set_cons_zero, List.set_cons_succ]))
    refine wpAnyH_call (i := 11) (dst := (some 20)) (op := (Go.Op.call { callee := (Go.Callee.value (Go.Operand.func 65)), args := #[(Go.Operand.tmp 12), (Go.Operand.tmp 19)], argTypes := #[27, 136] })) (f := 65) (vs := #[.pointer (some ⟨d, 0, none⟩), .agg #[.int .i64 1, encS J.name, .string ⟨#[]⟩, .slice ao2 (frameB p).length cap2]]) (by kernel_rfl) (by rfl) (fun _ _ _ => by go_simp) ?_
    refine (HST.out w2 _ hU02 hv2.by).mono ?_
    rintro e w3 ⟨rfl, S1, hD3, hU3, hs3⟩
    have hS3 : w3.cell? ⟨j, 0, none⟩ = some (.pointer (some ⟨d, 0, none⟩)) ∧ w3.cell? ⟨j, 1, none⟩ = some (encS J.name) := ⟨hU3.cell hS2.1 HJN.out, hU3.cell hS2.2 HJN.out⟩
    refine ⟨_, rfl, hS3, ?_⟩
    (try simp only [Act.put, List.setIfInBounds_toArray, List.set_cons_zero, List.set_cons_succ])
    (refine wpAnyH_takeO (i := 12) (dst := (some 5)) (op := (Go.Op.assign (Go.Operand.tmp 20))) (v := ?_) (by rfl) (by kernel_rfl) (by kernel_rfl) (by kernel_rfl) (fun _ _ _ h => h) ?_ hS3 ?_; rotate_left; (focus (intro _ _ _ W HW; (try dsimp only at HW); go_simp; (try with_reducible rfl))); (try simp only [Act.put, List.setIfInBounds_toArray, List.set_cons_zero, List.set_cons_succ]))
    refine wpAnyH_done (by kernel_rfl) ?_ _
    dsimp only at hD3
    have hp3 : ByX w3 (.slice po p.length pc) p := hpk w3 ((hU02.mono (T := S) (by simp)).trans hU3 (fun i hi _ => by rw [HS.out]; simp [hi]))
    have hbl := rj_below (J := J) (recs := recs) (hD.upd0 hU02) (hU02.get hj (by simp)) (Own.upd0 ho hU02) (hc.upd hU02 (Off.nil _ _)) hU3 hD3 hs3
    clear hD hj ho hc hv2 hS0 hS2 hS3 HST HFR
    by_cases hk : k = 0
    · subst hk
      rw [if_pos rfl] at HJ
      obtain ⟨_, hj3, ho3, hc3, hUj, hSj⟩ := hbl ⟨D2, J.name, J.size + (8 + p.length)⟩ rfl rfl
      obtain ⟨ro, rc, hrs, _⟩ := (Rd.of_own ho3).shape
      subst hrs
      have cj2 : w3.drew.cell? ⟨j, 2, none⟩ = some (.slice ro recs.length rc) := by show w3.cell? _ = _; rw [cell_lit w3 _ 2 _ _ _ hj3]; rfl
      have HTW := Lib.hid (ref_Twin w3.drew _ p (hp3.upd0 (Upd.drew [] w3)) (by omega))
      have HRP := Lib.hid (fun (W : World) (hU : Upd [] w3 W) (o : Option Addr) (c : Nat) (hpv : By W (.slice o p.length c) p) => rrecs_push W d j _ cells S1 ⟨D2, J.name, J.size + (8 + p.length)⟩ recs p o c (hD3.upd0 hU) (hU.get hj3 (by simp)) (Own.upd0 ho3 hU) (hc3.upd hU (Off.nil _ _)) hpv HRL.out)
      clear hbl hj3 ho3 hc3 hD3 hs3 hU3 hp3
      go_wp2_with fail
      refine wp_region_noPanic ?_
      refine wp_region_M 11 (fun W => W.cell? ⟨j, 2, none⟩ = some (.slice ro recs.length rc)) (by kernel_rfl) ?_
      (refine wpAnyM_takeO (i := 0) (dst := (some 23)) (op := (Go.Op.move (Go.Operand.tmp 0))) (v := ?_) (by rfl) (by kernel_rfl) (by kernel_rfl) (by kernel_rfl) (by kernel_rfl) (by rfl) (fun _ _ _ h => h) ?_ cj2 ?_; rotate_left; (focus (intro _ _ _ W HW; (try dsimp only at HW); go_simp; (try with_reducible rfl))); (try simp only [Act.put, List.setIfInBounds_toArray, List.set_cons_zero, List.set_cons_succ]))
      (refine wpAnyM_takeO (i := 1) (dst := (some 24)) (op := (Go.Op.move (Go.Operand.tmp 0))) (v := ?_) (by rfl) (by kernel_rfl) (by kernel_rfl) (by kernel_rfl) (by kernel_rfl) (by rfl) (fun _ _ _ h => h) ?_ cj2 ?_; rotate_left; (focus (intro _ _ _ W HW; (try dsimp only at HW); go_simp; (try with_reducible rfl))); (try simp only [Act.put, List.setIfInBounds_toArray, List.set_cons_zero, List.set_cons_succ]))
      (refine wpAnyM_takeO (i := 2) (dst := (some 25)) (op := (Go.Op.nilCheck (Go.Operand.tmp 24))) (v := ?_) (by rfl) (by kernel_rfl) (by kernel_rfl) (by kernel_rfl) (by kernel_rfl) (by rfl) (fun _ _ _ h => h) ?_ cj2 ?_; rotate_left; (focus (intro _ _ _ W HW; (try dsimp only at HW); go_simp; (try with_reducible rfl))); (try simp only [Act.put, List.setIfInBounds_toArray, List.set_cons_zero, List.set_cons_succ]))
      (refine wpAnyM_takeO (i := 3) (dst := (some 26)) (op := (Go.Op.fieldAddr 70 (Go.Operand.tmp 25) 2)) (v := ?_) (by rfl) (by kernel_rfl) (by kernel_rfl) (by kernel_rfl) (by kernel_rfl) (by rfl) (fun _ _ _ h => h) ?_ cj2 ?_; rotate_left; (focus (intro _ _ _ W HW; (try dsimp only at HW); go_simp; (try with_reducible rfl))); (try simp only [Act.put, List.setIfInBounds_toArray, List.set_cons_zero, List.set_cons_succ]))
      (refine wpAnyM_takeO (i := 4) (dst := (some 27)) (op := (Go.Op.load 22 (Go.Operand.tmp 26))) (v := ?_) (by rfl) (by kernel_rfl) (by kernel_rfl) (by kernel_rfl) (by kernel_rfl) (by rfl) (fun _ _ _ h => h) ?_ cj2 ?_; rotate_left; (focus (intro _ _ _ W HW; (try dsimp only at HW); go_simp; (try with_reducible rfl))); (try simp only [Act.put, List.setIfInBounds_toArray, List.set_cons_zero, List.set_cons_succ]))
      (refine wpAnyM_takeO (i := 5) (dst := (some 28)) (op := (Go.Op.move (Go.Operand.tmp 1))) (v := ?_) (by rfl) (by kernel_rfl) (by kernel_rfl) (by kernel_rfl) (by kernel_rfl) (by rfl) (fun _ _ _ h => h) ?_ cj2 ?_; rotate_left; (focus (intro _ _ _ W HW; (try dsimp only at HW); go_simp; (try with_reducible rfl))); (try simp only [Act.put, List.setIfInBounds_toArray, List.set_cons_zero, List.set_cons_succ]))
      refine wpAnyM_one (i := 6) (by kernel_rfl) ?_
      refine opM_call (i := 6) (dst := (some 29)) (op := (Go.Op.call { callee := (Go.Callee.value (Go.Operand.func 48)), args := #[(Go.Operand.tmp 28)], argTypes := #[36] })) (f := 48) (vs := #[.slice po p.length pc]) (by rfl) (fun _ _ _ => by go_simp) ?_
      refine HTW.out.mono ?_
      rintro e w4 ⟨v4, rfl, hv4, hU4⟩
      obtain ⟨ao4, cap4, hs4⟩ := By.val hv4.by
      subst hs4
      have hU34 := (Upd.drew [] w3).trans0 hU4
      have cj4 := hU4.cell cj2 (by simp)
      refine ⟨_, rfl, .inr cj4, ?_⟩
      (try simp only [Act.put, List.setIfInBounds_toArray, List.set_cons_zero, List.set_cons_succ])
      obtain ⟨v5, w5, v6, w6, hr5, hr6, ⟨o6, n6, c6, hs6⟩, hU45, hU46, cj6, fj6, hRJ, hU47, hown⟩ := HRP.out w4 hU34 ao4 cap4 hv4.by
      subst hs6
      have cj5 := hU45.cell cj4 (by simp)
      have RS := run_store_slice (P := Tryz.prog) (T := 22) (by kernel_rfl) cj6 fj6 o6 n6 c6
      (refine wpAnyM_val (i := 7) (dst := (some 30)) (op := (Go.Op.buildSlice 22 1 #[(0, (Go.Operand.tmp 29))])) (by rfl) (by kernel_rfl) (ex_lit hr5 (by rfl)) (.inr cj5) ?_; (try simp only [Act.put, List.setIfInBounds_toArray, List.set_cons_zero, List.set_cons_succ]))
      (refine wpAnyM_val (i := 8) (dst := (some 31)) (op := (Go.Op.call { callee := (Go.Callee.builtin Go.Builtin.append), args := #[(Go.Operand.tmp 27), (Go.Operand.tmp 30)], argTypes := #[22, 22] })) (by rfl) (by kernel_rfl) (ex_append hr6 (by rfl) (by rfl)) (.inr cj6) ?_; (try simp only [Act.put, List.setIfInBounds_toArray, List.set_cons_zero, List.set_cons_succ]))
      (refine wpAnyM_val (i := 9) (dst := (some 32)) (op := (Go.Op.nilCheck (Go.Operand.tmp 23))) (by rfl) (by kernel_rfl) (fun _ _ _ => by go_simp; rfl) (.inr cj6) ?_; (try simp only [Act.put, List.setIfInBounds_toArray, List.set_cons_zero, List.set_cons_succ]))
      (refine wpAnyM_val (i := 10) (dst := (some 33)) (op := (Go.Op.fieldAddr 70 (Go.Operand.tmp 32) 2)) (by rfl) (by kernel_rfl) (fun _ _ _ => by go_simp; rfl) (.inr cj6) ?_; (try simp only [Act.put, List.setIfInBounds_toArray, List.set_cons_zero, List.set_cons_succ]))
      (refine wpAnyM_skip (i := 11) (dst := none) (op := (Go.Op.store 22 (Go.Operand.tmp 33) (Go.Operand.tmp 31))) (by rfl) (by kernel_rfl) (ex_store RS (by rfl) (by rfl)) (.inl (by rfl)) ?_; (try simp only [Act.put, List.setIfInBounds_toArray, List.set_cons_zero, List.set_cons_succ]))
      refine wpAnyM_done (by kernel_rfl) ?_ _
      refine NoPanic.normal ?_
      have HF := Lib.hid (show RJPost w d j S (J.append p) (pushIf (J.append p).2 recs p) (.returned (.int .i64 (0 : Nat))) (w6.setCell ⟨j, 2, none⟩ (.slice o6 n6 c6)) from by
        rw [HJ.out]
        unfold pushIf
        dsimp only
        rw [if_pos rfl, HS.out]
        have hU03 := (hU02.mono (T := j :: ((Value.slice ro recs.length rc).ownBlock.toList ++ S0)) (by simp)).trans hUj (fun i hi _ => hi)
        refine ⟨rfl, _, hRJ, (hU03.then0 hU34).trans hU47 (fun i hi _ => by simp at hi ⊢; rcases hi with hi | hi <;> simp [hi]), fun q hq => ?_⟩
        simp only [List.mem_cons, List.mem_append, Option.mem_toList] at hq
        rcases hq with rfl | hq | hq
        · exact .inl (by simp)
        · rcases hown q hq with h1 | h1
          · exact .inl (by simp [h1])
          · exact .inr (Nat.le_trans (hU03.then0 hU34).size h1)
        · rcases hSj q (by simp [hq]) with h1 | h1
          · exact .inl h1
          · exact .inr (Nat.le_trans hU02.size h1))
      clear hr5 hr6 hU45 hU46 cj6 fj6 hRJ hU47 hown cj5 cj4 cj2 RS hv4 hU34 hU4 HRP HTW hUj hSj
      go_wp2_with fail
      go_ret
      exact HF.out
    · rw [if_neg hk] at HJ
      obtain ⟨hR, _, _, _, hUj, hSj⟩ := hbl ⟨D2, J.name, J.size⟩ rfl rfl
      have HF := Lib.hid (show RJPost w d j S (J.append p) (pushIf (J.append p).2 recs p) (.returned (.int .i64 (k : Nat))) w3 from by
        rw [HJ.out]
        unfold pushIf
        dsimp only
        rw [if_neg hk, HS.out]
        refine ⟨rfl, _, hR, (hU02.mono (by simp)).trans hUj (fun i hi _ => hi), fun q hq => ?_⟩
        rcases hSj q hq with h1 | h1
        · exact .inl h1
        · exact .inr (Nat.le_trans hU02.size h1))
      have tk : ((k : Int) == 0) = false := by simp; omega
      clear hk hR hUj hSj hbl
      go_wp2_with fail
      go_ret
      exact HF.out
end Go.Proofs.YthfbfdkjgkkpcaaGreat
