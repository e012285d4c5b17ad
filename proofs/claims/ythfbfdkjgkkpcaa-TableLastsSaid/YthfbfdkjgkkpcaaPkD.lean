/-
  The walks of the law's small, Pairs and Is.
  make([]table.Change, n), and a store of a key into one of its elements.
  The walk of the statement TableKeys.
  A table whose disk may lose its power at any step: what holds behind each call. Plain, no Go in sight.
  The walks of the document's Count, Text and Encode.
  The law's scripts: how they read; the disk below a table; Open of a journal that stands on it.
  The walk of the law TableLasts.
  Arguments opened: bytes, and changes, as the walks read them.
  The argument of TableLasts opened: steps of a script, as the walk reads them.
  What every last proof of this seat takes: how the row's condition opens, and what it asks behind the call.
-/
import Derived.Test.YthfbfdkjgkkpcaaPkC
import Derived.Test.YthfbfdkjgkkpcaaPkB
import Derived.Test.YthfbfdkjgkkpcaaPkA
import Derived.ChangeSlices
import Derived.OpenShut
import Derived.ProofKit
import Derived.ChangeMaps5
import Derived.WalkKit
import Derived.Carry
namespace Go.Proofs.Ythfbfdkjgkkpcaa
open Go Go.RowKit

/-- Changes that aren't too many, or too long. -/
def smallB (l : List TChg) : Bool := decide (l.length ≤ 40) && l.all (fun c => decide (c.key.length ≤ 400) && decide (c.val.length ≤ 500))
def SmRel (w : World) (l : List TChg) (x : Value) (wr : World) : Prop := ∃ i : Nat, x = .int .i64 i ∧ i ≤ l.length ∧ Upd [] w wr ∧ (l.take i).all (fun c => decide (c.key.length ≤ 400) && decide (c.val.length ≤ 500)) = true
set_option maxRecDepth 100000 in
theorem law_small (w : World) (lv : Value) (l : List TChg) (hl : RChgs w lv l) : Calls Try.prog 9 #[lv] w fun e w' => e = .returned (.bool (smallB l)) ∧ Upd [] w w' := by
  obtain ⟨cells, hR, hC⟩ := hl
  obtain ⟨ao, cap, rfl, _⟩ := hR.shape
  by_cases h40 : l.length ≤ 40
  · have ht : decide ((40 : Int) < (l.length : Int)) = false := by simp; omega
    have H40 := Lib.hid h40
    clear h40
    go_enter Try.func9, Try.ntmps9
    go_wp2_with fail
    go_loopw [10] (fun x wr => SmRel w l x wr) (fun x _ => l.length - (intOf x).toNat)
    case atStart => exact ⟨0, rfl, Nat.zero_le _, Upd.refl _ _, by simp⟩
    case round =>
      obtain ⟨i, rfl, hi, hU, hall⟩ := hrel
      have hll := H40.out
      by_cases hlt : i < l.length
      · have htt : decide ((i : Int) < (l.length : Int)) = true := by simp; omega
        obtain ⟨c, hc⟩ : ∃ c, l[i]? = some c := ⟨_, List.getElem?_eq_getElem hlt⟩
        obtain ⟨pv, c0, c1, c2, hpv⟩ := hC.get hc
        have hRr := hR.upd0 hU
        obtain ⟨ap, cp, hsp, _⟩ := hpv.shape
        subst hsp
        have hUa : Upd [] wr (wr.alloc (Obj.cells #[encS c.key, .bool c.gone, Value.slice ap c.val.length cp] 82)) := Upd.alloc [] _ _
        have hba := heap_alloc_new wr (Obj.cells #[encS c.key, .bool c.gone, Value.slice ap c.val.length cp] 82)
        have b0 : (wr.alloc (Obj.cells #[encS c.key, .bool c.gone, Value.slice ap c.val.length cp] 82)).cell? ⟨wr.heap.size, 0, none⟩ = some (encS c.key) := by rw [cell_lit _ _ 0 _ _ _ hba]; rfl
        have b2 : (wr.alloc (Obj.cells #[encS c.key, .bool c.gone, Value.slice ap c.val.length cp] 82)).cell? ⟨wr.heap.size, 2, none⟩ = some (.slice ap c.val.length cp) := by rw [cell_lit _ _ 2 _ _ _ hba]; rfl
        have HTK := Lib.hid (show l.take (i + 1) = l.take i ++ [c] by rw [List.take_add_one, hc]; rfl)
        have hmem := List.mem_of_getElem? hc
        have hU2 := hU.trans0 hUa
        have HALL := Lib.hid hall
        clear hba hall hc hi hUa
        by_cases hk : c.key.length ≤ 400
        · have hk1 : decide ((400 : Int) < (c.key.length : Int)) = false := by simp; omega
          by_cases hv : c.val.length ≤ 500
          · have hv1 : decide ((500 : Int) < (c.val.length : Int)) = false := by simp; omega
            have HR := Lib.hid (show SmRel w l (.int .i64 ((i : Int) + 1)) (wr.alloc (Obj.cells #[encS c.key, .bool c.gone, Value.slice ap c.val.length cp] 82)) from ⟨i + 1, by simp, hlt, hU2, by rw [HTK.out, List.all_append, HALL.out]; simp [hk, hv]⟩)
            clear hk hv
            go_wp2_with ((with_reducible show wpList _ _ _ (⟨_, .indexAddr _ _ _, _, _, _, _⟩ :: _) _ _); refine wpl_indexAddrX elRChg rfl rfl hRr rfl rfl (by omega) (by omega) ?_; intro ad hcell hspot; (have k0 := hcell 0 (by omega)); (have k1 := hcell 1 (by omega)); (have k2 := hcell 2 (by omega)); rw [Int.toNat_natCast, c0] at k0; rw [Int.toNat_natCast, c1] at k1; rw [Int.toNat_natCast, c2] at k2; clear hcell; obtain ⟨gb, gof, gs⟩ := ad; cases hspot; simp only [Addr.add_lit, Nat.add_zero] at k0 k1 k2)
            exact ⟨HR.out, by simp [intOf]; omega⟩
          · have hv1 : decide ((500 : Int) < (c.val.length : Int)) = true := by simp; omega
            have HR := Lib.hid (show smallB l = false from by unfold smallB; rw [Bool.and_eq_false_iff]; right; rw [List.all_eq_false]; exact ⟨c, hmem, by simp [hv]⟩)
            clear hk hv
            go_wp2_with ((with_reducible show wpList _ _ _ (⟨_, .indexAddr _ _ _, _, _, _, _⟩ :: _) _ _); refine wpl_indexAddrX elRChg rfl rfl hRr rfl rfl (by omega) (by omega) ?_; intro ad hcell hspot; (have k0 := hcell 0 (by omega)); (have k1 := hcell 1 (by omega)); (have k2 := hcell 2 (by omega)); rw [Int.toNat_natCast, c0] at k0; rw [Int.toNat_natCast, c1] at k1; rw [Int.toNat_natCast, c2] at k2; clear hcell; obtain ⟨gb, gof, gs⟩ := ad; cases hspot; simp only [Addr.add_lit, Nat.add_zero] at k0 k1 k2)
            go_ret
            exact ⟨by rw [HR.out]; rfl, hU2⟩
        · have hk1 : decide ((400 : Int) < (c.key.length : Int)) = true := by simp; omega
          have HR := Lib.hid (show smallB l = false from by unfold smallB; rw [Bool.and_eq_false_iff]; right; rw [List.all_eq_false]; exact ⟨c, hmem, by simp [hk]⟩)
          clear hk
          go_wp2_with ((with_reducible show wpList _ _ _ (⟨_, .indexAddr _ _ _, _, _, _, _⟩ :: _) _ _); refine wpl_indexAddrX elRChg rfl rfl hRr rfl rfl (by omega) (by omega) ?_; intro ad hcell hspot; (have k0 := hcell 0 (by omega)); (have k1 := hcell 1 (by omega)); (have k2 := hcell 2 (by omega)); rw [Int.toNat_natCast, c0] at k0; rw [Int.toNat_natCast, c1] at k1; rw [Int.toNat_natCast, c2] at k2; clear hcell; obtain ⟨gb, gof, gs⟩ := ad; cases hspot; simp only [Addr.add_lit, Nat.add_zero] at k0 k1 k2)
          go_ret
          exact ⟨by rw [HR.out]; rfl, hU2⟩
      · have htt : decide ((i : Int) < (l.length : Int)) = false := by simp; omega
        have hie : i = l.length := by omega
        have HR := Lib.hid (show smallB l = true from by unfold smallB; rw [hie, List.take_length] at hall; rw [hall]; simpa using hll)
        clear hall
        go_wp2_with fail
        go_ret
        exact ⟨by rw [HR.out]; rfl, hU⟩
  · have ht : decide ((40 : Int) < (l.length : Int)) = true := by simp; omega
    have HR := Lib.hid (show smallB l = false from by unfold smallB; rw [Bool.and_eq_false_iff]; left; simpa using h40)
    clear h40
    go_enter Try.func9, Try.ntmps9
    go_wp2_with fail
    go_ret
    exact ⟨by rw [HR.out]; rfl, Upd.refl _ _⟩

/-- A table whose keys are in order, none empty, all within bounds. -/
structure TOk (T : TSt) : Prop where
  srt : Srt T.m
  keys : ∀ p ∈ T.m, p.1 ≠ [] ∧ p.1.length ≤ 1000000000 ∧ p.2.length ≤ 1000000000
  len : T.m.length ≤ 1000000000
def PairsRel (w : World) (m : List (List UInt8 × List UInt8)) (x v : Value) (wr : World) : Prop := ∃ i : Nat, x = .int .i64 i ∧ i ≤ m.length ∧ OwnPrs wr w.heap.size v (m.take i) ∧ Upd [] w wr
set_option maxRecDepth 100000 in
set_option maxHeartbeats 1000000 in
theorem law_Pairs (w : World) (d tb : Nat) (S : List Nat) (T : TSt) (h : TAt w d tb S T) (hok : TOk T) :
    Calls Try.prog 26 #[.pointer (some ⟨tb, 0, none⟩)] w fun e w' => ∃ v, e = .returned (.tuple #[v, .bool true]) ∧ Prs w' v T.m ∧ Upd [] w w' := by
  have hlen := table_len w d tb S T h
  have hkeys := table_keys w d tb S T h [] [] T.m.length (fun p hp => by have := (hok.keys p hp).2.1; unfold maxLen; omega) hok.len (by simp) (by have := hok.len; omega)
  rw [sortK_srt hok.srt, keysGo_all _ [] _ (by intro k hk; obtain ⟨p, hp, rfl⟩ := List.mem_map.1 hk; exact (hok.keys p hp).1) (by simp), List.nil_append] at hkeys
  have hml : (T.m.map (·.1)).length = T.m.length := by simp
  have HKI := Lib.hid (fun (i : Nat) (p : List UInt8 × List UInt8) (h : T.m[i]? = some p) => show (T.m.map (·.1))[i]? = some p.1 from by simp [h])
  generalize hks : T.m.map (·.1) = ks at *
  have HML := Lib.hid hml; have HOK := Lib.hid hok; have HT := Lib.hid h
  clear hml hks hok h
  go_enter Try.func26, Try.ntmps26
  go_wp2_with (first
    | (go_at_call 21; refine hlen.mono ?_; rintro e w1 ⟨rfl, rfl⟩)
    | (go_at_call 13; refine hkeys.mono ?_; rintro e w1 ⟨v1, rfl, hv1, hU1⟩; obtain ⟨ao1, cap1, hs1, _⟩ := (Rd.of_own hv1).shape; subst hs1; rw [HML.out] at hv1 ⊢))
  go_loopw [16, 4] (fun x v W => PairsRel w1 T.m x v W) (fun x _ _ => T.m.length - (intOf x).toNat)
  case atStart => exact ⟨0, rfl, Nat.zero_le _, OwnPrs.nil _ _, Upd.refl _ _⟩
  case round =>
    obtain ⟨i, rfl, hi, hown, hU⟩ := hrel
    have hok := HOK.out
    have hll := hok.len
    have hTr := (HT.out.upd0 hU1).upd0 hU
    by_cases hlt : i < T.m.length
    · have htt : decide ((i : Int) < (T.m.length : Int)) = true := by simp; omega
      obtain ⟨p, hp⟩ : ∃ p, T.m[i]? = some p := ⟨_, List.getElem?_eq_getElem hlt⟩
      have hki := HKI.out i p hp
      have hR : Rd wr 9 1 (.slice ao1 T.m.length cap1) T.m.length (ks.map encS) := (Rd.of_own hv1).upd0 hU
      have hku : (ks.map encS)[(i : Int).toNat]? = some (encS p.1) := by simp [hki]
      have hag : aget p.1 T.m = some p.2 := (aget_some hok.srt.nodup).2 (List.mem_of_getElem? hp)
      have hpl := (hok.keys p (List.mem_of_getElem? hp)).2.2
      have hget := table_get wr d tb S T hTr p.1 (by rw [hag]; show p.2.length ≤ _; omega)
      rw [hag] at hget
      have HTK := Lib.hid (show T.m.take (i + 1) = T.m.take i ++ [p] by rw [List.take_add_one, hp]; rfl)
      have hlk : (T.m.take i).length + 1 ≤ 1000000001 := by simp; omega
      have HLK := Lib.hid hlk
      clear hlk hag hpl hok hki hTr
      go_wp2_with (first
        | ((with_reducible show wpList _ _ _ (⟨_, .indexAddr _ _ _, _, _, _, _⟩ :: _) _ _); refine wpl_indexAddr1 elStr rfl rfl hR rfl rfl (by omega) (by omega) _ hku ?_; intro ad hcell)
        | (go_at_call 15; refine hget.mono ?_; rintro e w3 ⟨v3, rfl, hv3, hU3⟩; (have hb3 : By w3 v3 p.2 := hv3.by); obtain ⟨ao3, cap3, hs3⟩ := By.val hb3; subst hs3; (have hU03 := hU.trans0 hU3))
        | ((with_reducible show wpList _ _ _ (⟨_, .buildSlice _ _ _, _, _, _, _⟩ :: _) _ _); refine wpl_lit elPair rfl rfl rfl (cs := [encS p.1, .slice ao3 p.2.length cap3]) rfl rfl (by omega) ?_; intro v5 w5 hv5 hU5 _)
        | ((with_reducible show wpList _ _ _ (⟨_, .call ⟨.builtin .append, _, _⟩, _, _, _, _⟩ :: _) _ _); refine wpl_append_pr rfl rfl (hU03.trans0 hU5) ((hown.upd0 hU3).upd0 hU5) rfl (Rd.of_own hv5) rfl (hb3.upd0 hU5) HLK.out ?_; intro v6 w6 hv6 hU6))
      exact ⟨⟨i + 1, by simp, hlt, by rw [HTK.out]; exact hv6, hU6⟩, by simp [intOf]; omega⟩
    · have htt : decide ((i : Int) < (T.m.length : Int)) = false := by simp; omega
      have hie : i = T.m.length := by omega
      subst hie
      have hown' : OwnPrs wr w1.heap.size u4 T.m := by rw [List.take_length] at hown; exact hown
      have hlen2 := table_len wr d tb S T hTr
      have HP := Lib.hid (show Prs wr u4 T.m ∧ Upd [] w wr from ⟨hown'.prs, hU1.trans0 hU⟩)
      obtain ⟨ao4, cap4, hs4⟩ := hown'.prs.shape
      subst hs4
      clear hown hown' hok hTr hv1
      go_wp2_with (first
        | (go_at_call 21; refine hlen2.mono ?_; rintro e w3 ⟨rfl, rfl⟩))
      go_ret2
      exact ⟨_, by simp, HP.out.1, HP.out.2⟩
theorem law_Is (w : World) (d tb : Nat) (S : List Nat) (T : TSt) (h : TAt w d tb S T) (hok : TOk T) (lv : Value) (l : List (List UInt8 × List UInt8)) (hl : Prs w lv l) :
    Calls Try.prog 18 #[.pointer (some ⟨tb, 0, none⟩), lv] w fun e w' => e = .returned (.bool (decide (T.m = l))) ∧ Upd [] w w' := by
  have hp := law_Pairs w d tb S T h hok
  have hs := fun (w1 : World) (v1 : Value) (hU : Upd [] w w1) (h1 : Prs w1 v1 T.m) => ref_SameP w1 v1 lv T.m l h1 (hl.upd0 hU) hok.len (fun p hp => (hok.keys p hp).2.2)
  clear h hok
  go_enter Try.func18, Try.ntmps18
  go_wp2_with (first
    | (go_at_call 26; refine hp.mono ?_; rintro e w1 ⟨v1, rfl, hv1, hU1⟩)
    | (go_at_call 38; refine (hs w1 v1 hU1 hv1).mono ?_; rintro e w2 ⟨rfl, hU2⟩))
  go_ret
  exact ⟨rfl, hU1.trans0 hU2⟩
end Go.Proofs.Ythfbfdkjgkkpcaa

namespace Go.Proofs.Ythfbfdkjgkkpcaa
open Go Go.RowKit

/-- n changes' cells, of which the first i have the key k. -/
def mkc (n i : Nat) : List Value := (List.replicate i [encS [107], Value.bool false, Value.slice none 0 0]).flatten ++ (List.replicate (n - i) [encS [], Value.bool false, Value.slice none 0 0]).flatten
theorem mkc_set (n i : Nat) (h : i < n) : (mkc n i).set (i * 3) (encS [107]) = mkc n (i + 1) := by
  obtain ⟨m, rfl⟩ : ∃ m, n = i + (m + 1) := ⟨n - i - 1, by omega⟩
  unfold mkc
  rw [show i + (m + 1) - i = m + 1 from by omega, show i + (m + 1) - (i + 1) = m from by omega]
  have hl : (List.replicate i [encS [107], Value.bool false, Value.slice none 0 0]).flatten.length = i * 3 := by simp
  rw [List.set_append_right _ _ (by omega), hl, Nat.sub_self, List.replicate_succ' (n := i), List.replicate_succ (n := m)]
  simp
theorem mkc_start (n : Nat) : (madeCells #[encS [], Value.bool false, Value.slice none 0 0] (n * 3)).toList = mkc n 0 := by
  unfold mkc madeCells
  rw [Array.toList_map, Array.toList_range]
  simp only [List.replicate_zero, List.flatten_nil, List.nil_append, Nat.sub_zero]
  induction n with
  | zero => rfl
  | succ n ih =>
    rw [show (n + 1) * 3 = n * 3 + 1 + 1 + 1 from by omega, List.range_succ, List.range_succ, List.range_succ, List.replicate_succ', List.flatten_append, ← ih]
    have h0 : n * 3 % 3 = 0 := by omega
    have h1 : (n * 3 + 1) % 3 = 1 := by omega
    have h2 : (n * 3 + 1 + 1) % 3 = 2 := by omega
    simp [h0, h1, h2]
theorem mkc_cells (w : World) : ∀ (n : Nat), TCells w (mkc n n) (List.replicate n ⟨[107], false, []⟩)
  | 0 => by simp [mkc]; trivial
  | n + 1 => by
    have h := mkc_cells w n
    unfold mkc at h ⊢
    rw [Nat.sub_self] at h ⊢
    rw [List.replicate_succ, List.replicate_succ]
    simp only [List.replicate_zero, List.flatten_nil, List.append_nil, List.flatten_cons] at h ⊢
    exact ⟨rfl, rfl, Rd.nil _ _ _, h⟩

section
variable {P : Program} {ops : Array Oper} {Q : Exit → Act → World → Prop} {a : Act} {w : World} {rest : List Oper} {o : Oper}
/-- make, for elements of any size. -/
theorem wpl_make_el {T e sz b : Nat} (hE : Elem P T e sz b) (z : Value) (hz : ∀ i, P.info? e = some i → i.zero = some z) (hw : Region.wanted o (yielded ops a.tmps) = true) {l c : Operand} (ho : o.op = .makeSlice T l c)
    {k k' : IntKind} {n : Nat} (hl : a.eval l = .int k n) (hc : a.eval c = .int k' n) (hb : b * n ≤ 281474976710656) (hm : n ≤ maxLen)
    (hK : ∀ v w', w'.ownsRow w.heap.size e sz v n (madeCells z.cells (n * sz)).toList → Upd [] w w' → wpList P ops Q rest (a.put o.dst v) w') : wpList P ops Q (o :: rest) a w := by
  obtain ⟨i, z', hi, hz', hs, hby, _⟩ := hE.info
  obtain ⟨w', hr, h1, h2⟩ := run_make_full (P := P) w w.heap.size T e i z sz hE.und hi (hz i hi) hs k k' n (by rw [hby]; exact hb) hm (Nat.le_refl _)
  refine wpl_run hw (v := .slice (some ⟨w.heap.size, 0, none⟩) n n) (w' := w') ?_ (hK _ _ h1 (Upd.grown h2 (fun _ h => by cases h)))
  simp [execOp, ho, hl, hc, hr, Result.andThen]
/-- make([]byte, n): some n bytes. -/
theorem wpl_make_zs {T : Nat} (hE : Elem P T 5 1 1) (hz : ∀ i, P.info? 5 = some i → i.zero = some (.int .u8 0)) (hw : Region.wanted o (yielded ops a.tmps) = true) {l c : Operand} (ho : o.op = .makeSlice T l c)
    {k k' : IntKind} (n : Nat) (hl : a.eval l = .int k n) (hc : a.eval c = .int k' n) (hb : n ≤ 1073741824)
    (hK : ∀ v w' zs, zs.length = n → OwnBy w' w.heap.size v zs → Upd [] w w' → wpList P ops Q rest (a.put o.dst v) w') : wpList P ops Q (o :: rest) a w :=
  wpl_make_by hE hz hw ho hl hc hb (fun v w' h hU => hK v w' _ List.length_replicate h hU)
/-- The address of an element of the call's own row, and what a store into its first cell leaves. -/
theorem wpl_indexAddr_el {T e sz b : Nat} (hE : Elem P T e sz b) (hw : Region.wanted o (yielded ops a.tmps) = true) {x ix : Operand} (ho : o.op = .indexAddr T x ix)
    {B n : Nat} {v : Value} {xs : List Value} (hown : w.ownsRow B e sz v n xs) (hx : a.eval x = v) {k : IntKind} {i : Int} (hi : a.eval ix = .int k i) (h0 : 0 ≤ i) (h1 : i < n)
    (hK : ∀ g, v.ownBlock = some g → w.cell? ⟨g, i.toNat * sz, none⟩ = xs[i.toNat * sz]? → w.frozen? ⟨g, i.toNat * sz, none⟩ = false → (∀ u, (w.setCell ⟨g, i.toNat * sz, none⟩ u).ownsRow B e sz v n (xs.set (i.toNat * sz) u) ∧ Upd v.ownBlock.toList w (w.setCell ⟨g, i.toNat * sz, none⟩ u)) → wpList P ops Q rest (a.put o.dst (.pointer (some ⟨g, i.toNat * sz, none⟩))) w) : wpList P ops Q (o :: rest) a w := by
  rcases hown.2 with ⟨rfl, h2⟩ | ⟨g, cap, cur, rfl, hBg, hg, hnc, hcm, hcs, htk⟩
  · omega
  · have hlt : i.toNat < n := by omega
    have hlt2 : i.toNat * sz < n * sz := Nat.mul_lt_mul_of_pos_right hlt hE.pos
    have hr : (Instr.indexAt T (.slice (some ⟨g, 0, none⟩) n cap) (.int k i)).run P w = .ok (.pointer (some ⟨g, i.toNat * sz, none⟩)) w := by
      have hs := sizeOf_run hE w
      simp only [Instr.indexAt, asIntOf, Sem.run_bind, Sem.run_pure, Result.andThen_ok, run_underlying hE.und]
      simp only [h0, h1, and_self, if_true, Sem.run_bind, hs, Result.andThen_ok, Sem.run_pure, Addr.add_lit, Nat.zero_add]
    refine wpl_run hw (v := .pointer (some ⟨g, i.toNat * sz, none⟩)) (w' := w) ?_ (hK g rfl ?_ ?_ ?_)
    · simp [execOp, ho, hx, hi, hr, Result.andThen]
    · rw [World.ownsRow.cellAt hown (i.toNat * sz) (by first | exact hlt2 | omega)]
    · exact World.ownsRow.frozenAt hown _
    · intro u
      exact ⟨(World.ownsRow.stored hown (i.toNat * sz) u).1, Upd.setCell _ _ _ (by simp [Value.ownBlock])⟩
end
end Go.Proofs.Ythfbfdkjgkkpcaa

namespace Go.Proofs.Ythfbfdkjgkkpcaa
open Go Go.RowKit

theorem tok_nil (J : JSt) : TOk ⟨J, [], false⟩ := ⟨Srt.nil, fun p hp => (by cases hp), by show 0 ≤ 1000000000; omega⟩
theorem tok_do (J : JSt) (l : List TChg) (he : (encB l).2 = 0) (hs : smallB l = true) : TOk ⟨J, tdo [] l, false⟩ := by
  unfold smallB at hs
  rw [Bool.and_eq_true, decide_eq_true_iff, List.all_eq_true] at hs
  have hk := encB_keys he
  refine ⟨Srt.nil.tdo l, ?_, ?_⟩
  · refine tdo_keys (fun p => p.1 ≠ [] ∧ p.1.length ≤ 1000000000 ∧ p.2.length ≤ 1000000000) (fun p hp => by cases hp) ?_
    intro c hc
    have := hs.2 c hc
    simp at this
    exact ⟨hk c hc, by show c.key.length ≤ _; omega, by show c.val.length ≤ _; omega⟩
  · have := tdo_length l []
    show (tdo [] l).length ≤ 1000000000
    simp at this; omega
theorem small_parts {l : List TChg} (hs : smallB l = true) : l.length ≤ 40 ∧ ∀ c ∈ l, c.key.length ≤ 400 ∧ c.val.length ≤ 500 := by
  unfold smallB at hs
  rw [Bool.and_eq_true, decide_eq_true_iff, List.all_eq_true] at hs
  exact ⟨hs.1, fun c hc => by have := hs.2 c hc; simpa using this⟩

def KLoop (w : World) (n : Nat) (x : Value) (wr : World) : Prop := ∃ i : Nat, x = .int .i64 i ∧ i ≤ n ∧ Upd [] w wr
def XorRel (wb : World) (v : Value) (ll : List UInt8) (x : Value) (W : World) : Prop :=
  ∃ (i : Nat) (xs : List Value), x = .int .i64 i ∧ i ≤ ll.length ∧ W.ownsRow wb.heap.size 5 1 v ll.length xs ∧ (∀ j, i ≤ j → xs[j]? = (ll.map enc)[j]?) ∧ Upd [] wb W
theorem keysGo_len (head after : List UInt8) (most : Int) : ∀ (ks o : List (List UInt8)), (keysGo head after most o ks).length ≤ o.length + ks.length
  | [], o => by simp [keysGo]
  | k :: r, o => by
    unfold keysGo
    split
    · simp
    · split
      · have := keysGo_len head after most r (o ++ [k]); simp at this ⊢; omega
      · have := keysGo_len head after most r o; simp at this ⊢; omega
set_option maxRecDepth 100000 in
set_option maxHeartbeats 4000000 in
theorem law11_tableKeys (w : World) (lv : Value) (l : List TChg) (hl : RChgs w lv l) (w0 w1 : List UInt8) (hw0 : w0.length ≤ maxLen) (most : Int) (hm : most ≤ 9223372036854775807) :
    Calls Try.prog 3 #[lv, .agg #[encS w0, encS w1], .int .i64 most] w fun e w' => e = .returned (.bool true) ∧ Upd [] w w' := by
  have hi1 : isName [116] = true := by decide
  have hi2 : isName ([116] ++ [43]) = true := by decide
  have HW0 := Lib.hid hw0; have HM := Lib.hid hm
  clear hw0 hm
  go_enter Try.func3, Try.ntmps3
  go_wp2_with fail
  have hUx : Upd [] w (w.alloc (Obj.cells #[encS w0, encS w1] 23)) := Upd.alloc [] _ _
  have hbx := heap_alloc_new w (Obj.cells #[encS w0, encS w1] 23)
  generalize hwx : (w.alloc (Obj.cells #[encS w0, encS w1] 23)) = wx at *
  have x0 : wx.cell? ⟨w.heap.size, 0, none⟩ = some (encS w0) := by rw [cell_lit wx _ 0 _ _ _ hbx]; rfl
  have x1 : wx.cell? ⟨w.heap.size, 1, none⟩ = some (encS w1) := by rw [cell_lit wx _ 1 _ _ _ hbx]; rfl
  clear hbx
  refine (disk_new wx 1048576 (by omega)).mono ?_
  rintro e w2 ⟨d, S, rfl, hD2, hU2, hS2⟩
  go_wp2_with fail
  refine (table_open_first w2 d S 1048576 [116] hD2 hi1 hi2).mono ?_
  rintro e w3 ⟨tb, S3, rfl, hT3, hU3, hS3⟩
  have hn3 := hS2.sub hS3 hU2.size
  have hU3x : Upd [] wx w3 := hU2.new hS2 hU3
  have hU03 : Upd [] w w3 := hUx.trans0 hU3x
  clear hD2 hU2 hS2 hS3 hU3
  go_wp2_with fail
  refine (law11_awake w3).mono ?_
  rintro e w4 ⟨rfl, hU4⟩
  go_wp2_with fail
  refine (law_small w4 lv l (hl.upd0 (hU03.trans0 hU4))).mono ?_
  rintro e w5 ⟨rfl, hU5⟩
  have hU45 := hU4.trans0 hU5
  cases hsm : smallB l with
  | false =>
    go_wp2_with fail
    refine (law11_awake w5).mono ?_
    rintro e w6 ⟨rfl, hU6⟩
    go_wp2_with fail
    go_ret
    exact ⟨rfl, (hU03.trans0 hU45).trans0 hU6⟩
  | true =>
    have hsp := small_parts hsm
    go_wp2_with fail
    refine (law_to w5 lv l (hl.upd0 (hU03.trans0 hU45)) (by have := hsp.1; omega) (fun c hc => by have := (hsp.2 c hc).2; omega)).mono ?_
    rintro e w6 ⟨v6, rfl, hv6, hU6⟩
    have hT6 := (hT3.upd0 hU45).upd0 hU6
    have hap := table_apply w6 d tb S3 (T1 1048576 [116]) hT6 v6 l hv6.chgs (by have := hsp.1; omega) (fun c hc => by have := (hsp.2 c hc).2; omega) (by decide) (by decide)
    have hU36 := hU45.trans0 hU6
    by_cases he : (encB l).2 = 0
    · have hfit := apply_fine (T1 1048576 [116]) l (fine_T1 _ _) he (by
        have := encB_small hsp.1 hsp.2
        show used [([116], [])] + ((encB l).1.length + 8) ≤ 1048576
        simp [used]; omega)
      rw [hfit.1] at hap
      have HOK := Lib.hid (tok_do ((T1 1048576 [116]).J.then (encB l).1) l he hsm)
      have hmeq : tdo (T1 1048576 [116]).m l = tdo [] l := rfl
      rw [hmeq] at hap
      have hdo := fun (W : World) (hU : Upd [] w W) => ref_Do W (.slice none 0 0) lv [] l (Prs.nil W) (hl.upd0 hU) Srt.nil (by have := hsp.1; simp; omega) (fun c hc => by have := (hsp.2 c hc).2; omega)
      generalize tdo [] l = m at *
      generalize hJ : (T1 1048576 [116]).J.then (encB l).1 = J at *
      clear hfit hJ hmeq
      go_wp2_with fail
      refine hap.mono ?_
      rintro e w7 ⟨rfl, S7, hT7, hU7, hS7⟩
      have hU07 : Upd [] w w7 := hUx.trans0 ((hU3x.trans0 hU36).new hn3 hU7)
      go_wp2_with fail
      refine (hdo w7 hU07).mono ?_
      rintro e w8 ⟨v8, rfl, hv8, hU8⟩
      have hUx8 : Upd [] wx w8 := ((hU3x.trans0 hU36).new hn3 hU7).trans0 hU8
      have hT8 := hT7.upd0 hU8
      obtain ⟨ao8, cap8, hs8⟩ := hv8.shape
      subst hs8
      have bx0 := hUx8.cell x0 (by simp)
      have bx1 := hUx8.cell x1 (by simp)
      have hUd8 : Upd [] w8 w8.drew := Upd.drew [] _
      have hS0 : w8.drew.cell? ⟨w.heap.size, 0, none⟩ = some (encS w0) ∧ w8.drew.cell? ⟨w.heap.size, 1, none⟩ = some (encS w1) := ⟨bx0, bx1⟩
      have hkeys := table_keys w8.drew d tb S7 _ (hT8.upd0 hUd8) w0 w1 most (fun p hp => by have := (HOK.out.keys p hp).2.1; unfold maxLen; omega) HOK.out.len HW0.out HM.out
      have hrk := fun (W : World) (hU : Upd [] w8 W) => ref_Keys W (.slice ao8 m.length cap8) m (hv8.upd0 hU) w0 w1 most HOK.out.len
      rw [sortK_srt HOK.out.srt] at hkeys
      have hkl : (keysGo w0 w1 most [] (m.map (·.1))).length ≤ 1000000000 := by
        have := keysGo_len w0 w1 most (m.map (·.1)) []
        have := HOK.out.len
        simp at this; simp at *; omega
      generalize keysGo w0 w1 most [] (m.map (·.1)) = kk at *
      have HKL := Lib.hid hkl
      clear hkl
      go_wp2_with fail
      refine wp_region_H (fun W => W.cell? ⟨w.heap.size, 0, none⟩ = some (encS w0) ∧ W.cell? ⟨w.heap.size, 1, none⟩ = some (encS w1)) (by kernel_rfl) ?_
      (refine wpAnyH_takeO (i := 0) (dst := (some 48)) (op := (Go.Op.move (Go.Operand.tmp 9))) (v := ?_) (by rfl) (by kernel_rfl) (by kernel_rfl) (by kernel_rfl) (fun _ _ _ h => h) ?_ hS0 ?_; rotate_left; (focus (intro _ _ _ W HW; (try dsimp only at HW); go_simp; (try with_reducible rfl))); (try simp only [Act.put, List.setIfInBounds_toArray, List.set_cons_zero, List.set_cons_succ]))
      (refine wpAnyH_takeO (i := 1) (dst := (some 49)) (op := (Go.Op.indexAddr 23 (Go.Operand.tmp 4) (Go.Operand.const (Go.Value.int Go.IntKind.i64 0)))) (v := ?_) (by rfl) (by kernel_rfl) (by kernel_rfl) (by kernel_rfl) (fun _ _ _ h => h) ?_ hS0 ?_; rotate_left; (focus (intro _ _ _ W HW; (try dsimp only at HW); go_simp; (try with_reducible rfl))); (try simp only [Act.put, List.setIfInBounds_toArray, List.set_cons_zero, List.set_cons_succ]))
      (refine wpAnyH_takeO (i := 2) (dst := (some 50)) (op := (Go.Op.load 9 (Go.Operand.tmp 49))) (v := ?_) (by rfl) (by kernel_rfl) (by kernel_rfl) (by kernel_rfl) (fun _ _ _ h => h) ?_ hS0 ?_; rotate_left; (focus (intro _ _ _ W HW; (try dsimp only at HW); go_simp; (try with_reducible rfl))); (try simp only [Act.put, List.setIfInBounds_toArray, List.set_cons_zero, List.set_cons_succ]))
      (refine wpAnyH_takeO (i := 3) (dst := (some 51)) (op := (Go.Op.indexAddr 23 (Go.Operand.tmp 4) (Go.Operand.const (Go.Value.int Go.IntKind.i64 1)))) (v := ?_) (by rfl) (by kernel_rfl) (by kernel_rfl) (by kernel_rfl) (fun _ _ _ h => h) ?_ hS0 ?_; rotate_left; (focus (intro _ _ _ W HW; (try dsimp only at HW); go_simp; (try with_reducible rfl))); (try simp only [Act.put, List.setIfInBounds_toArray, List.set_cons_zero, List.set_cons_succ]))
      (refine wpAnyH_takeO (i := 4) (dst := (some 52)) (op := (Go.Op.load 9 (Go.Operand.tmp 51))) (v := ?_) (by rfl) (by kernel_rfl) (by kernel_rfl) (by kernel_rfl) (fun _ _ _ h => h) ?_ hS0 ?_; rotate_left; (focus (intro _ _ _ W HW; (try dsimp only at HW); go_simp; (try with_reducible rfl))); (try simp only [Act.put, List.setIfInBounds_toArray, List.set_cons_zero, List.set_cons_succ]))
      (refine wpAnyH_takeO (i := 5) (dst := (some 53)) (op := (Go.Op.move (Go.Operand.tmp 2))) (v := ?_) (by rfl) (by kernel_rfl) (by kernel_rfl) (by kernel_rfl) (fun _ _ _ h => h) ?_ hS0 ?_; rotate_left; (focus (intro _ _ _ W HW; (try dsimp only at HW); go_simp; (try with_reducible rfl))); (try simp only [Act.put, List.setIfInBounds_toArray, List.set_cons_zero, List.set_cons_succ]))
      (refine wpAnyH_takeO (i := 7) (dst := (some 55)) (op := (Go.Op.move (Go.Operand.tmp 11))) (v := ?_) (by rfl) (by kernel_rfl) (by kernel_rfl) (by kernel_rfl) (fun _ _ _ h => h) ?_ hS0 ?_; rotate_left; (focus (intro _ _ _ W HW; (try dsimp only at HW); go_simp; (try with_reducible rfl))); (try simp only [Act.put, List.setIfInBounds_toArray, List.set_cons_zero, List.set_cons_succ]))
      (refine wpAnyH_takeO (i := 8) (dst := (some 56)) (op := (Go.Op.indexAddr 23 (Go.Operand.tmp 4) (Go.Operand.const (Go.Value.int Go.IntKind.i64 0)))) (v := ?_) (by rfl) (by kernel_rfl) (by kernel_rfl) (by kernel_rfl) (fun _ _ _ h => h) ?_ hS0 ?_; rotate_left; (focus (intro _ _ _ W HW; (try dsimp only at HW); go_simp; (try with_reducible rfl))); (try simp only [Act.put, List.setIfInBounds_toArray, List.set_cons_zero, List.set_cons_succ]))
      (refine wpAnyH_takeO (i := 9) (dst := (some 57)) (op := (Go.Op.load 9 (Go.Operand.tmp 56))) (v := ?_) (by rfl) (by kernel_rfl) (by kernel_rfl) (by kernel_rfl) (fun _ _ _ h => h) ?_ hS0 ?_; rotate_left; (focus (intro _ _ _ W HW; (try dsimp only at HW); go_simp; (try with_reducible rfl))); (try simp only [Act.put, List.setIfInBounds_toArray, List.set_cons_zero, List.set_cons_succ]))
      (refine wpAnyH_takeO (i := 10) (dst := (some 58)) (op := (Go.Op.indexAddr 23 (Go.Operand.tmp 4) (Go.Operand.const (Go.Value.int Go.IntKind.i64 1)))) (v := ?_) (by rfl) (by kernel_rfl) (by kernel_rfl) (by kernel_rfl) (fun _ _ _ h => h) ?_ hS0 ?_; rotate_left; (focus (intro _ _ _ W HW; (try dsimp only at HW); go_simp; (try with_reducible rfl))); (try simp only [Act.put, List.setIfInBounds_toArray, List.set_cons_zero, List.set_cons_succ]))
      (refine wpAnyH_takeO (i := 11) (dst := (some 59)) (op := (Go.Op.load 9 (Go.Operand.tmp 58))) (v := ?_) (by rfl) (by kernel_rfl) (by kernel_rfl) (by kernel_rfl) (fun _ _ _ h => h) ?_ hS0 ?_; rotate_left; (focus (intro _ _ _ W HW; (try dsimp only at HW); go_simp; (try with_reducible rfl))); (try simp only [Act.put, List.setIfInBounds_toArray, List.set_cons_zero, List.set_cons_succ]))
      (refine wpAnyH_takeO (i := 12) (dst := (some 60)) (op := (Go.Op.move (Go.Operand.tmp 2))) (v := ?_) (by rfl) (by kernel_rfl) (by kernel_rfl) (by kernel_rfl) (fun _ _ _ h => h) ?_ hS0 ?_; rotate_left; (focus (intro _ _ _ W HW; (try dsimp only at HW); go_simp; (try with_reducible rfl))); (try simp only [Act.put, List.setIfInBounds_toArray, List.set_cons_zero, List.set_cons_succ]))
      refine wpAnyH_call (i := 6) (dst := (some 54)) (op := (Go.Op.call { callee := (Go.Callee.value (Go.Operand.func 13)), args := #[(Go.Operand.tmp 48), (Go.Operand.tmp 50), (Go.Operand.tmp 52), (Go.Operand.tmp 53)], argTypes := #[28, 9, 9, 3] })) (f := 13) (vs := #[.pointer (some ⟨tb, 0, none⟩), encS w0, encS w1, .int .i64 most]) (by kernel_rfl) (by rfl) (fun _ _ _ => by go_simp) ?_
      refine hkeys.mono ?_
      rintro e w9 ⟨v9, rfl, hv9, hU9⟩
      have hS9 : w9.cell? ⟨w.heap.size, 0, none⟩ = some (encS w0) ∧ w9.cell? ⟨w.heap.size, 1, none⟩ = some (encS w1) := ⟨hU9.cell hS0.1 (by simp), hU9.cell hS0.2 (by simp)⟩
      refine ⟨v9, rfl, hS9, ?_⟩
      (try simp only [Act.put, List.setIfInBounds_toArray, List.set_cons_zero, List.set_cons_succ])
      refine wpAnyH_call (i := 13) (dst := (some 61)) (op := (Go.Op.call { callee := (Go.Callee.value (Go.Operand.func 14)), args := #[(Go.Operand.tmp 55), (Go.Operand.tmp 57), (Go.Operand.tmp 59), (Go.Operand.tmp 60)], argTypes := #[33, 9, 9, 3] })) (f := 14) (vs := #[(.slice ao8 m.length cap8), encS w0, encS w1, .int .i64 most]) (by kernel_rfl) (by rfl) (fun _ _ _ => by go_simp) ?_
      refine (hrk w9 (hUd8.trans0 hU9)).mono ?_
      rintro e w10 ⟨v10, rfl, hv10, hU10⟩
      have hS10 : w10.cell? ⟨w.heap.size, 0, none⟩ = some (encS w0) ∧ w10.cell? ⟨w.heap.size, 1, none⟩ = some (encS w1) := ⟨hU10.cell hS9.1 (by simp), hU10.cell hS9.2 (by simp)⟩
      refine ⟨v10, rfl, hS10, ?_⟩
      (try simp only [Act.put, List.setIfInBounds_toArray, List.set_cons_zero, List.set_cons_succ])
      (refine wpAnyH_takeO (i := 14) (dst := (some 12)) (op := (Go.Op.assign (Go.Operand.tmp 54))) (v := ?_) (by rfl) (by kernel_rfl) (by kernel_rfl) (by kernel_rfl) (fun _ _ _ h => h) ?_ hS10 ?_; rotate_left; (focus (intro _ _ _ W HW; (try dsimp only at HW); go_simp; (try with_reducible rfl))); (try simp only [Act.put, List.setIfInBounds_toArray, List.set_cons_zero, List.set_cons_succ]))
      (refine wpAnyH_takeO (i := 15) (dst := (some 13)) (op := (Go.Op.assign (Go.Operand.tmp 61))) (v := ?_) (by rfl) (by kernel_rfl) (by kernel_rfl) (by kernel_rfl) (fun _ _ _ h => h) ?_ hS10 ?_; rotate_left; (focus (intro _ _ _ W HW; (try dsimp only at HW); go_simp; (try with_reducible rfl))); (try simp only [Act.put, List.setIfInBounds_toArray, List.set_cons_zero, List.set_cons_succ]))
      refine wpAnyH_done (by kernel_rfl) ?_ _
      have hR9 : Rd w10 9 1 v9 kk.length (kk.map encS) := (Rd.of_own hv9).upd0 hU10
      have hR10 := Rd.of_own hv10
      obtain ⟨ao9, cap9, hs9, _⟩ := hR9.shape
      subst hs9
      obtain ⟨ao10, cap10, hs10, _⟩ := hR10.shape
      subst hs10
      have hU810 := (hUd8.trans0 hU9).trans0 hU10
      have hfind := fun (W : World) (hU : Upd [] w8 W) => ref_Find W (.slice ao8 m.length cap8) m (hv8.upd0 hU) w0 HOK.out.len
      have hgetb : ((aget w0 m).getD []).length ≤ 1073741824 := by
        cases hc : aget w0 m with
        | none => simp
        | some u => have := (HOK.out.keys _ ((aget_some HOK.out.srt.nodup).1 hc)).2.2; simp; simp at this; omega
      have hget := fun (W : World) (hU : Upd [] w8 W) => table_get W d tb S7 _ (hT8.upd0 hU) w0 hgetb
      have hvb : ((aget w0 m).getD []).length ≤ 1000000000 := by
        cases hc : aget w0 m with
        | none => simp
        | some u => have := (HOK.out.keys _ ((aget_some HOK.out.srt.nodup).1 hc)).2.2; simpa using this
      have hpf := pfind_aget HOK.out.srt w0
      have hpl := pfind_le w0 m
      have HIS := Lib.hid (fun (W : World) (hU : Upd [] w8 W) => law_Is W d tb S7 _ (hT8.upd0 hU) HOK.out (.slice ao8 m.length cap8) m (hv8.upd0 hU))
      have HU08 := Lib.hid (hUx.trans0 hUx8)
      clear hkeys hrk hdo hap hT8 hT7 hT6 hT3 hv6 hS0 hS9 hUd8 hU9 hU10
      go_wp2_with fail
      go_loopw [69] (fun x W => KLoop w10 kk.length x W) (fun x _ => kk.length - (intOf x).toNat)
      case atStart => exact ⟨0, rfl, Nat.zero_le _, Upd.refl _ _⟩
      case round =>
        obtain ⟨i, rfl, hi, hUr⟩ := hrel
        obtain ⟨wb, rfl⟩ : ∃ wb, wb = wr := ⟨wr, rfl⟩
        have hll := HKL.out
        by_cases hlt : i < kk.length
        · have htt : decide ((i : Int) < (kk.length : Int)) = true := by simp; omega
          obtain ⟨k, hk⟩ : ∃ k, kk[i]? = some k := ⟨_, List.getElem?_eq_getElem hlt⟩
          obtain ⟨b1, o1, rfl, hc1⟩ := hR9.x.at (by simp; omega)
          obtain ⟨b2, o2, rfl, hc2⟩ := hR10.x.at (by simp; omega)
          have d1 := hUr.cell (hc1 i (encS k) (by simp [hk])) (by simp)
          have d2 := hUr.cell (hc2 i (encS k) (by simp [hk])) (by simp)
          have hkk : (!k == k) = false := by simp
          have i0 : (0 : Int) ≤ (i : Int) := by omega
          have i1 : (i : Int) < (kk.length : Int) := by omega
          have hS1 : wb.drew.cell? ⟨b1, o1 + i, none⟩ = some (encS k) ∧ wb.drew.cell? ⟨b2, o2 + i, none⟩ = some (encS k) := ⟨d1, d2⟩
          clear hc1 hc2 hk
          go_wp2_with fail
          refine wp_region_H (fun W => W.cell? ⟨b1, o1 + i, none⟩ = some (encS k) ∧ W.cell? ⟨b2, o2 + i, none⟩ = some (encS k)) (by kernel_rfl) ?_
          (refine wpAnyH_takeO (i := 0) (dst := (some 72)) (op := (Go.Op.move (Go.Operand.tmp 12))) (v := ?_) (by rfl) (by kernel_rfl) (by kernel_rfl) (by kernel_rfl) (fun _ _ _ h => h) ?_ hS1 ?_; rotate_left; (focus (intro _ _ _ W HW; (try dsimp only at HW); go_simp; (try with_reducible rfl))); (try simp only [Act.put, List.setIfInBounds_toArray, List.set_cons_zero, List.set_cons_succ]))
          (refine wpAnyH_takeO (i := 1) (dst := (some 73)) (op := (Go.Op.move (Go.Operand.tmp 14))) (v := ?_) (by rfl) (by kernel_rfl) (by kernel_rfl) (by kernel_rfl) (fun _ _ _ h => h) ?_ hS1 ?_; rotate_left; (focus (intro _ _ _ W HW; (try dsimp only at HW); go_simp; (try with_reducible rfl))); (try simp only [Act.put, List.setIfInBounds_toArray, List.set_cons_zero, List.set_cons_succ]))
          (refine wpAnyH_takeO (i := 2) (dst := (some 74)) (op := (Go.Op.indexAddr 38 (Go.Operand.tmp 72) (Go.Operand.tmp 73))) (v := ?_) (by rfl) (by kernel_rfl) (by kernel_rfl) (by kernel_rfl) (fun _ _ _ h => h) ?_ hS1 ?_; rotate_left; (focus (intro _ _ _ W HW; (try dsimp only at HW); go_simp; (try with_reducible rfl))); (try simp only [Act.put, List.setIfInBounds_toArray, List.set_cons_zero, List.set_cons_succ]))
          (refine wpAnyH_takeO (i := 3) (dst := (some 75)) (op := (Go.Op.load 9 (Go.Operand.tmp 74))) (v := ?_) (by rfl) (by kernel_rfl) (by kernel_rfl) (by kernel_rfl) (fun _ _ _ h => h) ?_ hS1 ?_; rotate_left; (focus (intro _ _ _ W HW; (try dsimp only at HW); go_simp; (try with_reducible rfl))); (try simp only [Act.put, List.setIfInBounds_toArray, List.set_cons_zero, List.set_cons_succ]))
          (refine wpAnyH_takeO (i := 4) (dst := (some 76)) (op := (Go.Op.move (Go.Operand.tmp 13))) (v := ?_) (by rfl) (by kernel_rfl) (by kernel_rfl) (by kernel_rfl) (fun _ _ _ h => h) ?_ hS1 ?_; rotate_left; (focus (intro _ _ _ W HW; (try dsimp only at HW); go_simp; (try with_reducible rfl))); (try simp only [Act.put, List.setIfInBounds_toArray, List.set_cons_zero, List.set_cons_succ]))
          (refine wpAnyH_takeO (i := 5) (dst := (some 77)) (op := (Go.Op.move (Go.Operand.tmp 14))) (v := ?_) (by rfl) (by kernel_rfl) (by kernel_rfl) (by kernel_rfl) (fun _ _ _ h => h) ?_ hS1 ?_; rotate_left; (focus (intro _ _ _ W HW; (try dsimp only at HW); go_simp; (try with_reducible rfl))); (try simp only [Act.put, List.setIfInBounds_toArray, List.set_cons_zero, List.set_cons_succ]))
          (refine wpAnyH_takeO (i := 6) (dst := (some 78)) (op := (Go.Op.indexAddr 38 (Go.Operand.tmp 76) (Go.Operand.tmp 77))) (v := ?_) (by rfl) (by kernel_rfl) (by kernel_rfl) (by kernel_rfl) (fun _ _ _ h => h) ?_ hS1 ?_; rotate_left; (focus (intro _ _ _ W HW; (try dsimp only at HW); go_simp; (try with_reducible rfl))); (try simp only [Act.put, List.setIfInBounds_toArray, List.set_cons_zero, List.set_cons_succ]))
          (refine wpAnyH_takeO (i := 7) (dst := (some 79)) (op := (Go.Op.load 9 (Go.Operand.tmp 78))) (v := ?_) (by rfl) (by kernel_rfl) (by kernel_rfl) (by kernel_rfl) (fun _ _ _ h => h) ?_ hS1 ?_; rotate_left; (focus (intro _ _ _ W HW; (try dsimp only at HW); go_simp; (try with_reducible rfl))); (try simp only [Act.put, List.setIfInBounds_toArray, List.set_cons_zero, List.set_cons_succ]))
          (refine wpAnyH_takeO (i := 8) (dst := (some 80)) (op := (Go.Op.binOp Go.BinOp.neq 9 (Go.Operand.tmp 75) (Go.Operand.tmp 79) 9)) (v := ?_) (by rfl) (by kernel_rfl) (by kernel_rfl) (by kernel_rfl) (fun _ _ _ h => h) ?_ hS1 ?_; rotate_left; (focus (intro _ _ _ W HW; (try dsimp only at HW); go_simp; (try with_reducible rfl))); (try simp only [Act.put, List.setIfInBounds_toArray, List.set_cons_zero, List.set_cons_succ]))
          refine wpAnyH_done (by kernel_rfl) ?_ _
          go_wp2_with fail
          exact ⟨⟨i + 1, by simp, hlt, hUr.trans0 (Upd.drew [] _)⟩, by simp [intOf]; omega⟩
        · have htt : decide ((i : Int) < (kk.length : Int)) = false := by simp; omega
          have hU8b := hU810.trans0 hUr
          have y0 := hUr.cell hS10.1 (by simp)
          obtain ⟨ll, hlv, hvb2, hgetw⟩ : ∃ ll : List UInt8, ll = (aget w0 m).getD [] ∧ ll.length ≤ 1000000000 ∧ Calls Try.prog 15 #[.pointer (some ⟨tb, 0, none⟩), encS w0] wb (fun e w' => ∃ x, e = .returned (.tuple #[x, .bool (aget w0 m).isSome]) ∧ OwnBy w' wb.heap.size x ll ∧ Upd [] wb w') := ⟨_, rfl, hvb, hget wb hU8b⟩
          have HLV := Lib.hid hlv
          clear hlv
          obtain ⟨mcells, hmR, hmC⟩ := hv8
          have HML := Lib.hid HOK.out.len
          have HVB := Lib.hid hvb2
          clear hgetb hget hll hvb hvb2
          generalize hn : pfind w0 m = n at *
          clear hn
          cases hat : m[n]? with
          | none =>
            rw [hat] at hpf
            have htl : decide ((n : Int) < (m.length : Int)) = false := by rw [List.getElem?_eq_none_iff] at hat; simp; omega
            have hnl : ¬ n < m.length := by rw [List.getElem?_eq_none_iff] at hat; omega
            have hn0 : ¬ ((n : Int) < 0) := by omega
            have hn1 : decide ((n : Int) < 0) = false := by simp
            rw [hpf] at hgetw
            clear hat hpl hpf
            go_wp2_with (first
              | (go_at_call 15; refine hgetw.mono ?_; rintro e w12 ⟨v12, rfl, hv12, hU12⟩; (have y12 := hU12.cell y0 (by simp)); (have hb12 := hv12.by); obtain ⟨ao12, cap12, hs12⟩ := By.val hb12; subst hs12)
              | (go_at_call 16; refine (hfind w12 (hU8b.trans0 hU12)).mono ?_; rintro e w13 ⟨rfl, rfl⟩))
            have hS12 : w12.drew.cell? ⟨w.heap.size, 0, none⟩ = some (encS w0) := y12
            refine wp_region_H (fun W => W.cell? ⟨w.heap.size, 0, none⟩ = some (encS w0)) (by kernel_rfl) ?_
            (refine wpAnyH_takeO (i := 0) (dst := (some 93)) (op := (Go.Op.move (Go.Operand.tmp 17))) (v := ?_) (by rfl) (by kernel_rfl) (by kernel_rfl) (by kernel_rfl) (fun _ _ _ h => h) ?_ hS12 ?_; rotate_left; (focus (intro _ _ _ W HW; (try dsimp only at HW); go_simp; (try with_reducible rfl))); (try simp only [Act.put, List.setIfInBounds_toArray, List.set_cons_zero, List.set_cons_succ]))
            (refine wpAnyH_takeO (i := 1) (dst := (some 94)) (op := (Go.Op.move (Go.Operand.tmp 11))) (v := ?_) (by rfl) (by kernel_rfl) (by kernel_rfl) (by kernel_rfl) (fun _ _ _ h => h) ?_ hS12 ?_; rotate_left; (focus (intro _ _ _ W HW; (try dsimp only at HW); go_simp; (try with_reducible rfl))); (try simp only [Act.put, List.setIfInBounds_toArray, List.set_cons_zero, List.set_cons_succ]))
            (refine wpAnyH_takeO (i := 2) (dst := (some 95)) (op := (Go.Op.call { callee := (Go.Callee.builtin Go.Builtin.len), args := #[(Go.Operand.tmp 94)], argTypes := #[33] })) (v := ?_) (by rfl) (by kernel_rfl) (by kernel_rfl) (by kernel_rfl) (fun _ _ _ h => h) ?_ hS12 ?_; rotate_left; (focus (intro _ _ _ W HW; (try dsimp only at HW); go_simp; (try with_reducible rfl))); (try simp only [Act.put, List.setIfInBounds_toArray, List.set_cons_zero, List.set_cons_succ]))
            (refine wpAnyH_takeO (i := 3) (dst := (some 96)) (op := (Go.Op.binOp Go.BinOp.lss 3 (Go.Operand.tmp 93) (Go.Operand.tmp 95) 3)) (v := ?_) (by rfl) (by kernel_rfl) (by kernel_rfl) (by kernel_rfl) (fun _ _ _ h => h) ?_ hS12 ?_; rotate_left; (focus (intro _ _ _ W HW; (try dsimp only at HW); go_simp; (try with_reducible rfl))); (try simp only [Act.put, List.setIfInBounds_toArray, List.set_cons_zero, List.set_cons_succ]))
            (refine wpAnyH_takeO (i := 4) (dst := (some 97)) (op := (Go.Op.move (Go.Operand.tmp 96))) (v := ?_) (by rfl) (by kernel_rfl) (by kernel_rfl) (by kernel_rfl) (fun _ _ _ h => h) ?_ hS12 ?_; rotate_left; (focus (intro _ _ _ W HW; (try dsimp only at HW); go_simp; (try with_reducible rfl))); (try simp only [Act.put, List.setIfInBounds_toArray, List.set_cons_zero, List.set_cons_succ]))
            (refine wpAnyH_takeU (i := 5) (dst := (some 98)) (op := (Go.Op.move (Go.Operand.tmp 11))) (by rfl) (by kernel_rfl) (by kernel_rfl) (by kernel_rfl) (b' := false) (by rfl) (by rfl) (fun _ _ _ h => h) hS12 ?_; (try simp only [Act.put, List.setIfInBounds_toArray, List.set_cons_zero, List.set_cons_succ]))
            (refine wpAnyH_takeU (i := 6) (dst := (some 99)) (op := (Go.Op.move (Go.Operand.tmp 17))) (by rfl) (by kernel_rfl) (by kernel_rfl) (by kernel_rfl) (b' := false) (by rfl) (by rfl) (fun _ _ _ h => h) hS12 ?_; (try simp only [Act.put, List.setIfInBounds_toArray, List.set_cons_zero, List.set_cons_succ]))
            (refine wpAnyH_takeU (i := 7) (dst := (some 100)) (op := (Go.Op.indexAddr 33 (Go.Operand.tmp 98) (Go.Operand.tmp 99))) (by rfl) (by kernel_rfl) (by kernel_rfl) (by kernel_rfl) (b' := false) (by rfl) (by rfl) (fun _ _ _ h => h) hS12 ?_; (try simp only [Act.put, List.setIfInBounds_toArray, List.set_cons_zero, List.set_cons_succ]))
            (refine wpAnyH_takeU (i := 8) (dst := (some 101)) (op := (Go.Op.fieldAddr 46 (Go.Operand.tmp 100) 0)) (by rfl) (by kernel_rfl) (by kernel_rfl) (by kernel_rfl) (b' := false) (by rfl) (by rfl) (fun _ _ _ h => h) hS12 ?_; (try simp only [Act.put, List.setIfInBounds_toArray, List.set_cons_zero, List.set_cons_succ]))
            (refine wpAnyH_takeU (i := 9) (dst := (some 102)) (op := (Go.Op.load 9 (Go.Operand.tmp 101))) (by rfl) (by kernel_rfl) (by kernel_rfl) (by kernel_rfl) (b' := false) (by rfl) (by rfl) (fun _ _ _ h => h) hS12 ?_; (try simp only [Act.put, List.setIfInBounds_toArray, List.set_cons_zero, List.set_cons_succ]))
            (refine wpAnyH_takeU (i := 10) (dst := (some 103)) (op := (Go.Op.indexAddr 23 (Go.Operand.tmp 4) (Go.Operand.const (Go.Value.int Go.IntKind.i64 0)))) (by rfl) (by kernel_rfl) (by kernel_rfl) (by kernel_rfl) (b' := false) (by rfl) (by rfl) (fun _ _ _ h => h) hS12 ?_; (try simp only [Act.put, List.setIfInBounds_toArray, List.set_cons_zero, List.set_cons_succ]))
            (refine wpAnyH_takeU (i := 11) (dst := (some 104)) (op := (Go.Op.load 9 (Go.Operand.tmp 103))) (by rfl) (by kernel_rfl) (by kernel_rfl) (by kernel_rfl) (b' := false) (by rfl) (by rfl) (fun _ _ _ h => h) hS12 ?_; (try simp only [Act.put, List.setIfInBounds_toArray, List.set_cons_zero, List.set_cons_succ]))
            (refine wpAnyH_takeU (i := 12) (dst := (some 105)) (op := (Go.Op.binOp Go.BinOp.eql 9 (Go.Operand.tmp 102) (Go.Operand.tmp 104) 9)) (by rfl) (by kernel_rfl) (by kernel_rfl) (by kernel_rfl) (b' := false) (by rfl) (by rfl) (fun _ _ _ h => h) hS12 ?_; (try simp only [Act.put, List.setIfInBounds_toArray, List.set_cons_zero, List.set_cons_succ]))
            (refine wpAnyH_takeO (i := 13) (dst := (some 106)) (op := (Go.Op.pick (Go.Operand.tmp 97) (Go.Operand.tmp 105) (Go.Operand.const (Go.Value.bool false)))) (v := ?_) (by rfl) (by kernel_rfl) (by kernel_rfl) (by kernel_rfl) (fun _ _ _ h => h) ?_ hS12 ?_; rotate_left; (focus (intro _ _ _ W HW; (try dsimp only at HW); go_simp; (try with_reducible rfl))); (try simp only [Act.put, List.setIfInBounds_toArray, List.set_cons_zero, List.set_cons_succ]))
            (refine wpAnyH_takeO (i := 14) (dst := (some 18)) (op := (Go.Op.assign (Go.Operand.tmp 106))) (v := ?_) (by rfl) (by kernel_rfl) (by kernel_rfl) (by kernel_rfl) (fun _ _ _ h => h) ?_ hS12 ?_; rotate_left; (focus (intro _ _ _ W HW; (try dsimp only at HW); go_simp; (try with_reducible rfl))); (try simp only [Act.put, List.setIfInBounds_toArray, List.set_cons_zero, List.set_cons_succ]))
            refine wpAnyH_done (by kernel_rfl) ?_ _
            have hU14 : Upd [] w12 w12.drew := Upd.drew [] _
            generalize hw14 : w12.drew = w14 at *
            have HX := Lib.hid (show OwnBy w14 wb.heap.size _ _ ∧ Upd [] wb w14 from ⟨Own.upd0 hv12 hU14, hU12.trans0 hU14⟩)
            clear hv12 hb12 hw14
            go_wp2_with fail
            go_loopw [125] (fun x W => XorRel wb (.slice ao12 ll.length cap12) ll x W) (fun x _ => ll.length - (intOf x).toNat)
            case atStart => exact ⟨0, ll.map enc, rfl, Nat.zero_le _, HX.out.1, fun _ _ => rfl, HX.out.2⟩
            case round =>
              obtain ⟨i, xs, rfl, hi, hown, hxs, hUw⟩ := hrel
              have hll9 := HVB.out
              by_cases hlt : i < ll.length
              · have htt : decide ((i : Int) < (ll.length : Int)) = true := by simp; omega
                obtain ⟨b, hb⟩ : ∃ b, ll[i]? = some b := ⟨_, List.getElem?_eq_getElem hlt⟩
                have hxi : xs[i]? = some (enc b) := by rw [hxs i (Nat.le_refl _)]; simp [hb]
                have HXS := Lib.hid hxs
                clear hxs hb
                go_wp2_with ((with_reducible show wpList _ _ _ (⟨_, .indexAddr _ _ _, _, _, _, _⟩ :: _) _ _); refine wpl_indexAddr_el elU8 rfl rfl hown rfl rfl (by omega) (by omega) ?_; intro g hg1 hcell hfr hst; rw [Int.toNat_natCast, Nat.mul_one, hxi] at hcell; rw [Int.toNat_natCast, Nat.mul_one] at hfr hst ⊢)
                exact ⟨⟨i + 1, xs.set i _, by simp, hlt, (hst _).1, fun j hj => by rw [List.getElem?_set_ne (by omega)]; exact HXS.out j (by omega), hUw.own hown (hst _).2⟩, by simp [intOf]; omega⟩
              · have htt : decide ((i : Int) < (ll.length : Int)) = false := by simp; omega
                have his := HIS.out wr (hU8b.trans0 hUw)
                clear hxs
                go_wp2_with (go_at_call 18; refine his.mono ?_; rintro e w15 ⟨rfl, hU15⟩)
                go_ret
                exact ⟨by simp, ((HU08.out.trans0 hU8b).trans0 hUw).trans0 hU15⟩
          | some p =>
            have hpm := List.mem_of_getElem? hat
            obtain ⟨pv, g0, g1, hpv⟩ := hmC.get hat
            have hnl : n < m.length := (List.getElem?_eq_some_iff.1 hat).1
            have htl : decide ((n : Int) < (m.length : Int)) = true := by simp; omega
            obtain ⟨b1, o1, rfl, hc1⟩ := hmR.x.at (by have := hmR.1; omega)
            have z0 := hU8b.cell (hc1 (n * 2 + 0) _ g0) (by simp)
            rw [Nat.add_zero] at z0
            have i0 : (0 : Int) ≤ (n : Int) := by omega
            have i1 : (n : Int) < (m.length : Int) := by omega
            rw [hat] at hpf
            by_cases hpk : p.1 = w0
            · simp only [if_pos hpk] at hpf
              have hne : (p.1 == w0) = true := by simpa using hpk
              rw [hpf] at hgetw
              have hlp : ll = p.2 := by rw [HLV.out, hpf]; rfl
              obtain ⟨aq, cq, hsq⟩ := By.val hpv
              subst hsq
              have HSM := Lib.hid (fun (W : World) (v : Value) (hU : Upd [] wb W) (hv : By W v ll) => show Calls Try.prog 17 #[v, .slice aq p.2.length cq] W (fun e w' => e = .returned (.bool true) ∧ Upd [] W w') from by
                have h := ref_Same W v (.slice aq p.2.length cq) ll p.2 hv.x ((hpv.upd0 (hU8b.trans0 hU)).x) HVB.out
                rwa [decide_eq_true hlp] at h)
              have HRM := Lib.hid (fun (W : World) (hU : Upd [] wb W) => hmR.upd0 (hU8b.trans0 hU))
              clear hat hpl hpf hc1 hpk hlp
              go_wp2_with (first
                | (go_at_call 15; refine hgetw.mono ?_; rintro e w12 ⟨v12, rfl, hv12, hU12⟩; (have y12 := hU12.cell y0 (by simp)); (have z12 := hU12.cell z0 (by simp)); (have hb12 := hv12.by); obtain ⟨ao12, cap12, hs12⟩ := By.val hb12; subst hs12)
                | (go_at_call 16; refine (hfind w12 (hU8b.trans0 hU12)).mono ?_; rintro e w13 ⟨rfl, rfl⟩))
              have hS12 : w12.drew.cell? ⟨w.heap.size, 0, none⟩ = some (encS w0) ∧ w12.drew.cell? ⟨b1, o1 + n * 2, none⟩ = some (encS p.1) := ⟨y12, z12⟩
              refine wp_region_H (fun W => W.cell? ⟨w.heap.size, 0, none⟩ = some (encS w0) ∧ W.cell? ⟨b1, o1 + n * 2, none⟩ = some (encS p.1)) (by kernel_rfl) ?_
              (refine wpAnyH_takeO (i := 0) (dst := (some 93)) (op := (Go.Op.move (Go.Operand.tmp 17))) (v := ?_) (by rfl) (by kernel_rfl) (by kernel_rfl) (by kernel_rfl) (fun _ _ _ h => h) ?_ hS12 ?_; rotate_left; (focus (intro _ _ _ W HW; (try dsimp only at HW); go_simp; (try with_reducible rfl))); (try simp only [Act.put, List.setIfInBounds_toArray, List.set_cons_zero, List.set_cons_succ]))
              (refine wpAnyH_takeO (i := 1) (dst := (some 94)) (op := (Go.Op.move (Go.Operand.tmp 11))) (v := ?_) (by rfl) (by kernel_rfl) (by kernel_rfl) (by kernel_rfl) (fun _ _ _ h => h) ?_ hS12 ?_; rotate_left; (focus (intro _ _ _ W HW; (try dsimp only at HW); go_simp; (try with_reducible rfl))); (try simp only [Act.put, List.setIfInBounds_toArray, List.set_cons_zero, List.set_cons_succ]))
              (refine wpAnyH_takeO (i := 2) (dst := (some 95)) (op := (Go.Op.call { callee := (Go.Callee.builtin Go.Builtin.len), args := #[(Go.Operand.tmp 94)], argTypes := #[33] })) (v := ?_) (by rfl) (by kernel_rfl) (by kernel_rfl) (by kernel_rfl) (fun _ _ _ h => h) ?_ hS12 ?_; rotate_left; (focus (intro _ _ _ W HW; (try dsimp only at HW); go_simp; (try with_reducible rfl))); (try simp only [Act.put, List.setIfInBounds_toArray, List.set_cons_zero, List.set_cons_succ]))
              (refine wpAnyH_takeO (i := 3) (dst := (some 96)) (op := (Go.Op.binOp Go.BinOp.lss 3 (Go.Operand.tmp 93) (Go.Operand.tmp 95) 3)) (v := ?_) (by rfl) (by kernel_rfl) (by kernel_rfl) (by kernel_rfl) (fun _ _ _ h => h) ?_ hS12 ?_; rotate_left; (focus (intro _ _ _ W HW; (try dsimp only at HW); go_simp; (try with_reducible rfl))); (try simp only [Act.put, List.setIfInBounds_toArray, List.set_cons_zero, List.set_cons_succ]))
              (refine wpAnyH_takeO (i := 4) (dst := (some 97)) (op := (Go.Op.move (Go.Operand.tmp 96))) (v := ?_) (by rfl) (by kernel_rfl) (by kernel_rfl) (by kernel_rfl) (fun _ _ _ h => h) ?_ hS12 ?_; rotate_left; (focus (intro _ _ _ W HW; (try dsimp only at HW); go_simp; (try with_reducible rfl))); (try simp only [Act.put, List.setIfInBounds_toArray, List.set_cons_zero, List.set_cons_succ]))
              (refine wpAnyH_takeG (i := 5) (dst := (some 98)) (op := (Go.Op.move (Go.Operand.tmp 11))) (v := ?_) (by rfl) (by kernel_rfl) (by kernel_rfl) (by kernel_rfl) (by rfl) (fun _ _ _ h => h) ?_ hS12 ?_; rotate_left; (focus (intro _ _ _ W HW; (try dsimp only at HW); go_simp; (try with_reducible rfl))); (try simp only [Act.put, List.setIfInBounds_toArray, List.set_cons_zero, List.set_cons_succ]))
              (refine wpAnyH_takeG (i := 6) (dst := (some 99)) (op := (Go.Op.move (Go.Operand.tmp 17))) (v := ?_) (by rfl) (by kernel_rfl) (by kernel_rfl) (by kernel_rfl) (by rfl) (fun _ _ _ h => h) ?_ hS12 ?_; rotate_left; (focus (intro _ _ _ W HW; (try dsimp only at HW); go_simp; (try with_reducible rfl))); (try simp only [Act.put, List.setIfInBounds_toArray, List.set_cons_zero, List.set_cons_succ]))
              (refine wpAnyH_takeG (i := 7) (dst := (some 100)) (op := (Go.Op.indexAddr 33 (Go.Operand.tmp 98) (Go.Operand.tmp 99))) (v := ?_) (by rfl) (by kernel_rfl) (by kernel_rfl) (by kernel_rfl) (by rfl) (fun _ _ _ h => h) ?_ hS12 ?_; rotate_left; (focus (intro _ _ _ W HW; (try dsimp only at HW); go_simp; (try with_reducible rfl))); (try simp only [Act.put, List.setIfInBounds_toArray, List.set_cons_zero, List.set_cons_succ]))
              (refine wpAnyH_takeG (i := 8) (dst := (some 101)) (op := (Go.Op.fieldAddr 46 (Go.Operand.tmp 100) 0)) (v := ?_) (by rfl) (by kernel_rfl) (by kernel_rfl) (by kernel_rfl) (by rfl) (fun _ _ _ h => h) ?_ hS12 ?_; rotate_left; (focus (intro _ _ _ W HW; (try dsimp only at HW); go_simp; (try with_reducible rfl))); (try simp only [Act.put, List.setIfInBounds_toArray, List.set_cons_zero, List.set_cons_succ]))
              (refine wpAnyH_takeG (i := 9) (dst := (some 102)) (op := (Go.Op.load 9 (Go.Operand.tmp 101))) (v := ?_) (by rfl) (by kernel_rfl) (by kernel_rfl) (by kernel_rfl) (by rfl) (fun _ _ _ h => h) ?_ hS12 ?_; rotate_left; (focus (intro _ _ _ W HW; (try dsimp only at HW); go_simp; (try with_reducible rfl))); (try simp only [Act.put, List.setIfInBounds_toArray, List.set_cons_zero, List.set_cons_succ]))
              (refine wpAnyH_takeG (i := 10) (dst := (some 103)) (op := (Go.Op.indexAddr 23 (Go.Operand.tmp 4) (Go.Operand.const (Go.Value.int Go.IntKind.i64 0)))) (v := ?_) (by rfl) (by kernel_rfl) (by kernel_rfl) (by kernel_rfl) (by rfl) (fun _ _ _ h => h) ?_ hS12 ?_; rotate_left; (focus (intro _ _ _ W HW; (try dsimp only at HW); go_simp; (try with_reducible rfl))); (try simp only [Act.put, List.setIfInBounds_toArray, List.set_cons_zero, List.set_cons_succ]))
              (refine wpAnyH_takeG (i := 11) (dst := (some 104)) (op := (Go.Op.load 9 (Go.Operand.tmp 103))) (v := ?_) (by rfl) (by kernel_rfl) (by kernel_rfl) (by kernel_rfl) (by rfl) (fun _ _ _ h => h) ?_ hS12 ?_; rotate_left; (focus (intro _ _ _ W HW; (try dsimp only at HW); go_simp; (try with_reducible rfl))); (try simp only [Act.put, List.setIfInBounds_toArray, List.set_cons_zero, List.set_cons_succ]))
              (refine wpAnyH_takeG (i := 12) (dst := (some 105)) (op := (Go.Op.binOp Go.BinOp.eql 9 (Go.Operand.tmp 102) (Go.Operand.tmp 104) 9)) (v := ?_) (by rfl) (by kernel_rfl) (by kernel_rfl) (by kernel_rfl) (by rfl) (fun _ _ _ h => h) ?_ hS12 ?_; rotate_left; (focus (intro _ _ _ W HW; (try dsimp only at HW); go_simp; (try with_reducible rfl))); (try simp only [Act.put, List.setIfInBounds_toArray, List.set_cons_zero, List.set_cons_succ]))
              (refine wpAnyH_takeO (i := 13) (dst := (some 106)) (op := (Go.Op.pick (Go.Operand.tmp 97) (Go.Operand.tmp 105) (Go.Operand.const (Go.Value.bool false)))) (v := ?_) (by rfl) (by kernel_rfl) (by kernel_rfl) (by kernel_rfl) (fun _ _ _ h => h) ?_ hS12 ?_; rotate_left; (focus (intro _ _ _ W HW; (try dsimp only at HW); go_simp; (try with_reducible rfl))); (try simp only [Act.put, List.setIfInBounds_toArray, List.set_cons_zero, List.set_cons_succ]))
              (refine wpAnyH_takeO (i := 14) (dst := (some 18)) (op := (Go.Op.assign (Go.Operand.tmp 106))) (v := ?_) (by rfl) (by kernel_rfl) (by kernel_rfl) (by kernel_rfl) (fun _ _ _ h => h) ?_ hS12 ?_; rotate_left; (focus (intro _ _ _ W HW; (try dsimp only at HW); go_simp; (try with_reducible rfl))); (try simp only [Act.put, List.setIfInBounds_toArray, List.set_cons_zero, List.set_cons_succ]))
              refine wpAnyH_done (by kernel_rfl) ?_ _
              have hU14 : Upd [] w12 w12.drew := Upd.drew [] _
              generalize hw14 : w12.drew = w14 at *
              have hv14 := Own.upd0 hv12 hU14
              have hU1214 := hU12.trans0 hU14
              have hmR14 := HRM.out w14 hU1214
              have hsame := HSM.out w14 _ hU1214 (OwnBy.by hv14)
              clear hv12 hb12 hw14
              go_wp2_with (first
                | ((with_reducible show wpList _ _ _ (⟨_, .indexAddr _ _ _, _, _, _, _⟩ :: _) _ _); refine wpl_indexAddr elPair rfl rfl hmR14 rfl rfl (by omega) (by omega) ?_; intro ad hcell hspot; (have k0 := hcell 0 (by omega)); (have k1 := hcell 1 (by omega)); rw [Int.toNat_natCast, g0] at k0; rw [Int.toNat_natCast, g1] at k1; clear hcell; obtain ⟨gb, gof, gs⟩ := ad; cases hspot; simp only [Addr.add_lit, Nat.add_zero] at k0 k1)
                | (go_at_call 17; refine hsame.mono ?_; rintro e w16 ⟨rfl, hU16⟩; (have HX := Lib.hid (show OwnBy w16 wb.heap.size _ _ ∧ Upd [] wb w16 from ⟨Own.upd0 hv14 hU16, hU1214.trans0 hU16⟩))))
              go_loopw [125] (fun x W => XorRel wb (.slice ao12 ll.length cap12) ll x W) (fun x _ => ll.length - (intOf x).toNat)
              case atStart => exact ⟨0, ll.map enc, rfl, Nat.zero_le _, HX.out.1, fun _ _ => rfl, HX.out.2⟩
              case round =>
                obtain ⟨i, xs, rfl, hi, hown, hxs, hUw⟩ := hrel
                have hll9 := HVB.out
                by_cases hlt : i < ll.length
                · have htt : decide ((i : Int) < (ll.length : Int)) = true := by simp; omega
                  obtain ⟨b, hb⟩ : ∃ b, ll[i]? = some b := ⟨_, List.getElem?_eq_getElem hlt⟩
                  have hxi : xs[i]? = some (enc b) := by rw [hxs i (Nat.le_refl _)]; simp [hb]
                  have HXS := Lib.hid hxs
                  clear hxs hb
                  go_wp2_with ((with_reducible show wpList _ _ _ (⟨_, .indexAddr _ _ _, _, _, _, _⟩ :: _) _ _); refine wpl_indexAddr_el elU8 rfl rfl hown rfl rfl (by omega) (by omega) ?_; intro g hg1 hcell hfr hst; rw [Int.toNat_natCast, Nat.mul_one, hxi] at hcell; rw [Int.toNat_natCast, Nat.mul_one] at hfr hst ⊢)
                  exact ⟨⟨i + 1, xs.set i _, by simp, hlt, (hst _).1, fun j hj => by rw [List.getElem?_set_ne (by omega)]; exact HXS.out j (by omega), hUw.own hown (hst _).2⟩, by simp [intOf]; omega⟩
                · have htt : decide ((i : Int) < (ll.length : Int)) = false := by simp; omega
                  have his := HIS.out wr (hU8b.trans0 hUw)
                  clear hxs
                  go_wp2_with (go_at_call 18; refine his.mono ?_; rintro e w15 ⟨rfl, hU15⟩)
                  go_ret
                  exact ⟨by simp, ((HU08.out.trans0 hU8b).trans0 hUw).trans0 hU15⟩
            · simp only [if_neg hpk] at hpf
              have hne : (p.1 == w0) = false := by simpa using hpk
              rw [hpf] at hgetw
              clear hat hpl hpf hc1 hpk
              go_wp2_with (first
                | (go_at_call 15; refine hgetw.mono ?_; rintro e w12 ⟨v12, rfl, hv12, hU12⟩; (have y12 := hU12.cell y0 (by simp)); (have z12 := hU12.cell z0 (by simp)); (have hb12 := hv12.by); obtain ⟨ao12, cap12, hs12⟩ := By.val hb12; subst hs12)
                | (go_at_call 16; refine (hfind w12 (hU8b.trans0 hU12)).mono ?_; rintro e w13 ⟨rfl, rfl⟩))
              have hS12 : w12.drew.cell? ⟨w.heap.size, 0, none⟩ = some (encS w0) ∧ w12.drew.cell? ⟨b1, o1 + n * 2, none⟩ = some (encS p.1) := ⟨y12, z12⟩
              refine wp_region_H (fun W => W.cell? ⟨w.heap.size, 0, none⟩ = some (encS w0) ∧ W.cell? ⟨b1, o1 + n * 2, none⟩ = some (encS p.1)) (by kernel_rfl) ?_
              (refine wpAnyH_takeO (i := 0) (dst := (some 93)) (op := (Go.Op.move (Go.Operand.tmp 17))) (v := ?_) (by rfl) (by kernel_rfl) (by kernel_rfl) (by kernel_rfl) (fun _ _ _ h => h) ?_ hS12 ?_; rotate_left; (focus (intro _ _ _ W HW; (try dsimp only at HW); go_simp; (try with_reducible rfl))); (try simp only [Act.put, List.setIfInBounds_toArray, List.set_cons_zero, List.set_cons_succ]))
              (refine wpAnyH_takeO (i := 1) (dst := (some 94)) (op := (Go.Op.move (Go.Operand.tmp 11))) (v := ?_) (by rfl) (by kernel_rfl) (by kernel_rfl) (by kernel_rfl) (fun _ _ _ h => h) ?_ hS12 ?_; rotate_left; (focus (intro _ _ _ W HW; (try dsimp only at HW); go_simp; (try with_reducible rfl))); (try simp only [Act.put, List.setIfInBounds_toArray, List.set_cons_zero, List.set_cons_succ]))
              (refine wpAnyH_takeO (i := 2) (dst := (some 95)) (op := (Go.Op.call { callee := (Go.Callee.builtin Go.Builtin.len), args := #[(Go.Operand.tmp 94)], argTypes := #[33] })) (v := ?_) (by rfl) (by kernel_rfl) (by kernel_rfl) (by kernel_rfl) (fun _ _ _ h => h) ?_ hS12 ?_; rotate_left; (focus (intro _ _ _ W HW; (try dsimp only at HW); go_simp; (try with_reducible rfl))); (try simp only [Act.put, List.setIfInBounds_toArray, List.set_cons_zero, List.set_cons_succ]))
              (refine wpAnyH_takeO (i := 3) (dst := (some 96)) (op := (Go.Op.binOp Go.BinOp.lss 3 (Go.Operand.tmp 93) (Go.Operand.tmp 95) 3)) (v := ?_) (by rfl) (by kernel_rfl) (by kernel_rfl) (by kernel_rfl) (fun _ _ _ h => h) ?_ hS12 ?_; rotate_left; (focus (intro _ _ _ W HW; (try dsimp only at HW); go_simp; (try with_reducible rfl))); (try simp only [Act.put, List.setIfInBounds_toArray, List.set_cons_zero, List.set_cons_succ]))
              (refine wpAnyH_takeO (i := 4) (dst := (some 97)) (op := (Go.Op.move (Go.Operand.tmp 96))) (v := ?_) (by rfl) (by kernel_rfl) (by kernel_rfl) (by kernel_rfl) (fun _ _ _ h => h) ?_ hS12 ?_; rotate_left; (focus (intro _ _ _ W HW; (try dsimp only at HW); go_simp; (try with_reducible rfl))); (try simp only [Act.put, List.setIfInBounds_toArray, List.set_cons_zero, List.set_cons_succ]))
              (refine wpAnyH_takeG (i := 5) (dst := (some 98)) (op := (Go.Op.move (Go.Operand.tmp 11))) (v := ?_) (by rfl) (by kernel_rfl) (by kernel_rfl) (by kernel_rfl) (by rfl) (fun _ _ _ h => h) ?_ hS12 ?_; rotate_left; (focus (intro _ _ _ W HW; (try dsimp only at HW); go_simp; (try with_reducible rfl))); (try simp only [Act.put, List.setIfInBounds_toArray, List.set_cons_zero, List.set_cons_succ]))
              (refine wpAnyH_takeG (i := 6) (dst := (some 99)) (op := (Go.Op.move (Go.Operand.tmp 17))) (v := ?_) (by rfl) (by kernel_rfl) (by kernel_rfl) (by kernel_rfl) (by rfl) (fun _ _ _ h => h) ?_ hS12 ?_; rotate_left; (focus (intro _ _ _ W HW; (try dsimp only at HW); go_simp; (try with_reducible rfl))); (try simp only [Act.put, List.setIfInBounds_toArray, List.set_cons_zero, List.set_cons_succ]))
              (refine wpAnyH_takeG (i := 7) (dst := (some 100)) (op := (Go.Op.indexAddr 33 (Go.Operand.tmp 98) (Go.Operand.tmp 99))) (v := ?_) (by rfl) (by kernel_rfl) (by kernel_rfl) (by kernel_rfl) (by rfl) (fun _ _ _ h => h) ?_ hS12 ?_; rotate_left; (focus (intro _ _ _ W HW; (try dsimp only at HW); go_simp; (try with_reducible rfl))); (try simp only [Act.put, List.setIfInBounds_toArray, List.set_cons_zero, List.set_cons_succ]))
              (refine wpAnyH_takeG (i := 8) (dst := (some 101)) (op := (Go.Op.fieldAddr 46 (Go.Operand.tmp 100) 0)) (v := ?_) (by rfl) (by kernel_rfl) (by kernel_rfl) (by kernel_rfl) (by rfl) (fun _ _ _ h => h) ?_ hS12 ?_; rotate_left; (focus (intro _ _ _ W HW; (try dsimp only at HW); go_simp; (try with_reducible rfl))); (try simp only [Act.put, List.setIfInBounds_toArray, List.set_cons_zero, List.set_cons_succ]))
              (refine wpAnyH_takeG (i := 9) (dst := (some 102)) (op := (Go.Op.load 9 (Go.Operand.tmp 101))) (v := ?_) (by rfl) (by kernel_rfl) (by kernel_rfl) (by kernel_rfl) (by rfl) (fun _ _ _ h => h) ?_ hS12 ?_; rotate_left; (focus (intro _ _ _ W HW; (try dsimp only at HW); go_simp; (try with_reducible rfl))); (try simp only [Act.put, List.setIfInBounds_toArray, List.set_cons_zero, List.set_cons_succ]))
              (refine wpAnyH_takeG (i := 10) (dst := (some 103)) (op := (Go.Op.indexAddr 23 (Go.Operand.tmp 4) (Go.Operand.const (Go.Value.int Go.IntKind.i64 0)))) (v := ?_) (by rfl) (by kernel_rfl) (by kernel_rfl) (by kernel_rfl) (by rfl) (fun _ _ _ h => h) ?_ hS12 ?_; rotate_left; (focus (intro _ _ _ W HW; (try dsimp only at HW); go_simp; (try with_reducible rfl))); (try simp only [Act.put, List.setIfInBounds_toArray, List.set_cons_zero, List.set_cons_succ]))
              (refine wpAnyH_takeG (i := 11) (dst := (some 104)) (op := (Go.Op.load 9 (Go.Operand.tmp 103))) (v := ?_) (by rfl) (by kernel_rfl) (by kernel_rfl) (by kernel_rfl) (by rfl) (fun _ _ _ h => h) ?_ hS12 ?_; rotate_left; (focus (intro _ _ _ W HW; (try dsimp only at HW); go_simp; (try with_reducible rfl))); (try simp only [Act.put, List.setIfInBounds_toArray, List.set_cons_zero, List.set_cons_succ]))
              (refine wpAnyH_takeG (i := 12) (dst := (some 105)) (op := (Go.Op.binOp Go.BinOp.eql 9 (Go.Operand.tmp 102) (Go.Operand.tmp 104) 9)) (v := ?_) (by rfl) (by kernel_rfl) (by kernel_rfl) (by kernel_rfl) (by rfl) (fun _ _ _ h => h) ?_ hS12 ?_; rotate_left; (focus (intro _ _ _ W HW; (try dsimp only at HW); go_simp; (try with_reducible rfl))); (try simp only [Act.put, List.setIfInBounds_toArray, List.set_cons_zero, List.set_cons_succ]))
              (refine wpAnyH_takeO (i := 13) (dst := (some 106)) (op := (Go.Op.pick (Go.Operand.tmp 97) (Go.Operand.tmp 105) (Go.Operand.const (Go.Value.bool false)))) (v := ?_) (by rfl) (by kernel_rfl) (by kernel_rfl) (by kernel_rfl) (fun _ _ _ h => h) ?_ hS12 ?_; rotate_left; (focus (intro _ _ _ W HW; (try dsimp only at HW); go_simp; (try with_reducible rfl))); (try simp only [Act.put, List.setIfInBounds_toArray, List.set_cons_zero, List.set_cons_succ]))
              (refine wpAnyH_takeO (i := 14) (dst := (some 18)) (op := (Go.Op.assign (Go.Operand.tmp 106))) (v := ?_) (by rfl) (by kernel_rfl) (by kernel_rfl) (by kernel_rfl) (fun _ _ _ h => h) ?_ hS12 ?_; rotate_left; (focus (intro _ _ _ W HW; (try dsimp only at HW); go_simp; (try with_reducible rfl))); (try simp only [Act.put, List.setIfInBounds_toArray, List.set_cons_zero, List.set_cons_succ]))
              refine wpAnyH_done (by kernel_rfl) ?_ _
              have hU14 : Upd [] w12 w12.drew := Upd.drew [] _
              generalize hw14 : w12.drew = w14 at *
              have HX := Lib.hid (show OwnBy w14 wb.heap.size _ _ ∧ Upd [] wb w14 from ⟨Own.upd0 hv12 hU14, hU12.trans0 hU14⟩)
              clear hv12 hb12 hw14
              go_wp2_with fail
              go_loopw [125] (fun x W => XorRel wb (.slice ao12 ll.length cap12) ll x W) (fun x _ => ll.length - (intOf x).toNat)
              case atStart => exact ⟨0, ll.map enc, rfl, Nat.zero_le _, HX.out.1, fun _ _ => rfl, HX.out.2⟩
              case round =>
                obtain ⟨i, xs, rfl, hi, hown, hxs, hUw⟩ := hrel
                have hll9 := HVB.out
                by_cases hlt : i < ll.length
                · have htt : decide ((i : Int) < (ll.length : Int)) = true := by simp; omega
                  obtain ⟨b, hb⟩ : ∃ b, ll[i]? = some b := ⟨_, List.getElem?_eq_getElem hlt⟩
                  have hxi : xs[i]? = some (enc b) := by rw [hxs i (Nat.le_refl _)]; simp [hb]
                  have HXS := Lib.hid hxs
                  clear hxs hb
                  go_wp2_with ((with_reducible show wpList _ _ _ (⟨_, .indexAddr _ _ _, _, _, _, _⟩ :: _) _ _); refine wpl_indexAddr_el elU8 rfl rfl hown rfl rfl (by omega) (by omega) ?_; intro g hg1 hcell hfr hst; rw [Int.toNat_natCast, Nat.mul_one, hxi] at hcell; rw [Int.toNat_natCast, Nat.mul_one] at hfr hst ⊢)
                  exact ⟨⟨i + 1, xs.set i _, by simp, hlt, (hst _).1, fun j hj => by rw [List.getElem?_set_ne (by omega)]; exact HXS.out j (by omega), hUw.own hown (hst _).2⟩, by simp [intOf]; omega⟩
                · have htt : decide ((i : Int) < (ll.length : Int)) = false := by simp; omega
                  have his := HIS.out wr (hU8b.trans0 hUw)
                  clear hxs
                  go_wp2_with (go_at_call 18; refine his.mono ?_; rintro e w15 ⟨rfl, hU15⟩)
                  go_ret
                  exact ⟨by simp, ((HU08.out.trans0 hU8b).trans0 hUw).trans0 hU15⟩
    · have hbad := apply_bad (T1 1048576 [116]) l rfl he
      rw [hbad] at hap
      have HOK := Lib.hid (tok_nil (T1 1048576 [116]).J)
      have HE := Lib.hid (show ∀ k : Nat, k = (encB l).2 → (((k : Int) == 0) = false) from by intro k hk; simp; omega)
      have hTeq : (T1 1048576 [116]) = ⟨(T1 1048576 [116]).J, [], false⟩ := rfl
      rw [hTeq] at hap
      generalize hm : ([] : List (List UInt8 × List UInt8)) = m at hap HOK
      generalize (T1 1048576 [116]).J = J at *
      obtain ⟨k, hk⟩ : ∃ k, k = (encB l).2 := ⟨_, rfl⟩
      have hk0 : ((k : Int) == 0) = false := HE.out k hk
      rw [← hk] at hap
      clear hbad hTeq he hk
      have hdo := True.intro
      go_wp2_with fail
      refine hap.mono ?_
      rintro e w7 ⟨rfl, S7, hT7, hU7, hS7⟩
      have hU07 : Upd [] w w7 := hUx.trans0 ((hU3x.trans0 hU36).new hn3 hU7)
      obtain ⟨w8, rfl⟩ : ∃ w8, w8 = w7 := ⟨w7, rfl⟩
      have hUx8 : Upd [] wx w8 := (hU3x.trans0 hU36).new hn3 hU7
      have hT8 := hT7
      have hv8 : Prs w8 (.slice none 0 0) m := by rw [← hm]; exact Prs.nil _
      have HM0 := Lib.hid (show m.length = 0 from by rw [← hm]; rfl)
      clear hm
      have bx0 := hUx8.cell x0 (by simp)
      have bx1 := hUx8.cell x1 (by simp)
      have hUd8 : Upd [] w8 w8.drew := Upd.drew [] _
      have hS0 : w8.drew.cell? ⟨w.heap.size, 0, none⟩ = some (encS w0) ∧ w8.drew.cell? ⟨w.heap.size, 1, none⟩ = some (encS w1) := ⟨bx0, bx1⟩
      have hkeys := table_keys w8.drew d tb S7 _ (hT8.upd0 hUd8) w0 w1 most (fun p hp => by have := (HOK.out.keys p hp).2.1; unfold maxLen; omega) HOK.out.len HW0.out HM.out
      have hrk := fun (W : World) (hU : Upd [] w8 W) => ref_Keys W (.slice none 0 0) m (hv8.upd0 hU) w0 w1 most HOK.out.len
      rw [sortK_srt HOK.out.srt] at hkeys
      have hkl : (keysGo w0 w1 most [] (m.map (·.1))).length ≤ 1000000000 := by
        have := keysGo_len w0 w1 most (m.map (·.1)) []
        have := HOK.out.len
        simp at this; simp at *; omega
      generalize keysGo w0 w1 most [] (m.map (·.1)) = kk at *
      have HKL := Lib.hid hkl
      clear hkl
      go_wp2_with fail
      refine wp_region_H (fun W => W.cell? ⟨w.heap.size, 0, none⟩ = some (encS w0) ∧ W.cell? ⟨w.heap.size, 1, none⟩ = some (encS w1)) (by kernel_rfl) ?_
      (refine wpAnyH_takeO (i := 0) (dst := (some 48)) (op := (Go.Op.move (Go.Operand.tmp 9))) (v := ?_) (by rfl) (by kernel_rfl) (by kernel_rfl) (by kernel_rfl) (fun _ _ _ h => h) ?_ hS0 ?_; rotate_left; (focus (intro _ _ _ W HW; (try dsimp only at HW); go_simp; (try with_reducible rfl))); (try simp only [Act.put, List.setIfInBounds_toArray, List.set_cons_zero, List.set_cons_succ]))
      (refine wpAnyH_takeO (i := 1) (dst := (some 49)) (op := (Go.Op.indexAddr 23 (Go.Operand.tmp 4) (Go.Operand.const (Go.Value.int Go.IntKind.i64 0)))) (v := ?_) (by rfl) (by kernel_rfl) (by kernel_rfl) (by kernel_rfl) (fun _ _ _ h => h) ?_ hS0 ?_; rotate_left; (focus (intro _ _ _ W HW; (try dsimp only at HW); go_simp; (try with_reducible rfl))); (try simp only [Act.put, List.setIfInBounds_toArray, List.set_cons_zero, List.set_cons_succ]))
      (refine wpAnyH_takeO (i := 2) (dst := (some 50)) (op := (Go.Op.load 9 (Go.Operand.tmp 49))) (v := ?_) (by rfl) (by kernel_rfl) (by kernel_rfl) (by kernel_rfl) (fun _ _ _ h => h) ?_ hS0 ?_; rotate_left; (focus (intro _ _ _ W HW; (try dsimp only at HW); go_simp; (try with_reducible rfl))); (try simp only [Act.put, List.setIfInBounds_toArray, List.set_cons_zero, List.set_cons_succ]))
      (refine wpAnyH_takeO (i := 3) (dst := (some 51)) (op := (Go.Op.indexAddr 23 (Go.Operand.tmp 4) (Go.Operand.const (Go.Value.int Go.IntKind.i64 1)))) (v := ?_) (by rfl) (by kernel_rfl) (by kernel_rfl) (by kernel_rfl) (fun _ _ _ h => h) ?_ hS0 ?_; rotate_left; (focus (intro _ _ _ W HW; (try dsimp only at HW); go_simp; (try with_reducible rfl))); (try simp only [Act.put, List.setIfInBounds_toArray, List.set_cons_zero, List.set_cons_succ]))
      (refine wpAnyH_takeO (i := 4) (dst := (some 52)) (op := (Go.Op.load 9 (Go.Operand.tmp 51))) (v := ?_) (by rfl) (by kernel_rfl) (by kernel_rfl) (by kernel_rfl) (fun _ _ _ h => h) ?_ hS0 ?_; rotate_left; (focus (intro _ _ _ W HW; (try dsimp only at HW); go_simp; (try with_reducible rfl))); (try simp only [Act.put, List.setIfInBounds_toArray, List.set_cons_zero, List.set_cons_succ]))
      (refine wpAnyH_takeO (i := 5) (dst := (some 53)) (op := (Go.Op.move (Go.Operand.tmp 2))) (v := ?_) (by rfl) (by kernel_rfl) (by kernel_rfl) (by kernel_rfl) (fun _ _ _ h => h) ?_ hS0 ?_; rotate_left; (focus (intro _ _ _ W HW; (try dsimp only at HW); go_simp; (try with_reducible rfl))); (try simp only [Act.put, List.setIfInBounds_toArray, List.set_cons_zero, List.set_cons_succ]))
      (refine wpAnyH_takeO (i := 7) (dst := (some 55)) (op := (Go.Op.move (Go.Operand.tmp 11))) (v := ?_) (by rfl) (by kernel_rfl) (by kernel_rfl) (by kernel_rfl) (fun _ _ _ h => h) ?_ hS0 ?_; rotate_left; (focus (intro _ _ _ W HW; (try dsimp only at HW); go_simp; (try with_reducible rfl))); (try simp only [Act.put, List.setIfInBounds_toArray, List.set_cons_zero, List.set_cons_succ]))
      (refine wpAnyH_takeO (i := 8) (dst := (some 56)) (op := (Go.Op.indexAddr 23 (Go.Operand.tmp 4) (Go.Operand.const (Go.Value.int Go.IntKind.i64 0)))) (v := ?_) (by rfl) (by kernel_rfl) (by kernel_rfl) (by kernel_rfl) (fun _ _ _ h => h) ?_ hS0 ?_; rotate_left; (focus (intro _ _ _ W HW; (try dsimp only at HW); go_simp; (try with_reducible rfl))); (try simp only [Act.put, List.setIfInBounds_toArray, List.set_cons_zero, List.set_cons_succ]))
      (refine wpAnyH_takeO (i := 9) (dst := (some 57)) (op := (Go.Op.load 9 (Go.Operand.tmp 56))) (v := ?_) (by rfl) (by kernel_rfl) (by kernel_rfl) (by kernel_rfl) (fun _ _ _ h => h) ?_ hS0 ?_; rotate_left; (focus (intro _ _ _ W HW; (try dsimp only at HW); go_simp; (try with_reducible rfl))); (try simp only [Act.put, List.setIfInBounds_toArray, List.set_cons_zero, List.set_cons_succ]))
      (refine wpAnyH_takeO (i := 10) (dst := (some 58)) (op := (Go.Op.indexAddr 23 (Go.Operand.tmp 4) (Go.Operand.const (Go.Value.int Go.IntKind.i64 1)))) (v := ?_) (by rfl) (by kernel_rfl) (by kernel_rfl) (by kernel_rfl) (fun _ _ _ h => h) ?_ hS0 ?_; rotate_left; (focus (intro _ _ _ W HW; (try dsimp only at HW); go_simp; (try with_reducible rfl))); (try simp only [Act.put, List.setIfInBounds_toArray, List.set_cons_zero, List.set_cons_succ]))
      (refine wpAnyH_takeO (i := 11) (dst := (some 59)) (op := (Go.Op.load 9 (Go.Operand.tmp 58))) (v := ?_) (by rfl) (by kernel_rfl) (by kernel_rfl) (by kernel_rfl) (fun _ _ _ h => h) ?_ hS0 ?_; rotate_left; (focus (intro _ _ _ W HW; (try dsimp only at HW); go_simp; (try with_reducible rfl))); (try simp only [Act.put, List.setIfInBounds_toArray, List.set_cons_zero, List.set_cons_succ]))
      (refine wpAnyH_takeO (i := 12) (dst := (some 60)) (op := (Go.Op.move (Go.Operand.tmp 2))) (v := ?_) (by rfl) (by kernel_rfl) (by kernel_rfl) (by kernel_rfl) (fun _ _ _ h => h) ?_ hS0 ?_; rotate_left; (focus (intro _ _ _ W HW; (try dsimp only at HW); go_simp; (try with_reducible rfl))); (try simp only [Act.put, List.setIfInBounds_toArray, List.set_cons_zero, List.set_cons_succ]))
      refine wpAnyH_call (i := 6) (dst := (some 54)) (op := (Go.Op.call { callee := (Go.Callee.value (Go.Operand.func 13)), args := #[(Go.Operand.tmp 48), (Go.Operand.tmp 50), (Go.Operand.tmp 52), (Go.Operand.tmp 53)], argTypes := #[28, 9, 9, 3] })) (f := 13) (vs := #[.pointer (some ⟨tb, 0, none⟩), encS w0, encS w1, .int .i64 most]) (by kernel_rfl) (by rfl) (fun _ _ _ => by go_simp) ?_
      refine hkeys.mono ?_
      rintro e w9 ⟨v9, rfl, hv9, hU9⟩
      have hS9 : w9.cell? ⟨w.heap.size, 0, none⟩ = some (encS w0) ∧ w9.cell? ⟨w.heap.size, 1, none⟩ = some (encS w1) := ⟨hU9.cell hS0.1 (by simp), hU9.cell hS0.2 (by simp)⟩
      refine ⟨v9, rfl, hS9, ?_⟩
      (try simp only [Act.put, List.setIfInBounds_toArray, List.set_cons_zero, List.set_cons_succ])
      refine wpAnyH_call (i := 13) (dst := (some 61)) (op := (Go.Op.call { callee := (Go.Callee.value (Go.Operand.func 14)), args := #[(Go.Operand.tmp 55), (Go.Operand.tmp 57), (Go.Operand.tmp 59), (Go.Operand.tmp 60)], argTypes := #[33, 9, 9, 3] })) (f := 14) (vs := #[(.slice none 0 0), encS w0, encS w1, .int .i64 most]) (by kernel_rfl) (by rfl) (fun _ _ _ => by go_simp) ?_
      refine (hrk w9 (hUd8.trans0 hU9)).mono ?_
      rintro e w10 ⟨v10, rfl, hv10, hU10⟩
      have hS10 : w10.cell? ⟨w.heap.size, 0, none⟩ = some (encS w0) ∧ w10.cell? ⟨w.heap.size, 1, none⟩ = some (encS w1) := ⟨hU10.cell hS9.1 (by simp), hU10.cell hS9.2 (by simp)⟩
      refine ⟨v10, rfl, hS10, ?_⟩
      (try simp only [Act.put, List.setIfInBounds_toArray, List.set_cons_zero, List.set_cons_succ])
      (refine wpAnyH_takeO (i := 14) (dst := (some 12)) (op := (Go.Op.assign (Go.Operand.tmp 54))) (v := ?_) (by rfl) (by kernel_rfl) (by kernel_rfl) (by kernel_rfl) (fun _ _ _ h => h) ?_ hS10 ?_; rotate_left; (focus (intro _ _ _ W HW; (try dsimp only at HW); go_simp; (try with_reducible rfl))); (try simp only [Act.put, List.setIfInBounds_toArray, List.set_cons_zero, List.set_cons_succ]))
      (refine wpAnyH_takeO (i := 15) (dst := (some 13)) (op := (Go.Op.assign (Go.Operand.tmp 61))) (v := ?_) (by rfl) (by kernel_rfl) (by kernel_rfl) (by kernel_rfl) (fun _ _ _ h => h) ?_ hS10 ?_; rotate_left; (focus (intro _ _ _ W HW; (try dsimp only at HW); go_simp; (try with_reducible rfl))); (try simp only [Act.put, List.setIfInBounds_toArray, List.set_cons_zero, List.set_cons_succ]))
      refine wpAnyH_done (by kernel_rfl) ?_ _
      have hR9 : Rd w10 9 1 v9 kk.length (kk.map encS) := (Rd.of_own hv9).upd0 hU10
      have hR10 := Rd.of_own hv10
      obtain ⟨ao9, cap9, hs9, _⟩ := hR9.shape
      subst hs9
      obtain ⟨ao10, cap10, hs10, _⟩ := hR10.shape
      subst hs10
      have hU810 := (hUd8.trans0 hU9).trans0 hU10
      have hfind := fun (W : World) (hU : Upd [] w8 W) => ref_Find W (.slice none 0 0) m (hv8.upd0 hU) w0 HOK.out.len
      have hgetb : ((aget w0 m).getD []).length ≤ 1073741824 := by
        cases hc : aget w0 m with
        | none => simp
        | some u => have := (HOK.out.keys _ ((aget_some HOK.out.srt.nodup).1 hc)).2.2; simp; simp at this; omega
      have hget := fun (W : World) (hU : Upd [] w8 W) => table_get W d tb S7 _ (hT8.upd0 hU) w0 hgetb
      have hvb : ((aget w0 m).getD []).length ≤ 1000000000 := by
        cases hc : aget w0 m with
        | none => simp
        | some u => have := (HOK.out.keys _ ((aget_some HOK.out.srt.nodup).1 hc)).2.2; simpa using this
      have hpf := pfind_aget HOK.out.srt w0
      have hpl := pfind_le w0 m
      have HIS := Lib.hid (fun (W : World) (hU : Upd [] w8 W) => law_Is W d tb S7 _ (hT8.upd0 hU) HOK.out (.slice none 0 0) m (hv8.upd0 hU))
      have HU08 := Lib.hid (hUx.trans0 hUx8)
      clear hkeys hrk hdo hap hT8 hT7 hT6 hT3 hv6 hS0 hS9 hUd8 hU9 hU10
      go_wp2_with fail
      go_loopw [69] (fun x W => KLoop w10 kk.length x W) (fun x _ => kk.length - (intOf x).toNat)
      case atStart => exact ⟨0, rfl, Nat.zero_le _, Upd.refl _ _⟩
      case round =>
        obtain ⟨i, rfl, hi, hUr⟩ := hrel
        obtain ⟨wb, rfl⟩ : ∃ wb, wb = wr := ⟨wr, rfl⟩
        have hll := HKL.out
        by_cases hlt : i < kk.length
        · have htt : decide ((i : Int) < (kk.length : Int)) = true := by simp; omega
          obtain ⟨k, hk⟩ : ∃ k, kk[i]? = some k := ⟨_, List.getElem?_eq_getElem hlt⟩
          obtain ⟨b1, o1, rfl, hc1⟩ := hR9.x.at (by simp; omega)
          obtain ⟨b2, o2, rfl, hc2⟩ := hR10.x.at (by simp; omega)
          have d1 := hUr.cell (hc1 i (encS k) (by simp [hk])) (by simp)
          have d2 := hUr.cell (hc2 i (encS k) (by simp [hk])) (by simp)
          have hkk : (!k == k) = false := by simp
          have i0 : (0 : Int) ≤ (i : Int) := by omega
          have i1 : (i : Int) < (kk.length : Int) := by omega
          have hS1 : wb.drew.cell? ⟨b1, o1 + i, none⟩ = some (encS k) ∧ wb.drew.cell? ⟨b2, o2 + i, none⟩ = some (encS k) := ⟨d1, d2⟩
          clear hc1 hc2 hk
          go_wp2_with fail
          refine wp_region_H (fun W => W.cell? ⟨b1, o1 + i, none⟩ = some (encS k) ∧ W.cell? ⟨b2, o2 + i, none⟩ = some (encS k)) (by kernel_rfl) ?_
          (refine wpAnyH_takeO (i := 0) (dst := (some 72)) (op := (Go.Op.move (Go.Operand.tmp 12))) (v := ?_) (by rfl) (by kernel_rfl) (by kernel_rfl) (by kernel_rfl) (fun _ _ _ h => h) ?_ hS1 ?_; rotate_left; (focus (intro _ _ _ W HW; (try dsimp only at HW); go_simp; (try with_reducible rfl))); (try simp only [Act.put, List.setIfInBounds_toArray, List.set_cons_zero, List.set_cons_succ]))
          (refine wpAnyH_takeO (i := 1) (dst := (some 73)) (op := (Go.Op.move (Go.Operand.tmp 14))) (v := ?_) (by rfl) (by kernel_rfl) (by kernel_rfl) (by kernel_rfl) (fun _ _ _ h => h) ?_ hS1 ?_; rotate_left; (focus (intro _ _ _ W HW; (try dsimp only at HW); go_simp; (try with_reducible rfl))); (try simp only [Act.put, List.setIfInBounds_toArray, List.set_cons_zero, List.set_cons_succ]))
          (refine wpAnyH_takeO (i := 2) (dst := (some 74)) (op := (Go.Op.indexAddr 38 (Go.Operand.tmp 72) (Go.Operand.tmp 73))) (v := ?_) (by rfl) (by kernel_rfl) (by kernel_rfl) (by kernel_rfl) (fun _ _ _ h => h) ?_ hS1 ?_; rotate_left; (focus (intro _ _ _ W HW; (try dsimp only at HW); go_simp; (try with_reducible rfl))); (try simp only [Act.put, List.setIfInBounds_toArray, List.set_cons_zero, List.set_cons_succ]))
          (refine wpAnyH_takeO (i := 3) (dst := (some 75)) (op := (Go.Op.load 9 (Go.Operand.tmp 74))) (v := ?_) (by rfl) (by kernel_rfl) (by kernel_rfl) (by kernel_rfl) (fun _ _ _ h => h) ?_ hS1 ?_; rotate_left; (focus (intro _ _ _ W HW; (try dsimp only at HW); go_simp; (try with_reducible rfl))); (try simp only [Act.put, List.setIfInBounds_toArray, List.set_cons_zero, List.set_cons_succ]))
          (refine wpAnyH_takeO (i := 4) (dst := (some 76)) (op := (Go.Op.move (Go.Operand.tmp 13))) (v := ?_) (by rfl) (by kernel_rfl) (by kernel_rfl) (by kernel_rfl) (fun _ _ _ h => h) ?_ hS1 ?_; rotate_left; (focus (intro _ _ _ W HW; (try dsimp only at HW); go_simp; (try with_reducible rfl))); (try simp only [Act.put, List.setIfInBounds_toArray, List.set_cons_zero, List.set_cons_succ]))
          (refine wpAnyH_takeO (i := 5) (dst := (some 77)) (op := (Go.Op.move (Go.Operand.tmp 14))) (v := ?_) (by rfl) (by kernel_rfl) (by kernel_rfl) (by kernel_rfl) (fun _ _ _ h => h) ?_ hS1 ?_; rotate_left; (focus (intro _ _ _ W HW; (try dsimp only at HW); go_simp; (try with_reducible rfl))); (try simp only [Act.put, List.setIfInBounds_toArray, List.set_cons_zero, List.set_cons_succ]))
          (refine wpAnyH_takeO (i := 6) (dst := (some 78)) (op := (Go.Op.indexAddr 38 (Go.Operand.tmp 76) (Go.Operand.tmp 77))) (v := ?_) (by rfl) (by kernel_rfl) (by kernel_rfl) (by kernel_rfl) (fun _ _ _ h => h) ?_ hS1 ?_; rotate_left; (focus (intro _ _ _ W HW; (try dsimp only at HW); go_simp; (try with_reducible rfl))); (try simp only [Act.put, List.setIfInBounds_toArray, List.set_cons_zero, List.set_cons_succ]))
          (refine wpAnyH_takeO (i := 7) (dst := (some 79)) (op := (Go.Op.load 9 (Go.Operand.tmp 78))) (v := ?_) (by rfl) (by kernel_rfl) (by kernel_rfl) (by kernel_rfl) (fun _ _ _ h => h) ?_ hS1 ?_; rotate_left; (focus (intro _ _ _ W HW; (try dsimp only at HW); go_simp; (try with_reducible rfl))); (try simp only [Act.put, List.setIfInBounds_toArray, List.set_cons_zero, List.set_cons_succ]))
          (refine wpAnyH_takeO (i := 8) (dst := (some 80)) (op := (Go.Op.binOp Go.BinOp.neq 9 (Go.Operand.tmp 75) (Go.Operand.tmp 79) 9)) (v := ?_) (by rfl) (by kernel_rfl) (by kernel_rfl) (by kernel_rfl) (fun _ _ _ h => h) ?_ hS1 ?_; rotate_left; (focus (intro _ _ _ W HW; (try dsimp only at HW); go_simp; (try with_reducible rfl))); (try simp only [Act.put, List.setIfInBounds_toArray, List.set_cons_zero, List.set_cons_succ]))
          refine wpAnyH_done (by kernel_rfl) ?_ _
          go_wp2_with fail
          exact ⟨⟨i + 1, by simp, hlt, hUr.trans0 (Upd.drew [] _)⟩, by simp [intOf]; omega⟩
        · have htt : decide ((i : Int) < (kk.length : Int)) = false := by simp; omega
          have hU8b := hU810.trans0 hUr
          have y0 := hUr.cell hS10.1 (by simp)
          obtain ⟨ll, hlv, hvb2, hgetw⟩ : ∃ ll : List UInt8, ll = (aget w0 m).getD [] ∧ ll.length ≤ 1000000000 ∧ Calls Try.prog 15 #[.pointer (some ⟨tb, 0, none⟩), encS w0] wb (fun e w' => ∃ x, e = .returned (.tuple #[x, .bool (aget w0 m).isSome]) ∧ OwnBy w' wb.heap.size x ll ∧ Upd [] wb w') := ⟨_, rfl, hvb, hget wb hU8b⟩
          have HLV := Lib.hid hlv
          clear hlv
          obtain ⟨mcells, hmR, hmC⟩ := hv8
          have HML := Lib.hid HOK.out.len
          have HVB := Lib.hid hvb2
          clear hgetb hget hll hvb hvb2
          generalize hn : pfind w0 m = n at *
          clear hn
          cases hat : m[n]? with
          | none =>
            rw [hat] at hpf
            have htl : decide ((n : Int) < (m.length : Int)) = false := by rw [List.getElem?_eq_none_iff] at hat; simp; omega
            have hnl : ¬ n < m.length := by rw [List.getElem?_eq_none_iff] at hat; omega
            have hn0 : ¬ ((n : Int) < 0) := by omega
            have hn1 : decide ((n : Int) < 0) = false := by simp
            rw [hpf] at hgetw
            clear hat hpl hpf
            go_wp2_with (first
              | (go_at_call 15; refine hgetw.mono ?_; rintro e w12 ⟨v12, rfl, hv12, hU12⟩; (have y12 := hU12.cell y0 (by simp)); (have hb12 := hv12.by); obtain ⟨ao12, cap12, hs12⟩ := By.val hb12; subst hs12)
              | (go_at_call 16; refine (hfind w12 (hU8b.trans0 hU12)).mono ?_; rintro e w13 ⟨rfl, rfl⟩))
            have hS12 : w12.drew.cell? ⟨w.heap.size, 0, none⟩ = some (encS w0) := y12
            refine wp_region_H (fun W => W.cell? ⟨w.heap.size, 0, none⟩ = some (encS w0)) (by kernel_rfl) ?_
            (refine wpAnyH_takeO (i := 0) (dst := (some 93)) (op := (Go.Op.move (Go.Operand.tmp 17))) (v := ?_) (by rfl) (by kernel_rfl) (by kernel_rfl) (by kernel_rfl) (fun _ _ _ h => h) ?_ hS12 ?_; rotate_left; (focus (intro _ _ _ W HW; (try dsimp only at HW); go_simp; (try with_reducible rfl))); (try simp only [Act.put, List.setIfInBounds_toArray, List.set_cons_zero, List.set_cons_succ]))
            (refine wpAnyH_takeO (i := 1) (dst := (some 94)) (op := (Go.Op.move (Go.Operand.tmp 11))) (v := ?_) (by rfl) (by kernel_rfl) (by kernel_rfl) (by kernel_rfl) (fun _ _ _ h => h) ?_ hS12 ?_; rotate_left; (focus (intro _ _ _ W HW; (try dsimp only at HW); go_simp; (try with_reducible rfl))); (try simp only [Act.put, List.setIfInBounds_toArray, List.set_cons_zero, List.set_cons_succ]))
            (refine wpAnyH_takeO (i := 2) (dst := (some 95)) (op := (Go.Op.call { callee := (Go.Callee.builtin Go.Builtin.len), args := #[(Go.Operand.tmp 94)], argTypes := #[33] })) (v := ?_) (by rfl) (by kernel_rfl) (by kernel_rfl) (by kernel_rfl) (fun _ _ _ h => h) ?_ hS12 ?_; rotate_left; (focus (intro _ _ _ W HW; (try dsimp only at HW); go_simp; (try with_reducible rfl))); (try simp only [Act.put, List.setIfInBounds_toArray, List.set_cons_zero, List.set_cons_succ]))
            (refine wpAnyH_takeO (i := 3) (dst := (some 96)) (op := (Go.Op.binOp Go.BinOp.lss 3 (Go.Operand.tmp 93) (Go.Operand.tmp 95) 3)) (v := ?_) (by rfl) (by kernel_rfl) (by kernel_rfl) (by kernel_rfl) (fun _ _ _ h => h) ?_ hS12 ?_; rotate_left; (focus (intro _ _ _ W HW; (try dsimp only at HW); go_simp; (try with_reducible rfl))); (try simp only [Act.put, List.setIfInBounds_toArray, List.set_cons_zero, List.set_cons_succ]))
            (refine wpAnyH_takeO (i := 4) (dst := (some 97)) (op := (Go.Op.move (Go.Operand.tmp 96))) (v := ?_) (by rfl) (by kernel_rfl) (by kernel_rfl) (by kernel_rfl) (fun _ _ _ h => h) ?_ hS12 ?_; rotate_left; (focus (intro _ _ _ W HW; (try dsimp only at HW); go_simp; (try with_reducible rfl))); (try simp only [Act.put, List.setIfInBounds_toArray, List.set_cons_zero, List.set_cons_succ]))
            (refine wpAnyH_takeU (i := 5) (dst := (some 98)) (op := (Go.Op.move (Go.Operand.tmp 11))) (by rfl) (by kernel_rfl) (by kernel_rfl) (by kernel_rfl) (b' := false) (by rfl) (by rfl) (fun _ _ _ h => h) hS12 ?_; (try simp only [Act.put, List.setIfInBounds_toArray, List.set_cons_zero, List.set_cons_succ]))
            (refine wpAnyH_takeU (i := 6) (dst := (some 99)) (op := (Go.Op.move (Go.Operand.tmp 17))) (by rfl) (by kernel_rfl) (by kernel_rfl) (by kernel_rfl) (b' := false) (by rfl) (by rfl) (fun _ _ _ h => h) hS12 ?_; (try simp only [Act.put, List.setIfInBounds_toArray, List.set_cons_zero, List.set_cons_succ]))
            (refine wpAnyH_takeU (i := 7) (dst := (some 100)) (op := (Go.Op.indexAddr 33 (Go.Operand.tmp 98) (Go.Operand.tmp 99))) (by rfl) (by kernel_rfl) (by kernel_rfl) (by kernel_rfl) (b' := false) (by rfl) (by rfl) (fun _ _ _ h => h) hS12 ?_; (try simp only [Act.put, List.setIfInBounds_toArray, List.set_cons_zero, List.set_cons_succ]))
            (refine wpAnyH_takeU (i := 8) (dst := (some 101)) (op := (Go.Op.fieldAddr 46 (Go.Operand.tmp 100) 0)) (by rfl) (by kernel_rfl) (by kernel_rfl) (by kernel_rfl) (b' := false) (by rfl) (by rfl) (fun _ _ _ h => h) hS12 ?_; (try simp only [Act.put, List.setIfInBounds_toArray, List.set_cons_zero, List.set_cons_succ]))
            (refine wpAnyH_takeU (i := 9) (dst := (some 102)) (op := (Go.Op.load 9 (Go.Operand.tmp 101))) (by rfl) (by kernel_rfl) (by kernel_rfl) (by kernel_rfl) (b' := false) (by rfl) (by rfl) (fun _ _ _ h => h) hS12 ?_; (try simp only [Act.put, List.setIfInBounds_toArray, List.set_cons_zero, List.set_cons_succ]))
            (refine wpAnyH_takeU (i := 10) (dst := (some 103)) (op := (Go.Op.indexAddr 23 (Go.Operand.tmp 4) (Go.Operand.const (Go.Value.int Go.IntKind.i64 0)))) (by rfl) (by kernel_rfl) (by kernel_rfl) (by kernel_rfl) (b' := false) (by rfl) (by rfl) (fun _ _ _ h => h) hS12 ?_; (try simp only [Act.put, List.setIfInBounds_toArray, List.set_cons_zero, List.set_cons_succ]))
            (refine wpAnyH_takeU (i := 11) (dst := (some 104)) (op := (Go.Op.load 9 (Go.Operand.tmp 103))) (by rfl) (by kernel_rfl) (by kernel_rfl) (by kernel_rfl) (b' := false) (by rfl) (by rfl) (fun _ _ _ h => h) hS12 ?_; (try simp only [Act.put, List.setIfInBounds_toArray, List.set_cons_zero, List.set_cons_succ]))
            (refine wpAnyH_takeU (i := 12) (dst := (some 105)) (op := (Go.Op.binOp Go.BinOp.eql 9 (Go.Operand.tmp 102) (Go.Operand.tmp 104) 9)) (by rfl) (by kernel_rfl) (by kernel_rfl) (by kernel_rfl) (b' := false) (by rfl) (by rfl) (fun _ _ _ h => h) hS12 ?_; (try simp only [Act.put, List.setIfInBounds_toArray, List.set_cons_zero, List.set_cons_succ]))
            (refine wpAnyH_takeO (i := 13) (dst := (some 106)) (op := (Go.Op.pick (Go.Operand.tmp 97) (Go.Operand.tmp 105) (Go.Operand.const (Go.Value.bool false)))) (v := ?_) (by rfl) (by kernel_rfl) (by kernel_rfl) (by kernel_rfl) (fun _ _ _ h => h) ?_ hS12 ?_; rotate_left; (focus (intro _ _ _ W HW; (try dsimp only at HW); go_simp; (try with_reducible rfl))); (try simp only [Act.put, List.setIfInBounds_toArray, List.set_cons_zero, List.set_cons_succ]))
            (refine wpAnyH_takeO (i := 14) (dst := (some 18)) (op := (Go.Op.assign (Go.Operand.tmp 106))) (v := ?_) (by rfl) (by kernel_rfl) (by kernel_rfl) (by kernel_rfl) (fun _ _ _ h => h) ?_ hS12 ?_; rotate_left; (focus (intro _ _ _ W HW; (try dsimp only at HW); go_simp; (try with_reducible rfl))); (try simp only [Act.put, List.setIfInBounds_toArray, List.set_cons_zero, List.set_cons_succ]))
            refine wpAnyH_done (by kernel_rfl) ?_ _
            have hU14 : Upd [] w12 w12.drew := Upd.drew [] _
            generalize hw14 : w12.drew = w14 at *
            have HX := Lib.hid (show OwnBy w14 wb.heap.size _ _ ∧ Upd [] wb w14 from ⟨Own.upd0 hv12 hU14, hU12.trans0 hU14⟩)
            clear hv12 hb12 hw14
            go_wp2_with fail
            go_loopw [125] (fun x W => XorRel wb (.slice ao12 ll.length cap12) ll x W) (fun x _ => ll.length - (intOf x).toNat)
            case atStart => exact ⟨0, ll.map enc, rfl, Nat.zero_le _, HX.out.1, fun _ _ => rfl, HX.out.2⟩
            case round =>
              obtain ⟨i, xs, rfl, hi, hown, hxs, hUw⟩ := hrel
              have hll9 := HVB.out
              by_cases hlt : i < ll.length
              · have htt : decide ((i : Int) < (ll.length : Int)) = true := by simp; omega
                obtain ⟨b, hb⟩ : ∃ b, ll[i]? = some b := ⟨_, List.getElem?_eq_getElem hlt⟩
                have hxi : xs[i]? = some (enc b) := by rw [hxs i (Nat.le_refl _)]; simp [hb]
                have HXS := Lib.hid hxs
                clear hxs hb
                go_wp2_with ((with_reducible show wpList _ _ _ (⟨_, .indexAddr _ _ _, _, _, _, _⟩ :: _) _ _); refine wpl_indexAddr_el elU8 rfl rfl hown rfl rfl (by omega) (by omega) ?_; intro g hg1 hcell hfr hst; rw [Int.toNat_natCast, Nat.mul_one, hxi] at hcell; rw [Int.toNat_natCast, Nat.mul_one] at hfr hst ⊢)
                exact ⟨⟨i + 1, xs.set i _, by simp, hlt, (hst _).1, fun j hj => by rw [List.getElem?_set_ne (by omega)]; exact HXS.out j (by omega), hUw.own hown (hst _).2⟩, by simp [intOf]; omega⟩
              · have htt : decide ((i : Int) < (ll.length : Int)) = false := by simp; omega
                have his := HIS.out wr (hU8b.trans0 hUw)
                clear hxs
                go_wp2_with (go_at_call 18; refine his.mono ?_; rintro e w15 ⟨rfl, hU15⟩)
                go_ret
                exact ⟨by simp, ((HU08.out.trans0 hU8b).trans0 hUw).trans0 hU15⟩
          | some p =>
            exact absurd hat (by rw [List.eq_nil_of_length_eq_zero HM0.out]; simp)
end Go.Proofs.Ythfbfdkjgkkpcaa

namespace Go.Proofs.Ythfbfdkjgkkpcaa

abbrev Prl := List (List UInt8 × List UInt8)
/-- The bytes of a journal come to the pairs c. -/
def Rdg (c : Prl) (b : List UInt8) : Prop := recsB [] (scanB b).1 = some c
structure Bd (k : Nat) (m : Prl) : Prop where
  srt : Srt m
  len : m.length ≤ 40 * k
  keys : ∀ p ∈ m, p.1 ≠ [] ∧ p.1.length ≤ 320 ∧ p.2.length ≤ 500
theorem Bd.mono {k : Nat} {m : Prl} (h : Bd k m) : Bd (k + 1) m := ⟨h.srt, by have := h.len; omega, h.keys⟩
theorem encGo_bad : ∀ (l : List TChg) (pre : List UInt8), (encGo pre l).2 = 0 → ∀ c ∈ l, badChg c = false := fun l pre h => (encGo_ok l pre h).2
theorem encB_bad {l : List TChg} (h : (encB l).2 = 0) : ∀ c ∈ l, badChg c = false := by
  unfold encB at h
  split at h
  · simp at h
  · exact encGo_bad l _ h
theorem Bd.tdo {k : Nat} {m : Prl} (h : Bd k m) {l : List TChg} (he : (encB l).2 = 0) (hs : smallB l = true) : Bd (k + 1) (tdo m l) := by
  have hp := small_parts hs
  refine ⟨h.srt.tdo l, ?_, tdo_keys (fun p => p.1 ≠ [] ∧ p.1.length ≤ 320 ∧ p.2.length ≤ 500) h.keys ?_⟩
  · have h1 := tdo_length l m
    have h2 := h.len
    have h3 := hp.1
    omega
  · intro c hc
    have hb := encB_bad he c hc
    unfold badChg at hb
    rw [decide_eq_false_iff_not] at hb
    refine ⟨encB_keys he c hc, ?_, (hp.2 c hc).2⟩
    rcases Nat.lt_or_ge 320 c.key.length with h9 | h9
    · exact absurd (.inr (.inl h9)) hb
    · exact h9
/-- What may last: the pairs now, or those of the call that was cut. -/
def RC (k : Nat) (now next : Prl) (cut : Bool) (f : Files) : Prop :=
  ∃ c b y, Fv f b y ∧ Rdg c b ∧ (c = now ∨ cut = true ∧ c = next) ∧ b.length ≤ 40000 * k ∧ (y.getD []).length ≤ 40000 * k
theorem RC.mono {k : Nat} {now next : Prl} {cut : Bool} {f : Files} (h : RC k now next cut f) : RC (k + 1) now next cut f := by
  obtain ⟨c, b, y, h1, h2, h3, h4, h5⟩ := h
  exact ⟨c, b, y, h1, h2, h3, by omega, by omega⟩
theorem Dead.mono {R R' : Files → Prop} {F : Int} {D : DSt} (h : Dead R F D) (hR : ∀ f, R f → R' f) : Dead R' F D := ⟨h.room, h.down, Path.mono hR _ _ h.path, h.fu⟩
theorem Up.any {F : Int} {D : DSt} {b : List UInt8} {y : Option (List UInt8)} (h : Up F D b y) : Up 0 D b y := ⟨h.room, h.down, h.loose, h.sure, h.fv, fun e => by omega⟩
theorem Dead.any {R : Files → Prop} {F : Int} {D : DSt} (h : Dead R F D) : Dead R 0 D := ⟨h.room, h.down, h.path, by omega⟩
/-- A table whose power is on, with the pairs now. -/
def Live (k : Nat) (T : TSt) (now : Prl) : Prop :=
  T.m = now ∧ ∃ b y, Up 0 T.J.D b y ∧ (scanB b).2 = b.length ∧ Rdg now b ∧ b.length ≤ 40000 * k ∧ (y.getD []).length ≤ 40000 * k
structure Inv (k : Nat) (T : TSt) (now next : Prl) (cut : Bool) : Prop where
  name : T.J.name = tn
  size : T.J.size ≤ 40000 * k
  small : Small T.J.D (10000 * k + 10)
  bd : Bd k T.m
  bnow : Bd k now
  bnext : Bd k next
  st : (T.down = false ∧ cut = false ∧ Live k T now) ∨ (T.down = true ∧ cut = true ∧ Dead (RC k now next true) 0 T.J.D)
theorem Inv.tok {k : Nat} {T : TSt} {now next : Prl} {cut : Bool} (h : Inv k T now next cut) (hk : k ≤ 1000) : TOk T :=
  ⟨h.bd.srt, fun p hp => by have := h.bd.keys p hp; exact ⟨this.1, by omega, by omega⟩, by have := h.bd.len; omega⟩
theorem Inv.next {k : Nat} {T : TSt} {now next : Prl} {cut : Bool} (h : Inv k T now next cut) : Inv (k + 1) T now next cut := by
  refine ⟨h.name, by have := h.size; omega, h.small.mono (by omega), h.bd.mono, h.bnow.mono, h.bnext.mono, ?_⟩
  rcases h.st with ⟨h1, h2, h3, b, y, h4, h5, h6, h7, h8⟩ | ⟨h1, h2, h3⟩
  · exact .inl ⟨h1, h2, h3, b, y, h4, h5, h6, by omega, by omega⟩
  · exact .inr ⟨h1, h2, h3.mono (fun f hf => hf.mono)⟩

/-- A record laid behind the others. -/
theorem append_safe {J : JSt} {b : List UInt8} {y : Option (List UInt8)} {R : Files → Prop} (hn : J.name = tn) (h : Up 0 J.D b y) (p : List UInt8) (hp : p.length ≤ 1048568) (hr : b.length + (p.length + 8) + (y.getD []).length ≤ ROOM) (hR : ∀ f q, Fv f (b ++ (frameB p).take q) y → R f) (hR0 : R J.D.now) :
    ((J.append p).2 = 0 ∧ Mid R 0 (J.append p).1.D (b ++ frameB p) y ∧ (J.append p).1.name = tn ∧ (J.append p).1.size = J.size + (8 + p.length)) ∨ ((J.append p).2 = 5 ∧ Dead R 0 (J.append p).1.D ∧ (J.append p).1.name = tn ∧ (J.append p).1.size = J.size) := by
  have hf := h.fv
  have hu := hf.used
  have hl := frameB_length p
  have ha : J.D.append J.name (frameB p) = J.D.does ⟨1, tn, [], frameB p⟩ := by
    rw [hn]
    unfold DSt.append
    rw [if_neg (by simp [h.down]), if_neg (by rw [hf.t]; simp), if_neg (by omega), if_neg (by rw [h.room, hu]; omega)]
  have hd := (h.mid hR0).does ⟨1, tn, [], frameB p⟩ (hf.appTn _ _) (hR _ (frameB p).length (by rw [List.take_length]; exact hf.appTn _ _)) (fun _ q => hR _ q (hf.appTn _ _))
  unfold JSt.append
  rw [if_neg (by omega), ha]
  rcases hd with ⟨g1, g2⟩ | ⟨g1, g2⟩
  · rw [if_pos g1]; exact .inl ⟨rfl, g2, hn, rfl⟩
  · rw [if_neg (by omega)]; exact .inr ⟨g1, g2, hn, rfl⟩
theorem Small.japp {J : JSt} {n : Nat} (h : Small J.D n) (p : List UInt8) : Small (J.append p).1.D (n + 1) := by
  unfold JSt.append
  repeat' split
  · exact h.mono (by omega)
  · exact h.append _ _
  · exact h.append _ _
theorem Live.read {now : Prl} {b p : List UInt8} (hc : (scanB b).2 = b.length) (hr : Rdg now b) (l : List TChg) (he : (encB l).2 = 0) (q : Nat) (hp : (encB l).1 = p) : Rdg (if q < (frameB p).length then now else tdo now l) (b ++ (frameB p).take q) := by
  have hlen := encB_len l
  rw [hp] at hlen
  unfold Rdg
  rw [scan_part b p (by omega) hc q]
  split
  · exact hr
  · dsimp only
    rw [recsB_more, hr, Option.bind_some, ← hp, recs_enc _ _ he]
theorem Inv.apply_bad {k : Nat} {T : TSt} {now next : Prl} {cut : Bool} (h : Inv k T now next cut) (l : List TChg) (he : (encB l).2 ≠ 0) : ((T.apply l).2 = (encB l).2 ∨ (T.apply l).2 = 5) ∧ Inv (k + 1) (T.apply l).1 now next cut := by
  cases hd : T.down with
  | true => rw [show T.apply l = (T, 5) from by unfold TSt.apply; rw [if_pos hd]]; exact ⟨.inr rfl, h.next⟩
  | false => rw [Go.Proofs.Ythfbfdkjgkkpcaa.apply_bad T l hd he]; exact ⟨.inl rfl, h.next⟩
theorem Inv.apply {k : Nat} {T : TSt} {now next : Prl} {cut : Bool} (h : Inv k T now next cut) (hk : k ≤ 60) (l : List TChg) (he : (encB l).2 = 0) (hs : smallB l = true) :
    ((T.apply l).2 = 0 ∧ cut = false ∧ Inv (k + 1) (T.apply l).1 (tdo now l) next cut) ∨ ((T.apply l).2 = 5 ∧ Inv (k + 1) (T.apply l).1 now (if cut then next else tdo now l) true) := by
  have hsp := small_parts hs
  have hrl := encB_small hsp.1 hsp.2
  have hrm := encB_len l
  rcases h.st with ⟨h1, h2, h3, b, y, h4, h5, h6, h7, h8⟩ | ⟨h1, h2, h3⟩
  rotate_left
  · rw [show T.apply l = (T, 5) from by unfold TSt.apply; rw [if_pos h1]]
    right
    rw [if_pos h2]
    refine ⟨rfl, ?_⟩
    have := h.next
    rw [h2] at this
    exact this
  subst h2
  have hR : ∀ f q, Fv f (b ++ (frameB (encB l).1).take q) y → RC (k + 1) now (tdo now l) true f := by
    intro f q hf
    have hr := Live.read h5 h6 l he q rfl
    have hl := frameB_length (encB l).1
    refine ⟨_, _, y, hf, hr, ?_, by simp; omega, by omega⟩
    split
    · exact .inl rfl
    · exact .inr ⟨rfl, rfl⟩
  have ha := append_safe (R := RC (k + 1) now (tdo now l) true) h.name h4 (encB l).1 hrm (by unfold ROOM; omega) hR (hR _ 0 (by simpa using h4.fv))
  have hsm := h.small.japp (encB l).1
  have hF : T.apply l = if (T.J.append (encB l).1).2 ≠ 0 then ({ T with J := (T.J.append (encB l).1).1, down := decide ((T.J.append (encB l).1).2 = 5) }, (T.J.append (encB l).1).2)
      else if (T.J.append (encB l).1).1.sync.2 ≠ 0 then ({ T with J := (T.J.append (encB l).1).1.sync.1, down := decide ((T.J.append (encB l).1).1.sync.2 = 5) }, (T.J.append (encB l).1).1.sync.2)
      else (⟨(T.J.append (encB l).1).1.sync.1, tdo T.m l, false⟩, 0) := by unfold TSt.apply; rw [if_neg (by simp [h1]), if_neg (by simp [he])]
  rw [hF]
  clear hF
  generalize T.J.append (encB l).1 = r at *
  obtain ⟨J1, e1⟩ := r
  dsimp only at ha hsm ⊢
  rcases ha with ⟨g1, g2, g3, g4⟩ | ⟨g1, g2, g3, g4⟩
  rotate_left
  · right
    subst g1
    rw [if_pos (by decide)]
    refine ⟨rfl, g3, by show J1.size ≤ _; rw [g4]; have := h.size; omega, hsm.mono (by omega), h.bd.mono, h.bnow.mono, by simpa using h.bnow.tdo he hs, .inr ⟨rfl, rfl, by simpa using g2⟩⟩
  subst g1
  rw [if_neg (by decide)]
  have hy := g2.sync
  have hsy : J1.sync = (⟨J1.D.sync.1, J1.name, J1.size⟩, J1.D.sync.2) := rfl
  rw [hsy]
  dsimp only
  have hsm2 := hsm.sync
  have hsz : J1.size ≤ 40000 * (k + 1) := by rw [g4]; have := h.size; omega
  generalize J1.D.sync = r at *
  obtain ⟨D2, e2⟩ := r
  dsimp only at hy hsm2 ⊢
  rcases hy with ⟨g5, g6⟩ | ⟨g5, g6⟩
  · left
    subst g5
    rw [if_neg (by decide)]
    have hfl := frameB_length (encB l).1
    have hr := Live.read h5 h6 l he (frameB (encB l).1).length rfl
    rw [if_neg (by omega), List.take_length] at hr
    refine ⟨rfl, rfl, g3, hsz, hsm2.mono (by omega), by simpa [h3] using h.bnow.tdo he hs, h.bnow.tdo he hs, h.bnext.mono, .inl ⟨rfl, rfl, by rw [h3], _, y, g6, ?_, hr, by simp; omega, by omega⟩⟩
    have := scan_part b (encB l).1 (by omega) h5 (frameB (encB l).1).length
    rw [if_neg (by omega), List.take_length] at this
    rw [this]
    simp
  · right
    subst g5
    rw [if_pos (by decide)]
    exact ⟨rfl, g3, hsz, hsm2.mono (by omega), h.bd.mono, h.bnow.mono, by simpa using h.bnow.tdo he hs, .inr ⟨rfl, rfl, by simpa using g6⟩⟩
theorem foldRecs_small {k : Nat} {m : Prl} (h : Bd k m) : (∀ p ∈ foldRecs m, p.length ≤ 1048576) ∧ (framesB (foldRecs m)).length ≤ 40000 * k := by
  have hr : ∀ p ∈ foldRecs m, p.length + 8 ≤ 940 := by
    intro p hp
    rw [foldRecs_srt h.srt] at hp
    obtain ⟨q, hq, rfl⟩ := List.mem_map.1 hp
    have hk := h.keys q hq
    have h1 := encGo_small [⟨q.1, false, q.2⟩] (countB 1) (by intro c hc; simp at hc; subst hc; exact ⟨by show q.1.length ≤ 400; omega, hk.2.2⟩)
    rw [countB_lt (by omega)] at h1
    have h2 : encB [⟨q.1, false, q.2⟩] = encGo (countB 1) [⟨q.1, false, q.2⟩] := by unfold encB; rw [if_neg (by simp)]; rfl
    rw [h2, countB_lt (by omega)]
    simp at h1 ⊢
    omega
  refine ⟨fun p hp => by have := hr p hp; omega, ?_⟩
  have h1 := framesB_len_le (foldRecs m) 940 hr
  have h2 : (foldRecs m).length = m.length := by rw [foldRecs_srt h.srt, List.length_map]
  have h3 := h.len
  rw [h2] at h1
  have : 940 * m.length ≤ 940 * (40 * k) := Nat.mul_le_mul_left _ h3
  omega
theorem Inv.fold {k : Nat} {T : TSt} {now next : Prl} {cut : Bool} (h : Inv k T now next cut) (hk : k ≤ 60) :
    (T.fold.2 = 0 ∧ Inv (k + 1) T.fold.1 now next cut) ∨ (T.fold.2 = 5 ∧ Inv (k + 1) T.fold.1 now (if cut then next else now) true) := by
  rcases h.st with ⟨h1, h2, h3, b, y, h4, h5, h6, h7, h8⟩ | ⟨h1, h2, h3⟩
  rotate_left
  · rw [show T.fold = (T, 5) from by unfold TSt.fold; rw [if_pos h1]]
    right
    rw [if_pos h2]
    refine ⟨rfl, ?_⟩
    have := h.next
    rw [h2] at this
    exact this
  subst h2
  have hfs := foldRecs_small h.bd
  have hfr := fold_recs h.bd.srt (fun p hp => by have := h.bd.keys p hp; exact ⟨this.1, this.2.1, by omega⟩)
  have hsc := scan_frames (foldRecs T.m) hfs.1
  have hls := lay_safe h4 (framesB (foldRecs T.m)) (40000 * k) h8 hfs.2 (by unfold ROOM; omega)
  have hsm := h.small.lay tn tp (framesB (foldRecs T.m)) (by have := hfs.2; omega)
  have hF : T.fold = ({ T with J := (T.J.rewrite (foldRecs T.m)).1, down := decide ((T.J.rewrite (foldRecs T.m)).2 = 5) }, (T.J.rewrite (foldRecs T.m)).2) := by unfold TSt.fold; rw [if_neg (by simp [h1])]
  have hJ : T.J.rewrite (foldRecs T.m) = if (T.J.D.lay tn tp (framesB (foldRecs T.m))).2 = 0 then (⟨(T.J.D.lay tn tp (framesB (foldRecs T.m))).1, T.J.name, (framesB (foldRecs T.m)).length⟩, 0)
    else (⟨(T.J.D.lay tn tp (framesB (foldRecs T.m))).1, T.J.name, T.J.size⟩, (T.J.D.lay tn tp (framesB (foldRecs T.m))).2) := by
    unfold JSt.rewrite
    rw [show T.J.name = tn from h.name]
    rfl
  have hrd : Rdg now (framesB (foldRecs T.m)) := by unfold Rdg; rw [hsc]; show recsB [] (foldRecs T.m) = _; rw [hfr, h3]
  rw [hF, hJ]
  clear hF hJ
  generalize framesB (foldRecs T.m) = nb at *
  generalize T.J.D.lay tn tp nb = r at *
  obtain ⟨D1, e1⟩ := r
  dsimp only at hls hsm ⊢
  rcases hls with ⟨g1, g2⟩ | ⟨g1, g2⟩
  · subst g1
    left
    rw [if_pos rfl]
    refine ⟨rfl, h.name, by show nb.length ≤ _; have := hfs.2; omega, hsm.mono (by omega), h.bd.mono, h.bnow.mono, h.bnext.mono, .inl ⟨rfl, rfl, h3, nb, none, g2, ?_, hrd, by have := hfs.2; omega, by simp⟩⟩
    rw [hsc]
  · subst g1
    right
    rw [if_neg (by decide)]
    refine ⟨rfl, h.name, by show T.J.size ≤ _; have := h.size; omega, hsm.mono (by omega), h.bd.mono, h.bnow.mono, by simpa using h.bnow.mono, .inr ⟨rfl, rfl, ?_⟩⟩
    refine g2.mono ?_
    rintro f ⟨b', y', f1, f2, f3⟩
    refine ⟨now, b', y', f1, ?_, .inl rfl, ?_, by omega⟩
    · rcases f2 with rfl | rfl
      · exact h6
      · exact hrd
    · rcases f2 with rfl | rfl
      · omega
      · have := hfs.2; omega
/-- The disk of a table is another one. -/
def TSt.on (T : TSt) (D : DSt) : TSt := ⟨⟨D, T.J.name, T.J.size⟩, T.m, T.down⟩
theorem fuse_parts (D : DSt) (n : Int) : (D.setFuse n).1.loose = D.loose ∧ (D.setFuse n).1.now = D.now ∧ (D.setFuse n).1.sure = D.sure ∧ (D.setFuse n).1.down = D.down ∧ (D.setFuse n).1.room = D.room := by
  unfold DSt.setFuse
  split
  · exact ⟨rfl, rfl, rfl, rfl, rfl⟩
  · exact ⟨rfl, rfl, rfl, rfl, rfl⟩
theorem Up.fuse {F : Int} {D : DSt} {b : List UInt8} {y : Option (List UInt8)} (h : Up F D b y) (n : Int) : Up 0 (D.setFuse n).1 b y := by
  obtain ⟨e1, e2, e3, e4, e5⟩ := fuse_parts D n
  exact ⟨by rw [e5]; exact h.room, by rw [e4]; exact h.down, by rw [e1]; exact h.loose, by rw [e3, e2]; exact h.sure, by rw [e2]; exact h.fv, fun e => by omega⟩
theorem Inv.fuse {k : Nat} {T : TSt} {now next : Prl} {cut : Bool} (h : Inv k T now next cut) (n : Int) : Inv (k + 1) (T.on (T.J.D.setFuse n).1) now next cut := by
  have h' := h.next
  obtain ⟨e1, e2, e3, e4, e5⟩ := fuse_parts T.J.D n
  refine ⟨h'.name, h'.size, ⟨by show (T.J.D.setFuse n).1.loose.length ≤ _; rw [e1]; exact h'.small.1, by show (T.J.D.setFuse n).1.now.length ≤ _; rw [e2]; exact h'.small.2⟩, h'.bd, h'.bnow, h'.bnext, ?_⟩
  rcases h'.st with ⟨h1, h2, h3, b, y, h4, h5⟩ | ⟨h1, h2, h3⟩
  · exact .inl ⟨h1, h2, h3, b, y, h4.fuse n, h5⟩
  · exact .inr ⟨h1, h2, ⟨by show (T.J.D.setFuse n).1.room = _; rw [e5]; exact h3.room, by show (T.J.D.setFuse n).1.down = _; rw [e4]; exact h3.down, by show Path _ (T.J.D.setFuse n).1.sure (T.J.D.setFuse n).1.loose; rw [e3, e1]; exact h3.path, h3.fu⟩⟩
/-- A disk whose power is on, with a journal that comes to the pairs c. -/
structure Dsk (k : Nat) (F : Int) (D : DSt) (c : Prl) : Prop where
  ex : ∃ b y, Up F D b y ∧ Rdg c b ∧ b.length ≤ 40000 * k ∧ (y.getD []).length ≤ 40000 * k
theorem crash_up {R : Files → Prop} {D : DSt} (hroom : D.room = ROOM) (h : Path R D.sure D.loose) (keep part : Int) : R (D.crash keep part).now ∧ ∀ b y, Fv (D.crash keep part).now b y → Up (-1) (D.crash keep part) b y :=
  ⟨h.last keep part, fun b y hf => ⟨hroom, rfl, rfl, rfl, hf, fun _ => rfl⟩⟩
theorem Inv.crash {k : Nat} {T : TSt} {now next : Prl} {cut : Bool} (h : Inv k T now next cut) (keep part : Int) : ∃ c, Dsk k (-1) (T.J.D.crash keep part) c ∧ (c = now ∨ cut = true ∧ c = next) := by
  have hp : T.J.D.room = ROOM ∧ Path (RC k now next cut) T.J.D.sure T.J.D.loose := by
    rcases h.st with ⟨h1, h2, h3, b, y, h4, h5, h6, h7, h8⟩ | ⟨h1, h2, h3⟩
    · exact ⟨h4.room, by rw [h4.loose, h4.sure]; exact ⟨now, b, y, h4.fv, h6, .inl rfl, h7, h8⟩⟩
    · rw [h2]; exact ⟨h3.room, h3.path⟩
  obtain ⟨⟨c, b, y, g1, g2, g3, g4, g5⟩, hu⟩ := crash_up hp.1 hp.2 keep part
  exact ⟨c, ⟨b, y, hu b y g1, g2, g4, g5⟩, g3⟩
/-- What Open of a journal comes to. -/
theorem Dsk.open' {k : Nat} {F : Int} {D : DSt} {c : Prl} (h : Dsk k F D c) (hk : k ≤ 60) :
    ((D.openOld tn).2 = 0 ∧ recsB [] (scanB ((aget tn D.now).getD [])).1 = some c ∧ (scanB ((aget tn D.now).getD [])).2 ≤ 40000 * k ∧ ∃ b y, Up F (D.openOld tn).1 b y ∧ (scanB b).2 = b.length ∧ Rdg c b ∧ b.length ≤ 40000 * k ∧ (y.getD []).length ≤ 40000 * k) ∨
      ((D.openOld tn).2 = 5 ∧ Dead (RC k c c false) F (D.openOld tn).1) := by
  obtain ⟨b, y, h1, h2, h3, h4⟩ := h.ex
  have hsb := scan_bounds b.length b (Nat.le_refl _)
  have hsr := scan_recs b.length b (Nat.le_refl _)
  have hsc := scan_frames (scanB b).1 hsr
  have hthere : D.there tn = 0 := by unfold DSt.there; rw [if_neg (by simp [h1.down]), if_neg (by rw [h1.fv.t]; simp)]
  have hb : (aget tn D.now).getD [] = b := by rw [h1.fv.t]; rfl
  unfold DSt.openOld
  rw [hb, if_neg (by rw [hthere]; simp)]
  split
  · rename_i hlt
    have hls := lay_safe h1 (framesB (scanB b).1) (40000 * k) h4 (by omega) (by unfold ROOM; omega)
    rw [show tn ++ [43] = tp from rfl]
    have hrd : Rdg c (framesB (scanB b).1) := by unfold Rdg; rw [hsc]; exact h2
    rcases hls with ⟨g1, g2⟩ | ⟨g1, g2⟩
    · exact .inl ⟨g1, h2, by omega, _, none, g2, by rw [hsc], hrd, by omega, by simp⟩
    · refine .inr ⟨g1, g2.mono ?_⟩
      rintro f ⟨b', y', f1, f2, f3⟩
      refine ⟨c, b', y', f1, ?_, .inl rfl, ?_, f3⟩
      · rcases f2 with rfl | rfl
        · exact h2
        · exact hrd
      · rcases f2 with rfl | rfl
        · exact h3
        · omega
  · exact .inl ⟨rfl, h2, by omega, b, y, h1, by omega, h2, h3, h4⟩
theorem Dsk.fuse {k : Nat} {F : Int} {D : DSt} {c : Prl} (h : Dsk k F D c) (n : Int) : Dsk k 0 (D.setFuse n).1 c := by
  obtain ⟨b, y, h1, h2⟩ := h.ex
  exact ⟨b, y, h1.fuse n, h2⟩
theorem Dsk.again {k : Nat} {F : Int} {D : DSt} {c : Prl} (h : Dsk k F D c) (hk : k ≤ 60) (keep part : Int) : Dsk k (-1) ((D.openOld tn).1.crash keep part) c := by
  have hp : (D.openOld tn).1.room = ROOM ∧ Path (RC k c c false) (D.openOld tn).1.sure (D.openOld tn).1.loose := by
    rcases h.open' hk with ⟨_, _, _, b, y, g1, g2, g3, g4, g5⟩ | ⟨_, g⟩
    · exact ⟨g1.room, by rw [g1.loose, g1.sure]; exact ⟨c, b, y, g1.fv, g3, .inl rfl, g4, g5⟩⟩
    · exact ⟨g.room, g.path⟩
  obtain ⟨⟨c', b, y, g1, g2, g3, g4, g5⟩, hu⟩ := crash_up hp.1 hp.2 keep part
  rcases g3 with rfl | ⟨g3, _⟩
  · exact ⟨b, y, hu b y g1, g2, g4, g5⟩
  · cases g3
theorem Dsk.last {k : Nat} {D : DSt} {c : Prl} (h : Dsk k (-1) D c) (hk : k ≤ 60) (hb : Bd k c) (next : Prl) (hn : Bd k next) (hs : Small D (10000 * k + 10)) :
    (D.openOld tn).2 = 0 ∧ recsB [] (scanB ((aget tn D.now).getD [])).1 = some c ∧ Inv (k + 1) ⟨⟨(D.openOld tn).1, tn, (scanB ((aget tn D.now).getD [])).2⟩, c, false⟩ c next false := by
  have hsm : Small (D.openOld tn).1 (10000 * (k + 1) + 10) := by
    obtain ⟨b, y, h1, h2, h3, h4⟩ := h.ex
    have hbb : (aget tn D.now).getD [] = b := by rw [h1.fv.t]; rfl
    have hsb := scan_bounds b.length b (Nat.le_refl _)
    unfold DSt.openOld
    rw [hbb]
    split
    · exact hs.mono (by omega)
    split
    · exact (hs.lay _ _ _ (by omega)).mono (by omega)
    · exact hs.mono (by omega)
  rcases h.open' hk with ⟨g0, g1, g2, b, y, g3, g4, g5, g6, g7⟩ | ⟨_, g⟩
  · exact ⟨g0, g1, rfl, by show (scanB ((aget tn D.now).getD [])).2 ≤ _; omega, hsm, hb.mono, hb.mono, hn.mono, .inl ⟨rfl, rfl, rfl, b, y, g3.any, g4, g5, by omega, by omega⟩⟩
  · exact absurd rfl g.fu
end Go.Proofs.Ythfbfdkjgkkpcaa

namespace Go.Proofs.Ythfbfdkjgkkpcaa
open Go Go.RowKit

section
variable {ops : Array Oper} {Q : Exit → Act → World → Prop} {a : Act} {w : World} {rest : List Oper} {o : Oper}
/-- []byte(s). -/
theorem wpl_conv (hw : Region.wanted o (yielded ops a.tmps) = true) {x : Operand} (ho : o.op = .convert 9 41 x) (k : List UInt8) (hx : a.eval x = encS k) (hl : k.length ≤ 1073741824)
    (hK : ∀ v w', By w' v k → Upd [] w w' → wpList Try.prog ops Q rest (a.put o.dst v) w') : wpList Try.prog ops Q (o :: rest) a w := by
  refine wpl_run hw (v := convV w k) (w' := convW w k) ?_ (hK _ _ (conv_by _ _ hl) (conv_upd _ _))
  simp [execOp, ho, hx, conv_run k w, Result.andThen]
end
theorem ref_Count (n : Nat) (hn : U64 n) (w : World) : Calls Try.prog 43 #[.int .u64 n] w (RetBy w (countB n)) := by
  go_enter Try.func43, Try.ntmps43
  go_wp2_with fail
  go_loopw [0, 3] (fun x v wr => CountRel n w x v wr) (fun x _ _ => (intOf x).toNat)
  case atStart => exact ⟨n, [], rfl, hn, rfl, World.ownsRow_nil _ _ _ _, Upd.refl _ _⟩
  case round =>
    obtain ⟨m, pre, rfl, hm, hc, hown, hU⟩ := hrel
    have hl : pre.length ≤ 10 := by
      have := countB_len10 hn
      rw [hc, List.length_append] at this
      omega
    have Hc := Lib.hid hc; clear hc
    by_cases h128 : 128 ≤ m
    · have h1 : (128 : Int) ≤ (m : Int) := by omega
      have h2 : decide ((127 : Int) < (m : Int)) = true := by simp; omega
      have h3 : IntKind.u64.wrap ((m : Int) / 128) = ((m / 128 : Nat) : Int) := by
        rw [show (m : Int) / 128 = ((m / 128 : Nat) : Int) from by omega]; rw [wrap_u64]; have := hm.lt; omega
      go_wp2_with (first
        | ((with_reducible show wpList _ _ _ (⟨_, .buildSlice _ _ _, _, _, _, _⟩ :: _) _ _); refine wpl_lit_byte (UInt8.ofNat (128 + m % 128)) elU8 rfl rfl ?_ ?_; rotate_right; intro v1 w1 hv1 hU1 hb1)
        | ((with_reducible show wpList _ _ _ (⟨_, .call ⟨.builtin .append, _, _⟩, _, _, _, _⟩ :: _) _ _); refine wpl_append_by elU8 rfl rfl (hU.trans0 hU1) (Own.upd0 hown hU1) rfl hv1.by rfl ?_ ?_; rotate_right; intro v2 w2 hv2 _ hU2 hb2))
      case roundEnd =>
        refine ⟨⟨m / 128, pre ++ [UInt8.ofNat (128 + m % 128)], ?_, ⟨?_⟩, ?_, hv2, hU2⟩, ?_⟩
        · go_num
        · have := hm.lt; omega
        · rw [Hc.out, countB_ge (by omega), List.append_assoc]; rfl
        · simp [intOf]; omega
      · simp; omega
      · rw [enc_of _ (by omega)]; go_num
    · have h1 : (m : Int) < 128 := by omega
      have h2 : decide ((127 : Int) < (m : Int)) = false := by simp; omega
      go_wp2_with (first
        | ((with_reducible show wpList _ _ _ (⟨_, .buildSlice _ _ _, _, _, _, _⟩ :: _) _ _); refine wpl_lit_byte (UInt8.ofNat m) elU8 rfl rfl ?_ ?_; rotate_right; intro v1 w1 hv1 hU1 hb1)
        | ((with_reducible show wpList _ _ _ (⟨_, .call ⟨.builtin .append, _, _⟩, _, _, _, _⟩ :: _) _ _); refine wpl_append_by elU8 rfl rfl (hU.trans0 hU1) (Own.upd0 hown hU1) rfl hv1.by rfl ?_ ?_; rotate_right; intro v2 w2 hv2 _ hU2 hb2))
      · go_ret
        refine ⟨v2, rfl, ?_, hU2⟩
        rw [Hc.out, countB_lt (by omega)]
        exact hv2
      · simp; omega
      · rw [enc_of _ (by omega)]; go_num
def TxRel (w : World) (l : List UInt8) (x v : Value) (wr : World) : Prop := ∃ i : Nat, x = .int .i64 i ∧ i ≤ l.length ∧ OwnBy wr w.heap.size v (countB l.length ++ l.take i) ∧ Upd [] w wr
set_option maxRecDepth 100000 in
set_option maxHeartbeats 1000000 in
theorem ref_Text (w : World) (p : Value) (l : List UInt8) (hp : ByX w p l) (hl : l.length ≤ 1000000000) :
    Calls Try.prog 44 #[p] w (RetBy w (textB l)) := by
  obtain ⟨ao, cap, rfl, _⟩ := hp.shape
  have hU64 : U64 l.length := ⟨by omega⟩
  have HL := Lib.hid hl; have HC := Lib.hid (countB_len10 hU64)
  go_enter Try.func44, Try.ntmps44
  go_wp2_with (go_at_call 43; refine (ref_Count _ hU64 _).mono ?_; rintro e w1 ⟨v1, rfl, hv1, hU1⟩)
  go_loopw [4, 3] (fun x v wr => TxRel w l x v wr) (fun x _ _ => l.length - (intOf x).toNat)
  case atStart => exact ⟨0, rfl, Nat.zero_le _, by simpa using hv1, hU1⟩
  case round =>
    obtain ⟨i, rfl, hi, hown, hU⟩ := hrel
    have hll := HL.out
    by_cases hlt : i < l.length
    · have htt : decide ((i : Int) < (l.length : Int)) = true := by simp; omega
      obtain ⟨b, hb⟩ : ∃ b, l[i]? = some b := ⟨_, List.getElem?_eq_getElem hlt⟩
      have hR : ByX wr (.slice ao l.length cap) l := hp.upd0 hU
      have hu : (l.map enc)[(i : Int).toNat]? = some (enc b) := by simp [hb]
      have htk : countB l.length ++ l.take (i + 1) = (countB l.length ++ l.take i) ++ [b] := by rw [List.take_add_one, hb, List.append_assoc]; rfl
      have HTK := Lib.hid htk
      have hbl : (countB l.length ++ l.take i).length + [b].length ≤ 1073741824 := by have := HC.out; simp; omega
      have HBL := Lib.hid hbl
      clear htk hbl
      generalize countB l.length ++ l.take i = pre at *
      go_wp2_with (first
        | ((with_reducible show wpList _ _ _ (⟨_, .indexAddr _ _ _, _, _, _, _⟩ :: _) _ _); refine wpl_indexAddr1X elU8 rfl rfl hR rfl rfl (by omega) (by omega) _ hu ?_; intro ad hcell)
        | ((with_reducible show wpList _ _ _ (⟨_, .buildSlice _ _ _, _, _, _, _⟩ :: _) _ _); refine wpl_lit_byte b elU8 rfl rfl rfl ?_; intro v1 w1 hv1 hU1 hb1)
        | ((with_reducible show wpList _ _ _ (⟨_, .call ⟨.builtin .append, _, _⟩, _, _, _, _⟩ :: _) _ _); refine wpl_append_by elU8 rfl rfl (hU.trans0 hU1) (Own.upd0 hown hU1) rfl hv1.by rfl HBL.out ?_; intro v2 w2 hv2 _ hU2 hb2))
      exact ⟨⟨i + 1, by simp, hlt, by rw [HTK.out]; exact hv2, hU2⟩, by simp [intOf]; omega⟩
    · have htt : decide ((i : Int) < (l.length : Int)) = false := by simp; omega
      have hie : i = l.length := by omega
      subst hie
      rw [List.take_length] at hown
      go_wp2_with fail
      go_ret
      exact ⟨_, rfl, hown, hU⟩

theorem rfin {l : List TChg} {pre : List UInt8} {w wr : World} {v : Value} (henc : encB l = encGo pre []) (hown : OwnBy wr w.heap.size v pre) (hU : Upd [] w wr) : EncPost w l (.returned (.tuple #[v, .int .i64 0])) wr := by
  unfold EncPost
  rw [henc]
  exact ⟨_, rfl, hown, hU⟩
set_option maxRecDepth 100000 in
set_option maxHeartbeats 4000000 in
theorem ref_Encode (w : World) (lv : Value) (l : List TChg) (hc : RChgs w lv l) (hll : l.length ≤ 1000000000) :
    Calls Try.prog 23 #[lv] w (EncPost w l) := by
  obtain ⟨cells, hR, hT⟩ := hc
  obtain ⟨ao, cap, rfl, _⟩ := hR.shape
  have HT := Lib.hid hT; have HR := Lib.hid hR
  clear hT hR
  by_cases h256 : 256 < l.length
  · have h1 : decide ((256 : Int) < (l.length : Int)) = true := by simp; omega
    have HF := Lib.hid (show encB l = ([], 8) from by unfold encB; rw [if_pos h256])
    go_enter Try.func23, Try.ntmps23
    go_wp2_with fail
    go_ret2
    unfold EncPost
    rw [HF.out]
    exact ⟨_, rfl, World.ownsRow_nil _ _ _ _, Upd.refl _ _⟩
  have h1 : decide ((256 : Int) < (l.length : Int)) = false := by simp; omega
  have HF := Lib.hid (show encB l = encGo (countB l.length) l from by unfold encB; rw [if_neg h256])
  have hU64 : U64 l.length := ⟨by omega⟩
  have HC := Lib.hid (countB_len10 hU64)
  go_enter Try.func23, Try.ntmps23
  go_wp2_with (go_at_call 43; refine (ref_Count _ hU64 _).mono ?_; rintro e w1 ⟨v1, rfl, hv1, hU1⟩)
  go_loopw [5, 4] (fun x v wr => EncRel w l x v wr) (fun x _ _ => l.length - (intOf x).toNat)
  case atStart => exact ⟨0, _, rfl, Nat.zero_le _, hU1, hv1, by have := HC.out; omega, HF.out⟩
  case round =>
    obtain ⟨i, pre, rfl, hi, hU, hown, hpl, henc⟩ := hrel
    by_cases hlt : i < l.length
    · have htt : decide ((i : Int) < (l.length : Int)) = true := by simp; omega
      obtain ⟨c, hci⟩ : ∃ c, l[i]? = some c := ⟨_, List.getElem?_eq_getElem hlt⟩
      obtain ⟨pv, c0, c1, c2, hpv⟩ := HT.out.get hci
      have hpr : ByX wr pv c.val := hpv.upd0 hU
      obtain ⟨ap, cp, hsp, _⟩ := hpr.shape
      subst hsp
      have hRr : Rdx wr 3 (.slice ao l.length cap) l.length cells := HR.out.upd0 hU
      have hE := encGo_cons pre l i c hci
      rw [← henc] at hE
      have HE := Lib.hid hE; have HPL := Lib.hid hpl; have HPR := Lib.hid hpr; have HO := Lib.hid hown
      have hbadp : badChg c = true → EncPost w l (.returned (.tuple #[.slice none 0 0, .int .i64 1])) wr := by
        intro hb
        unfold EncPost
        rw [HE.out, if_pos hb]
        exact ⟨_, rfl, World.ownsRow_nil _ _ _ _, hU⟩
      have HB := Lib.hid hbadp
      have HPV := Lib.hid hpv
      have R3 : ∀ (W : World), Upd [] w W → Rdx W 3 (.slice ao l.length cap) l.length cells := fun W h => HR.out.upd0 h
      clear hpv hE hpl hpr hown henc hci hbadp hi h256
      cases hk : c.key.isEmpty with
      | true =>
        have HB' := Lib.hid (HB.out (by simp at hk; simp [badChg, hk]))
        go_wp2_with ((with_reducible show wpList _ _ _ (⟨_, .indexAddr _ _ _, _, _, _, _⟩ :: _) _ _); refine wpl_indexAddrX elRChg rfl rfl hRr rfl rfl (by omega) (by omega) ?_; intro ad hcell hspot; (have k0 := hcell 0 (by omega)); (have k1 := hcell 1 (by omega)); (have k2 := hcell 2 (by omega)); rw [Int.toNat_natCast, c0] at k0; rw [Int.toNat_natCast, c1] at k1; rw [Int.toNat_natCast, c2] at k2; clear hcell; obtain ⟨gb, gof, gs⟩ := ad; cases hspot; simp only [Addr.add_lit, Nat.add_zero] at k0 k1 k2)
        go_ret2
        exact HB'.out
      | false =>
        have hk0 : c.key ≠ [] := by simpa using hk
        by_cases h320 : 320 < c.key.length
        · have h2 : decide ((320 : Int) < (c.key.length : Int)) = true := by simp; omega
          have HB' := Lib.hid (HB.out (by simp [badChg, h320]))
          clear h320 hk0
          go_wp2_with ((with_reducible show wpList _ _ _ (⟨_, .indexAddr _ _ _, _, _, _, _⟩ :: _) _ _); refine wpl_indexAddrX elRChg rfl rfl hRr rfl rfl (by omega) (by omega) ?_; intro ad hcell hspot; (have k0 := hcell 0 (by omega)); (have k1 := hcell 1 (by omega)); (have k2 := hcell 2 (by omega)); rw [Int.toNat_natCast, c0] at k0; rw [Int.toNat_natCast, c1] at k1; rw [Int.toNat_natCast, c2] at k2; clear hcell; obtain ⟨gb, gof, gs⟩ := ad; cases hspot; simp only [Addr.add_lit, Nat.add_zero] at k0 k1 k2)
          go_ret2
          exact HB'.out
        · have h2 : decide ((320 : Int) < (c.key.length : Int)) = false := by simp; omega
          by_cases h262 : 262144 < c.val.length
          · have h3 : decide ((262144 : Int) < (c.val.length : Int)) = true := by simp; omega
            have HB' := Lib.hid (HB.out (by simp [badChg, h262]))
            clear h320 hk0 h262
            go_wp2_with ((with_reducible show wpList _ _ _ (⟨_, .indexAddr _ _ _, _, _, _, _⟩ :: _) _ _); refine wpl_indexAddrX elRChg rfl rfl hRr rfl rfl (by omega) (by omega) ?_; intro ad hcell hspot; (have k0 := hcell 0 (by omega)); (have k1 := hcell 1 (by omega)); (have k2 := hcell 2 (by omega)); rw [Int.toNat_natCast, c0] at k0; rw [Int.toNat_natCast, c1] at k1; rw [Int.toNat_natCast, c2] at k2; clear hcell; obtain ⟨gb, gof, gs⟩ := ad; cases hspot; simp only [Addr.add_lit, Nat.add_zero] at k0 k1 k2)
            go_ret2
            exact HB'.out
          · have h3 : decide ((262144 : Int) < (c.val.length : Int)) = false := by simp; omega
            have hnb : badChg c = false := by simp [badChg, h262, h320, hk0]
            have hpl := HPL.out
            have hkl : (textB c.key).length ≤ 330 := by have := textB_len c.key (by omega); omega
            have hvl : (textB c.val).length ≤ 262154 := by have := textB_len c.val (by omega); omega
            have HK31 := Lib.hid (show c.key.length ≤ 1073741824 from by omega); have HK9 := Lib.hid (show c.key.length ≤ 1000000000 from by omega); have HV9 := Lib.hid (show c.val.length ≤ 1000000000 from by omega)
            cases hg : c.gone with
            | true =>
              rw [hg] at c1
              have E9 := Lib.hid (show encStep c = [0] ++ textB c.key from by unfold encStep; rw [hg]; rfl)
              have HB1 := Lib.hid (show pre.length + [(0 : UInt8)].length ≤ 1073741824 from by simp; omega)
              have HB2 := Lib.hid (show (pre ++ [(0 : UInt8)]).length + (textB c.key).length ≤ 1073741824 from by simp; omega)
              have HB3 := Lib.hid (show (pre ++ [(0 : UInt8)] ++ textB c.key).length + (textB c.val).length ≤ 1073741824 from by simp; omega)
              have hqb : (pre ++ [0] ++ textB c.key).length ≤ 1073741824 := by simp; omega
              obtain ⟨q, hq⟩ : ∃ q, q = pre ++ [0] ++ textB c.key := ⟨_, rfl⟩
              have HQ := Lib.hid hq
              rw [← hq] at hqb
              have hqe : pre ++ encStep c = q := by rw [hq, E9.out]; simp
              clear hkl hvl hpl hq
              by_cases hbig : 1048568 < q.length
              · have hbt : decide ((1048568 : Int) < (q.length : Int)) = true := by simp; omega
                have HB8 := Lib.hid (fun (w6 : World) (hU6 : Upd [] w w6) => enc_big (i := i) (q := q) HE.out hnb hqe.symm hbig hU6)
                clear hbig hnb hk0 hqe
                go_wp2_with (first
                  | ((with_reducible show wpList _ _ _ (⟨_, .indexAddr _ _ _, _, _, _, _⟩ :: _) _ _); refine wpl_indexAddrX elRChg rfl rfl (R3 _ (by assumption)) rfl rfl (by omega) (by omega) ?_; intro ad hcell hspot; (have k0 := hcell 0 (by omega)); (have k1 := hcell 1 (by omega)); (have k2 := hcell 2 (by omega)); rw [Int.toNat_natCast, c0] at k0; rw [Int.toNat_natCast, c1] at k1; rw [Int.toNat_natCast, c2] at k2; clear hcell; obtain ⟨gb, gof, gs⟩ := ad; cases hspot; simp only [Addr.add_lit, Nat.add_zero] at k0 k1 k2)
                  | ((with_reducible show wpList _ _ _ (⟨_, .buildSlice _ _ _, _, _, _, _⟩ :: _) _ _); refine wpl_lit_byte 0 elU8 rfl rfl rfl ?_; intro v1 w1 hv1 hU1 _; (have hU01 := hU.trans0 hU1))
                  | ((with_reducible show wpList _ _ _ (⟨_, .convert _ _ _, _, _, _, _⟩ :: _) _ _); refine wpl_conv rfl rfl c.key rfl HK31.out ?_; intro v3 w3 hv3 hU3; (have hU03 := hU02.trans0 hU3))
                  | ((with_reducible show wpList _ _ _ (⟨_, .call ⟨.builtin .append, _, _⟩, _, _, _, _⟩ :: _) _ _); (have hgo := hv4); refine wpl_append_by elU8 rfl rfl hU04 (Own.upd0 hv2 (hU3.trans0 hU4)) rfl hv4.by rfl HB2.out ?_; intro v5 w5 hv5 _ hU05 _; rw [← HQ.out] at hv5; obtain ⟨ao5, cap5, hs5⟩ := By.val hv5.by; subst hs5)
                  | (go_at_call 44; refine (ref_Text w3 _ c.key (Rd.x hv3) HK9.out).mono ?_; rintro e w4 ⟨v4, rfl, hv4, hU4⟩; (have hU04 := hU03.trans0 hU4))
                  | ((with_reducible show wpList _ _ _ (⟨_, .call ⟨.builtin .append, _, _⟩, _, _, _, _⟩ :: _) _ _); refine wpl_append_by elU8 rfl rfl hU01 (Own.upd0 HO.out hU1) rfl hv1.by rfl HB1.out ?_; intro v2 w2 hv2 _ hU02 _))
                go_ret2
                exact HB8.out w5 hU05
              · have hbt : decide ((1048568 : Int) < (q.length : Int)) = false := by simp; omega
                have HB8 := Lib.hid (fun (w6 : World) (v6 : Value) (hU6 : Upd [] w w6) (hv6 : OwnBy w6 w.heap.size v6 q) => enc_ok (i := i) (q := q) HE.out hnb hqe.symm hbig hU6 hlt hv6)
                clear hnb hk0 hqe
                go_wp2_with (first
                  | ((with_reducible show wpList _ _ _ (⟨_, .indexAddr _ _ _, _, _, _, _⟩ :: _) _ _); refine wpl_indexAddrX elRChg rfl rfl (R3 _ (by assumption)) rfl rfl (by omega) (by omega) ?_; intro ad hcell hspot; (have k0 := hcell 0 (by omega)); (have k1 := hcell 1 (by omega)); (have k2 := hcell 2 (by omega)); rw [Int.toNat_natCast, c0] at k0; rw [Int.toNat_natCast, c1] at k1; rw [Int.toNat_natCast, c2] at k2; clear hcell; obtain ⟨gb, gof, gs⟩ := ad; cases hspot; simp only [Addr.add_lit, Nat.add_zero] at k0 k1 k2)
                  | ((with_reducible show wpList _ _ _ (⟨_, .buildSlice _ _ _, _, _, _, _⟩ :: _) _ _); refine wpl_lit_byte 0 elU8 rfl rfl rfl ?_; intro v1 w1 hv1 hU1 _; (have hU01 := hU.trans0 hU1))
                  | ((with_reducible show wpList _ _ _ (⟨_, .convert _ _ _, _, _, _, _⟩ :: _) _ _); refine wpl_conv rfl rfl c.key rfl HK31.out ?_; intro v3 w3 hv3 hU3; (have hU03 := hU02.trans0 hU3))
                  | ((with_reducible show wpList _ _ _ (⟨_, .call ⟨.builtin .append, _, _⟩, _, _, _, _⟩ :: _) _ _); (have hgo := hv4); refine wpl_append_by elU8 rfl rfl hU04 (Own.upd0 hv2 (hU3.trans0 hU4)) rfl hv4.by rfl HB2.out ?_; intro v5 w5 hv5 _ hU05 _; rw [← HQ.out] at hv5; obtain ⟨ao5, cap5, hs5⟩ := By.val hv5.by; subst hs5)
                  | (go_at_call 44; refine (ref_Text w3 _ c.key (Rd.x hv3) HK9.out).mono ?_; rintro e w4 ⟨v4, rfl, hv4, hU4⟩; (have hU04 := hU03.trans0 hU4))
                  | ((with_reducible show wpList _ _ _ (⟨_, .call ⟨.builtin .append, _, _⟩, _, _, _, _⟩ :: _) _ _); refine wpl_append_by elU8 rfl rfl hU01 (Own.upd0 HO.out hU1) rfl hv1.by rfl HB1.out ?_; intro v2 w2 hv2 _ hU02 _))
                exact ⟨HB8.out w5 _ hU05 hv5, by simp [intOf]; omega⟩
            | false =>
              rw [hg] at c1
              have E9 := Lib.hid (show encStep c = [1] ++ textB c.key ++ textB c.val from by unfold encStep; rw [hg]; rfl)
              have HB1 := Lib.hid (show pre.length + [(1 : UInt8)].length ≤ 1073741824 from by simp; omega)
              have HB2 := Lib.hid (show (pre ++ [(1 : UInt8)]).length + (textB c.key).length ≤ 1073741824 from by simp; omega)
              have HB3 := Lib.hid (show (pre ++ [(1 : UInt8)] ++ textB c.key).length + (textB c.val).length ≤ 1073741824 from by simp; omega)
              have hqb : (pre ++ [1] ++ textB c.key ++ textB c.val).length ≤ 1073741824 := by simp; omega
              obtain ⟨q, hq⟩ : ∃ q, q = pre ++ [1] ++ textB c.key ++ textB c.val := ⟨_, rfl⟩
              have HQ := Lib.hid hq
              rw [← hq] at hqb
              have hqe : pre ++ encStep c = q := by rw [hq, E9.out]; simp
              clear hkl hvl hpl hq
              by_cases hbig : 1048568 < q.length
              · have hbt : decide ((1048568 : Int) < (q.length : Int)) = true := by simp; omega
                have HB8 := Lib.hid (fun (w6 : World) (hU6 : Upd [] w w6) => enc_big (i := i) (q := q) HE.out hnb hqe.symm hbig hU6)
                clear hbig hnb hk0 hqe
                go_wp2_with (first
                  | ((with_reducible show wpList _ _ _ (⟨_, .indexAddr _ _ _, _, _, _, _⟩ :: _) _ _); refine wpl_indexAddrX elRChg rfl rfl (R3 _ (by assumption)) rfl rfl (by omega) (by omega) ?_; intro ad hcell hspot; (have k0 := hcell 0 (by omega)); (have k1 := hcell 1 (by omega)); (have k2 := hcell 2 (by omega)); rw [Int.toNat_natCast, c0] at k0; rw [Int.toNat_natCast, c1] at k1; rw [Int.toNat_natCast, c2] at k2; clear hcell; obtain ⟨gb, gof, gs⟩ := ad; cases hspot; simp only [Addr.add_lit, Nat.add_zero] at k0 k1 k2)
                  | ((with_reducible show wpList _ _ _ (⟨_, .buildSlice _ _ _, _, _, _, _⟩ :: _) _ _); refine wpl_lit_byte 1 elU8 rfl rfl rfl ?_; intro v1 w1 hv1 hU1 _; (have hU01 := hU.trans0 hU1))
                  | ((with_reducible show wpList _ _ _ (⟨_, .convert _ _ _, _, _, _, _⟩ :: _) _ _); refine wpl_conv rfl rfl c.key rfl HK31.out ?_; intro v3 w3 hv3 hU3; (have hU03 := hU02.trans0 hU3))
                  | ((with_reducible show wpList _ _ _ (⟨_, .call ⟨.builtin .append, _, _⟩, _, _, _, _⟩ :: _) _ _); (have hgo := hv6); refine wpl_append_by elU8 rfl rfl hU06 (Own.upd0 hv5 hU6) rfl hv6.by rfl HB3.out ?_; intro v7 w7 hv7 _ hU07 _; rw [← HQ.out] at hv7; obtain ⟨ao7, cap7, hs7⟩ := By.val hv7.by; subst hs7)
                  | (go_at_call 44; (have hgo := hv5); refine (ref_Text w5 _ c.val (HPV.out.upd0 hU05) HV9.out).mono ?_; rintro e w6 ⟨v6, rfl, hv6, hU6⟩; (have hU06 := hU05.trans0 hU6))
                  | ((with_reducible show wpList _ _ _ (⟨_, .call ⟨.builtin .append, _, _⟩, _, _, _, _⟩ :: _) _ _); (have hgo := hv4); refine wpl_append_by elU8 rfl rfl hU04 (Own.upd0 hv2 (hU3.trans0 hU4)) rfl hv4.by rfl HB2.out ?_; intro v5 w5 hv5 _ hU05 _; skip)
                  | (go_at_call 44; refine (ref_Text w3 _ c.key (Rd.x hv3) HK9.out).mono ?_; rintro e w4 ⟨v4, rfl, hv4, hU4⟩; (have hU04 := hU03.trans0 hU4))
                  | ((with_reducible show wpList _ _ _ (⟨_, .call ⟨.builtin .append, _, _⟩, _, _, _, _⟩ :: _) _ _); refine wpl_append_by elU8 rfl rfl hU01 (Own.upd0 HO.out hU1) rfl hv1.by rfl HB1.out ?_; intro v2 w2 hv2 _ hU02 _))
                go_ret2
                exact HB8.out w7 hU07
              · have hbt : decide ((1048568 : Int) < (q.length : Int)) = false := by simp; omega
                have HB8 := Lib.hid (fun (w6 : World) (v6 : Value) (hU6 : Upd [] w w6) (hv6 : OwnBy w6 w.heap.size v6 q) => enc_ok (i := i) (q := q) HE.out hnb hqe.symm hbig hU6 hlt hv6)
                clear hnb hk0 hqe
                go_wp2_with (first
                  | ((with_reducible show wpList _ _ _ (⟨_, .indexAddr _ _ _, _, _, _, _⟩ :: _) _ _); refine wpl_indexAddrX elRChg rfl rfl (R3 _ (by assumption)) rfl rfl (by omega) (by omega) ?_; intro ad hcell hspot; (have k0 := hcell 0 (by omega)); (have k1 := hcell 1 (by omega)); (have k2 := hcell 2 (by omega)); rw [Int.toNat_natCast, c0] at k0; rw [Int.toNat_natCast, c1] at k1; rw [Int.toNat_natCast, c2] at k2; clear hcell; obtain ⟨gb, gof, gs⟩ := ad; cases hspot; simp only [Addr.add_lit, Nat.add_zero] at k0 k1 k2)
                  | ((with_reducible show wpList _ _ _ (⟨_, .buildSlice _ _ _, _, _, _, _⟩ :: _) _ _); refine wpl_lit_byte 1 elU8 rfl rfl rfl ?_; intro v1 w1 hv1 hU1 _; (have hU01 := hU.trans0 hU1))
                  | ((with_reducible show wpList _ _ _ (⟨_, .convert _ _ _, _, _, _, _⟩ :: _) _ _); refine wpl_conv rfl rfl c.key rfl HK31.out ?_; intro v3 w3 hv3 hU3; (have hU03 := hU02.trans0 hU3))
                  | ((with_reducible show wpList _ _ _ (⟨_, .call ⟨.builtin .append, _, _⟩, _, _, _, _⟩ :: _) _ _); (have hgo := hv6); refine wpl_append_by elU8 rfl rfl hU06 (Own.upd0 hv5 hU6) rfl hv6.by rfl HB3.out ?_; intro v7 w7 hv7 _ hU07 _; rw [← HQ.out] at hv7; obtain ⟨ao7, cap7, hs7⟩ := By.val hv7.by; subst hs7)
                  | (go_at_call 44; (have hgo := hv5); refine (ref_Text w5 _ c.val (HPV.out.upd0 hU05) HV9.out).mono ?_; rintro e w6 ⟨v6, rfl, hv6, hU6⟩; (have hU06 := hU05.trans0 hU6))
                  | ((with_reducible show wpList _ _ _ (⟨_, .call ⟨.builtin .append, _, _⟩, _, _, _, _⟩ :: _) _ _); (have hgo := hv4); refine wpl_append_by elU8 rfl rfl hU04 (Own.upd0 hv2 (hU3.trans0 hU4)) rfl hv4.by rfl HB2.out ?_; intro v5 w5 hv5 _ hU05 _; skip)
                  | (go_at_call 44; refine (ref_Text w3 _ c.key (Rd.x hv3) HK9.out).mono ?_; rintro e w4 ⟨v4, rfl, hv4, hU4⟩; (have hU04 := hU03.trans0 hU4))
                  | ((with_reducible show wpList _ _ _ (⟨_, .call ⟨.builtin .append, _, _⟩, _, _, _, _⟩ :: _) _ _); refine wpl_append_by elU8 rfl rfl hU01 (Own.upd0 HO.out hU1) rfl hv1.by rfl HB1.out ?_; intro v2 w2 hv2 _ hU02 _))
                exact ⟨HB8.out w7 _ hU07 hv7, by simp [intOf]; omega⟩
    · have htt : decide ((i : Int) < (l.length : Int)) = false := by simp; omega
      have hie : i = l.length := by omega
      have HFIN := Lib.hid (rfin (by rw [henc, hie, List.drop_length]) hown hU)
      clear henc hown hpl
      go_wp2_with fail
      go_ret2
      exact HFIN.out
end Go.Proofs.Ythfbfdkjgkkpcaa

namespace Go.Proofs.Ythfbfdkjgkkpcaa
open Go Go.RowKit

structure LOp where
  kind : Int
  l : List TChg
  n : Int
  m : Int
structure I64 (x : Int) : Prop where
  lo : -9223372036854775808 ≤ x
  hi : x ≤ 9223372036854775807
def OCells (w : World) : List Value → List LOp → Prop
  | [], [] => True
  | k :: lv :: n :: m :: r, o :: l => k = .int .i64 o.kind ∧ RChgs w lv o.l ∧ n = .int .i64 o.n ∧ m = .int .i64 o.m ∧ I64 o.n ∧ OCells w r l
  | _, _ => False
theorem OCells.get {w : World} : ∀ {cs : List Value} {l : List LOp}, OCells w cs l → ∀ {i : Nat} {o : LOp}, l[i]? = some o →
    ∃ lv, cs[i * 4 + 0]? = some (.int .i64 o.kind) ∧ cs[i * 4 + 1]? = some lv ∧ cs[i * 4 + 2]? = some (.int .i64 o.n) ∧ cs[i * 4 + 3]? = some (.int .i64 o.m) ∧ RChgs w lv o.l ∧ I64 o.n
  | [], [], _, _, _, h => by simp at h
  | k :: a :: b :: c :: r, p0 :: l, hc, 0, o, h => by
    simp only [List.getElem?_cons_zero, Option.some.injEq] at h
    subst h
    exact ⟨a, by simp [hc.1], by simp, by simp [hc.2.2.1], by simp [hc.2.2.2.1], hc.2.1, hc.2.2.2.2.1⟩
  | k :: a :: b :: c :: r, p0 :: l, hc, i + 1, o, h => by
    simp only [List.getElem?_cons_succ] at h
    obtain ⟨lv, h0, h1, h2, h3, h4⟩ := OCells.get hc.2.2.2.2.2 h
    refine ⟨lv, ?_, ?_, ?_, ?_, h4⟩
    · rw [show (i + 1) * 4 + 0 = (i * 4 + 0) + 4 by omega]; simpa using h0
    · rw [show (i + 1) * 4 + 1 = (i * 4 + 1) + 4 by omega]; simpa using h1
    · rw [show (i + 1) * 4 + 2 = (i * 4 + 2) + 4 by omega]; simpa using h2
    · rw [show (i + 1) * 4 + 3 = (i * 4 + 3) + 4 by omega]; simpa using h3
def ROps (w : World) (v : Value) (l : List LOp) : Prop := ∃ cells, Rdx w 4 v l.length cells ∧ OCells w cells l
theorem elOp : Elem Try.prog 57 59 4 48 := ⟨by kernel_rfl, by omega, by
  obtain ⟨i, h1, h2, h3, h4⟩ := info_parts (P := Try.prog) (e := 59) (z := .agg #[.int .i64 0, .slice none 0 0, .int .i64 0, .int .i64 0]) (size := 4) (bytes := 48) (by kernel_rfl)
  exact ⟨i, _, h1, h2, h3, h4, rfl⟩⟩
/-- The disk below a table, and the table over what a call of the disk's leaves. -/
theorem TAt.disk {w : World} {d tb : Nat} {S : List Nat} {T : TSt} (h : TAt w d tb S T) : ∃ Sd, DiskAt w d Sd T.J.D ∧ (∀ k ∈ Sd, k ∈ S) ∧ ∀ (w' : World) (Sd' : List Nat) (D' : DSt), DiskAt w' d Sd' D' → Upd Sd w w' → Sub w Sd Sd' → ∃ S', TAt w' d tb S' (T.on D') ∧ Upd S w w' ∧ Sub w S S' := by
  obtain ⟨jb, mb, S0, rfl, hmb, hJ, hM, ht⟩ := h.ex
  obtain ⟨Sd, rfl, hD, hj⟩ := hJ.ex
  refine ⟨Sd, hD, fun k hk => by simp [hk], ?_⟩
  intro w' Sd' D' hD' hU hS
  have hjn : jb ∉ Sd := not_mem_off (hD.off (e := 100) (by decide) (by decide)) hj
  have htn : tb ∉ Sd := not_mem_off (hD.off (e := 78) (by decide) (by decide)) ht
  have hmn : mb ∉ Sd := fun hm => hmb (by simp [hm])
  have hmj : mb ≠ jb := fun e => hmb (by simp [e])
  refine ⟨tb :: mb :: jb :: Sd', ⟨jb, mb, jb :: Sd', rfl, ?_, ⟨Sd', rfl, hD', hU.get hj hjn⟩, hM.upd hU hD.off8 hmn, hU.get ht htn⟩, hU.mono (fun i hi _ => by simp [hi]), ?_⟩
  · simp only [List.mem_cons, not_or]
    exact ⟨hmj, hS.not_mem hM.lt hmn⟩
  · intro k hk
    simp only [List.mem_cons] at hk ⊢
    rcases hk with rfl | rfl | rfl | hk
    · simp
    · simp
    · simp
    · rcases hS k hk with h1 | h1
      · simp [h1]
      · exact .inr h1
theorem Up.small {F : Int} {D : DSt} {b : List UInt8} {y : Option (List UInt8)} (h : Up F D b y) (n : Nat) (hn : 2 ≤ n) : Small D n := ⟨by rw [h.loose]; simp, by have := h.fv.len; omega⟩
theorem Dsk.small {k : Nat} {F : Int} {D : DSt} {c : Prl} (h : Dsk k F D c) (n : Nat) (hn : 2 ≤ n) : Small D n := by
  obtain ⟨b, y, h1, _⟩ := h.ex
  exact h1.small n hn
theorem Dsk.there {k : Nat} {F : Int} {D : DSt} {c : Prl} (h : Dsk k F D c) : D.there tn ≠ 6 := by
  obtain ⟨b, y, h1, _⟩ := h.ex
  unfold DSt.there
  rw [if_neg (by simp [h1.down]), if_neg (by rw [h1.fv.t]; simp)]
  decide
/-- Open, power or not: what stands on the disk then. -/
theorem table_open_any (w : World) (d : Nat) (S : List Nat) (D : DSt) (h : DiskAt w d S D) {k : Nat} {F : Int} {c : Prl} (hk : k ≤ 60) (hD : Dsk k F D c) :
    Calls Try.prog 7 #[.pointer (some ⟨d, 0, none⟩), encS tn] w fun e w' => ∃ tv ev S', e = .returned (.tuple #[tv, ev]) ∧ DiskAt w' d S' (D.openOld tn).1 ∧ Upd S w w' ∧ Sub w S S' := by
  refine (table_open_old w d S D h tn (by decide) (by decide) hD.there (hD.small _ (by omega))).mono ?_
  intro e w' hp
  unfold TopenOldPost at hp
  rcases hD.open' hk with ⟨g0, g1, _⟩ | ⟨g0, _⟩
  · rw [if_pos g0, g1] at hp
    obtain ⟨tb, S', rfl, _, hT, hU, hS⟩ := hp
    obtain ⟨Sd, h1, h2, _⟩ := hT.disk
    exact ⟨_, _, Sd, rfl, h1, hU, fun q hq => hS q (h2 q hq)⟩
  · rw [if_neg (by omega)] at hp
    obtain ⟨rfl, S', h1, h2, h3⟩ := hp
    exact ⟨_, _, S', rfl, h1, h2, h3⟩
/-- Open, with power. -/
theorem table_open_last (w : World) (d : Nat) (S : List Nat) (D : DSt) (h : DiskAt w d S D) {k : Nat} {c next : Prl} (hk : k ≤ 60) (hD : Dsk k (-1) D c) (hb : Bd k c) (hn : Bd k next) :
    Calls Try.prog 7 #[.pointer (some ⟨d, 0, none⟩), encS tn] w fun e w' => ∃ tb S' T, e = .returned (.tuple #[.pointer (some ⟨tb, 0, none⟩), .int .i64 0]) ∧ TAt w' d tb S' T ∧ T.m = c ∧ Inv (k + 1) T c next false ∧ Upd S w w' ∧ Sub w S S' := by
  refine (table_open_old w d S D h tn (by decide) (by decide) hD.there (hD.small _ (by omega))).mono ?_
  intro e w' hp
  unfold TopenOldPost at hp
  obtain ⟨g0, g1, g2⟩ := hD.last hk hb next hn (hD.small _ (by omega))
  rw [if_pos g0, g1] at hp
  obtain ⟨tb, S', rfl, _, hT, hU, hS⟩ := hp
  exact ⟨tb, S', _, rfl, hT, rfl, g2, hU, hS⟩
theorem inv_first : Inv 0 (T1 16777216 tn) [] [] false := by
  refine ⟨rfl, by show 0 ≤ _; omega, ⟨by show 0 ≤ _; omega, by show 1 ≤ _; omega⟩, ⟨Srt.nil, by simp [T1], fun p hp => by cases hp⟩, ⟨Srt.nil, by simp, fun p hp => by cases hp⟩, ⟨Srt.nil, by simp, fun p hp => by cases hp⟩, .inl ⟨rfl, rfl, rfl, [], none, ⟨rfl, rfl, rfl, rfl, ?_, fun e => by omega⟩, ?_, ?_, by simp, by simp⟩⟩
  · exact ⟨by simp [T1, D1], fun p hp => by simp [T1, D1] at hp; exact .inl (by rw [hp]), by decide, by decide⟩
  · rw [scan_nil]; rfl
  · unfold Rdg; rw [scan_nil]; rfl
end Go.Proofs.Ythfbfdkjgkkpcaa

namespace Go.Proofs.Ythfbfdkjgkkpcaa
open Go Go.RowKit

/-- What holds ahead of each step of the script. -/
def LsRel (w : World) (d : Nat) (n : Nat) (x tv nv xv cv : Value) (wr : World) : Prop :=
  ∃ (i tb : Nat) (S : List Nat) (T : TSt) (now next : Prl) (cut : Bool), x = .int .i64 i ∧ i ≤ n ∧ i ≤ 60 ∧ tv = .pointer (some ⟨tb, 0, none⟩) ∧ cv = .bool cut ∧ TAt wr d tb S T ∧ Inv i T now next cut ∧ Prs wr nv now ∧ Prs wr xv next ∧ Upd [] w wr ∧ NewIn w S
def AgRel (w : World) (d q : Nat) (k : Nat) (c now next : Prl) (on om : Int) (nv xv x : Value) (wr : World) : Prop :=
  ∃ (a : Nat) (S : List Nat) (D : DSt), x = .int .i64 a ∧ a ≤ 2 ∧ DiskAt wr d S D ∧ Dsk k (-1) D c ∧ D.loose.length ≤ 1000000000 ∧ Prs wr nv now ∧ Prs wr xv next ∧ Upd [] w wr ∧ NewIn w S ∧ q ∉ S ∧
    wr.cell? ⟨q, 2, none⟩ = some (.int .i64 on) ∧ wr.cell? ⟨q, 3, none⟩ = some (.int .i64 om)
theorem lt_of_cell {w : World} {b o : Nat} {u : Value} (h : w.cell? ⟨b, o, none⟩ = some u) : b < w.heap.size := World.block_lt_of_cell? w ⟨b, o, none⟩ h
theorem not_sub {w : World} {S S' : List Nat} {q : Nat} (h : Sub w S S') (hq : q ∉ S) (hl : q < w.heap.size) : q ∉ S' := fun hk => by
  rcases h _ hk with h1 | h1
  · exact hq h1
  · omega
theorem wrap64_le (x : Int) : wrap64 x ≤ 9223372036854775807 := by unfold wrap64; omega
theorem ag_small (x : Int) : ∃ a : Nat, a ≤ 2 ∧ wrap64 ((IntKind.u64.wrap x).tmod 3) = (a : Int) := by
  rw [wrap_u64, Int.tmod_eq_emod_of_nonneg (by omega)]
  refine ⟨(x % 18446744073709551616 % 3).toNat, by omega, ?_⟩
  unfold wrap64
  omega
theorem crash_loose (D : DSt) (a b : Int) : (D.crash a b).loose.length ≤ 1000000000 := by simp [DSt.crash]
theorem Dsk.openLoose {k : Nat} {F : Int} {D : DSt} {c : Prl} (h : Dsk k F D c) (hk : k ≤ 60) : (D.openOld tn).1.loose.length ≤ 1000000000 := by
  have hs := h.small 10 (by omega)
  obtain ⟨b, y, h1, h2, h3, h4⟩ := h.ex
  have hbb : (aget tn D.now).getD [] = b := by rw [h1.fv.t]; rfl
  have hsb := scan_bounds b.length b (Nat.le_refl _)
  have : Small (D.openOld tn).1 3000000 := by
    unfold DSt.openOld
    rw [hbb]
    split
    · exact hs.mono (by omega)
    split
    · exact (hs.lay _ _ _ (by omega)).mono (by omega)
    · exact hs.mono (by omega)
  have := this.1
  omega
theorem Inv.live {k : Nat} {T : TSt} {now next : Prl} (h : Inv k T now next false) : T.m = now := by
  rcases h.st with ⟨_, _, h3, _⟩ | ⟨_, h2, _⟩
  · exact h3
  · cases h2
theorem Inv.foldable {k : Nat} {T : TSt} {now next : Prl} {cut : Bool} (h : Inv k T now next cut) (hk : k ≤ 60 := by omega) : (∀ p ∈ T.m, p.1.length ≤ maxLen) ∧ T.m.length ≤ 100000000 ∧ (∀ q ∈ sortK T.m, (encB [⟨q, false, (aget q T.m).getD []⟩]).2 = 0) ∧ (∀ q, ((aget q T.m).getD []).length ≤ 1073741824) := by
  refine ⟨fun p hp => ?_, ?_, fun q hq => ?_, fun q => ?_⟩
  · have := (h.bd.keys p hp).2.1; unfold maxLen; omega
  · have := h.bd.len; omega
  · rw [sortK_srt h.bd.srt] at hq
    obtain ⟨p, hp, rfl⟩ := List.mem_map.1 hq
    have hk := h.bd.keys p hp
    rw [(aget_some h.bd.srt.nodup).2 (show (p.1, p.2) ∈ T.m from hp)]
    exact enc_one _ _ hk.1 hk.2.1 (by show p.2.length ≤ _; omega)
  · cases hc : aget q T.m with
    | none => simp
    | some u => have := (h.bd.keys _ ((aget_some h.bd.srt.nodup).1 hc)).2.2; simp; simp at this; omega
set_option maxRecDepth 100000 in
set_option maxHeartbeats 40000000 in
theorem law11_tableLasts (w : World) (lv : Value) (ops : List LOp) (hl : ROps w lv ops) :
    Calls Try.prog 5 #[lv] w fun e w' => e = .returned (.bool true) ∧ Upd [] w w' := by
  have hi1 : isName [116] = true := by decide
  have hi2 : isName ([116] ++ [43]) = true := by decide
  obtain ⟨cells, hR, hC⟩ := hl
  obtain ⟨ao, cap, rfl, _⟩ := hR.shape
  have HR := Lib.hid hR; have HC := Lib.hid hC
  have hlen : ops.length ≤ cap := by assumption
  clear hR hC
  go_enter Try.func5, Try.ntmps5
  go_wp2_with fail
  refine (disk_new w 16777216 (by omega)).mono ?_
  rintro e w2 ⟨d, S, rfl, hD2, hU2, hS2⟩
  go_wp2_with fail
  refine (table_open_first w2 d S 16777216 [116] hD2 hi1 hi2).mono ?_
  rintro e w3 ⟨tb, S3, rfl, hT3, hU3, hS3⟩
  have hn3 := hS2.sub hS3 hU2.size
  have hU03 : Upd [] w w3 := hU2.new hS2 hU3
  clear hD2 hU2 hS2 hS3 hU3
  go_wp2_with fail
  refine (law11_awake w3).mono ?_
  rintro e w4 ⟨rfl, hU4⟩
  have HINV := Lib.hid inv_first
  have HT := Lib.hid (hT3.upd0 hU4)
  have HU := Lib.hid (hU03.trans0 hU4)
  clear hT3 hU4 hU03
  go_wp2_with fail
  go_loopw [40, 5, 7, 8, 9] (fun x tv nv xv cv wr => LsRel w d ops.length x tv nv xv cv wr) (fun x _ _ _ _ _ => ops.length - (intOf x).toNat)
  case atStart => exact ⟨0, tb, S3, _, [], [], false, rfl, Nat.zero_le _, Nat.zero_le _, rfl, rfl, HT.out, HINV.out, Prs.nil _, Prs.nil _, HU.out, hn3⟩
  case round =>
    obtain ⟨i, tb, S, T, now, next, cut, rfl, hi, hi60, rfl, rfl, hT, hI, hN, hX, hU, hnew⟩ := hrel
    by_cases hlt : i < ops.length
    · have htt : decide ((i : Int) < (ops.length : Int)) = true := by simp; omega
      obtain ⟨o, hoi⟩ : ∃ o, ops[i]? = some o := ⟨_, List.getElem?_eq_getElem hlt⟩
      obtain ⟨lo, c0, c1, c2, c3, hol, hon⟩ := HC.out.get hoi
      have hRr : Rdx wr 4 (.slice ao ops.length cap) ops.length cells := HR.out.upd0 hU
      obtain ⟨kd, ol, on, om⟩ := o
      dsimp only at c0 c1 c2 c3 hol hon
      obtain ⟨al, cl, hsl⟩ := hol.shape
      subst hsl
      by_cases h60 : i < 60
      · have t60 : decide ((60 : Int) ≤ (i : Int)) = false := by simp; omega
        have hba := heap_alloc_new wr (Obj.cells #[.int .i64 kd, .slice al ol.length cl, .int .i64 on, .int .i64 om] 59)
        have hUa : Upd [] wr (wr.alloc (Obj.cells #[.int .i64 kd, .slice al ol.length cl, .int .i64 on, .int .i64 om] 59)) := Upd.alloc [] _ _
        have hsm := law_small _ _ ol (hol.upd0 (hU.trans0 hUa))
        have HOI := Lib.hid hoi
        clear hoi
        go_wp2_with ((with_reducible show wpList _ _ _ (⟨_, .indexAddr _ _ _, _, _, _, _⟩ :: _) _ _); refine wpl_indexAddrX elOp rfl rfl hRr rfl rfl (by omega) (by omega) ?_; intro ad hcell hspot; (have k0 := hcell 0 (by omega)); (have k1 := hcell 1 (by omega)); (have k2 := hcell 2 (by omega)); (have k3 := hcell 3 (by omega)); rw [Int.toNat_natCast, c0] at k0; rw [Int.toNat_natCast, c1] at k1; rw [Int.toNat_natCast, c2] at k2; rw [Int.toNat_natCast, c3] at k3; clear hcell; obtain ⟨gb, gof, gs⟩ := ad; cases hspot; simp only [Addr.add_lit, Nat.add_zero] at k0 k1 k2 k3)
        generalize hwa : (wr.alloc (Obj.cells #[.int .i64 kd, .slice al ol.length cl, .int .i64 on, .int .i64 om] 59)) = wa at *
        have a0 : wa.cell? ⟨wr.heap.size, 0, none⟩ = some (.int .i64 kd) := by rw [cell_lit wa _ 0 _ _ _ hba]; rfl
        have a1 : wa.cell? ⟨wr.heap.size, 1, none⟩ = some (.slice al ol.length cl) := by rw [cell_lit wa _ 1 _ _ _ hba]; rfl
        have a2 : wa.cell? ⟨wr.heap.size, 2, none⟩ = some (.int .i64 on) := by rw [cell_lit wa _ 2 _ _ _ hba]; rfl
        have a3 : wa.cell? ⟨wr.heap.size, 3, none⟩ = some (.int .i64 om) := by rw [cell_lit wa _ 3 _ _ _ hba]; rfl
        refine hsm.mono ?_
        rintro e w5 ⟨rfl, hU5⟩
        have hqs : wr.heap.size ∉ S := fun hm => by have := hT.lt _ hm; omega
        have b0 := hU5.cell a0 (by simp)
        have b1 := hU5.cell a1 (by simp)
        have b2 := hU5.cell a2 (by simp)
        have b3 := hU5.cell a3 (by simp)
        have hUr5 := hUa.trans0 hU5
        have hU05 := hU.trans0 hUr5
        have hT5 := hT.upd0 hUr5
        have hN5 := hN.upd0 hUr5
        have hX5 := hX.upd0 hUr5
        clear hba a0 a1 a2 a3 hsm hwa hUa hU5 hT hN hX k0 k1 k2 k3 c0 c1 c2 c3
        cases hsb : smallB ol with
        | false =>
          go_wp2_with fail
          go_ret
          exact ⟨rfl, hU05⟩
        | true =>
          have hsp := small_parts hsb
          have HSP := Lib.hid hsp
          by_cases hk0 : kd = 0
          · as_aux_lemma =>
            subst hk0
            have hto := law_to w5 _ ol (hol.upd0 hU05) (by have := hsp.1; omega) (fun c hc => by have := (hsp.2 c hc).2; omega)
            go_wp2_with fail
            refine hto.mono ?_
            rintro e w6 ⟨v6, rfl, hv6, hU6⟩
            have hT6 := hT5.upd0 hU6
            have hap := table_apply w6 d tb S T hT6 v6 ol hv6.chgs (by have := hsp.1; omega) (fun c hc => by have := (hsp.2 c hc).2; omega) (by have := hI.small.1; omega) (by have := hI.size; omega)
            have b16 := hU6.cell b1 (by simp)
            have hN6 := hN5.upd0 hU6
            have hX6 := hX5.upd0 hU6
            have hU06 := hU05.trans0 hU6
            clear hT5 hN5 hX5 hto hU6 b0 b1 b2 b3
            by_cases he : (encB ol).2 = 0
            · have hA := hI.apply (by omega) ol he hsb
              have henc := fun (W : World) (hW : Upd [] w W) => ref_Encode W _ ol (hol.upd0 hW) (by have := HSP.out.1; omega)
              have hdo := fun (W : World) (hW : Upd [] w W) (v : Value) (hv : Prs W v now) => ref_Do W v _ now ol hv (hol.upd0 hW) hI.bnow.srt (by have := HSP.out.1; have := hI.bnow.len; omega) (fun c hc => by have := (HSP.out.2 c hc).2; omega)
              unfold EncPost at henc
              rw [he] at henc
              generalize T.apply ol = r at *
              obtain ⟨T2, k2⟩ := r
              dsimp only at hA
              clear he
              rcases hA with ⟨rfl, rfl, hI2⟩ | ⟨rfl, hI2⟩
              · go_wp2_with fail
                refine hap.mono ?_
                rintro e w7 ⟨rfl, S7, hT7, hU7, hS7⟩
                have hqn := hU7.cell b16 hqs
                have hU07 := hU06.new hnew hU7
                have hN7 := hN6.upd hU7 hT6.off8 (hT6.off (by decide) (by decide) (by decide) (by decide))
                have hX7 := hX6.upd hU7 hT6.off8 (hT6.off (by decide) (by decide) (by decide) (by decide))
                have hnew7 := hnew.sub hS7 hU06.size
                have henc7 := henc w7 hU07
                clear hap hU7 hS7 hT6 hN6 hX6 henc
                dsimp only at hT7
                go_wp2_with fail
                refine henc7.mono ?_
                rintro e w8 ⟨v8, rfl, hv8, hU8⟩
                have hqn8 := hU8.cell hqn (by simp)
                have hdo8 := hdo w8 (hU07.trans0 hU8) _ (hN7.upd0 hU8)
                go_wp2_with fail
                refine hdo8.mono ?_
                rintro e w10 ⟨v10, rfl, hv10, hU10⟩
                obtain ⟨ao10, cap10, hs10⟩ := hv10.shape
                subst hs10
                have hU810 := hU8.trans0 hU10
                have hT10 := hT7.upd0 hU810
                have hX10 := hX7.upd0 hU810
                have hU010 := hU07.trans0 hU810
                clear hT7 hX7 hN7 hdo hdo8 hU07
                have hm9 := (hI2).live
                have his := law_Is w10 d tb _ _ hT10 ((hI2).tok (by omega)) _ _ hv10
                rw [decide_eq_true hm9] at his
                clear hm9
                go_wp2_with fail
                refine his.mono ?_
                rintro e w9 ⟨rfl, hU9⟩
                go_wp2_with fail
                exact ⟨⟨i + 1, tb, _, _, _, _, false, by simp, hlt, by omega, rfl, rfl, (hT10).upd0 hU9, hI2, (hv10).upd0 hU9, (hX10).upd0 hU9, (hU010).trans0 hU9, hnew7⟩, by simp [intOf]; omega⟩
              · cases cut with
                | true =>
                  rw [if_pos rfl] at hI2
                  go_wp2_with fail
                  refine hap.mono ?_
                  rintro e w7 ⟨rfl, S7, hT7, hU7, hS7⟩
                  have hqn := hU7.cell b16 hqs
                  have hU07 := hU06.new hnew hU7
                  have hN7 := hN6.upd hU7 hT6.off8 (hT6.off (by decide) (by decide) (by decide) (by decide))
                  have hX7 := hX6.upd hU7 hT6.off8 (hT6.off (by decide) (by decide) (by decide) (by decide))
                  have hnew7 := hnew.sub hS7 hU06.size
                  have henc7 := henc w7 hU07
                  clear hap hU7 hS7 hT6 hN6 hX6 henc
                  dsimp only at hT7
                  go_wp2_with fail
                  refine henc7.mono ?_
                  rintro e w8 ⟨v8, rfl, hv8, hU8⟩
                  go_wp2_with fail
                  exact ⟨⟨i + 1, tb, S7, T2, now, next, true, by simp, hlt, by omega, rfl, rfl, hT7.upd0 hU8, hI2, hN7.upd0 hU8, hX7.upd0 hU8, hU07.trans0 hU8, hnew7⟩, by simp [intOf]; omega⟩
                | false =>
                  rw [if_neg (by simp)] at hI2
                  go_wp2_with fail
                  refine hap.mono ?_
                  rintro e w7 ⟨rfl, S7, hT7, hU7, hS7⟩
                  have hqn := hU7.cell b16 hqs
                  have hU07 := hU06.new hnew hU7
                  have hN7 := hN6.upd hU7 hT6.off8 (hT6.off (by decide) (by decide) (by decide) (by decide))
                  have hX7 := hX6.upd hU7 hT6.off8 (hT6.off (by decide) (by decide) (by decide) (by decide))
                  have hnew7 := hnew.sub hS7 hU06.size
                  have henc7 := henc w7 hU07
                  clear hap hU7 hS7 hT6 hN6 hX6 henc
                  dsimp only at hT7
                  go_wp2_with fail
                  refine henc7.mono ?_
                  rintro e w8 ⟨v8, rfl, hv8, hU8⟩
                  have hqn8 := hU8.cell hqn (by simp)
                  have hdo8 := hdo w8 (hU07.trans0 hU8) _ (hN7.upd0 hU8)
                  go_wp2_with fail
                  refine hdo8.mono ?_
                  rintro e w10 ⟨v10, rfl, hv10, hU10⟩
                  have hU810 := hU8.trans0 hU10
                  go_wp2_with fail
                  exact ⟨⟨i + 1, tb, S7, T2, now, tdo now ol, true, by simp, hlt, by omega, rfl, rfl, hT7.upd0 hU810, hI2, hN7.upd0 hU810, hv10, hU07.trans0 hU810, hnew7⟩, by simp [intOf]; omega⟩
            · have hA := hI.apply_bad ol he
              have h5 := encB_err ol
              have henc := fun (W : World) (hW : Upd [] w W) => ref_Encode W _ ol (hol.upd0 hW) (by have := HSP.out.1; omega)
              unfold EncPost at henc
              generalize T.apply ol = r at *
              obtain ⟨T2, k2⟩ := r
              dsimp only at hA
              generalize hk3 : (encB ol).2 = k3 at *
              have hk3b : ((k3 : Int) != 0) = true := by simp; omega
              have hk5b : ((5 : Int) != (k3 : Int)) = true := by simp; omega
              have hk55 : ((5 : Int) != 5) = false := by simp
              clear he h5 hk3
              obtain ⟨hA1, hI2⟩ := hA
              go_wp2_with fail
              refine hap.mono ?_
              rintro e w7 ⟨rfl, S7, hT7, hU7, hS7⟩
              have hqn := hU7.cell b16 hqs
              have hU07 := hU06.new hnew hU7
              have hN7 := hN6.upd hU7 hT6.off8 (hT6.off (by decide) (by decide) (by decide) (by decide))
              have hX7 := hX6.upd hU7 hT6.off8 (hT6.off (by decide) (by decide) (by decide) (by decide))
              have hnew7 := hnew.sub hS7 hU06.size
              have henc7 := henc w7 hU07
              clear hap hU7 hS7 hT6 hN6 hX6 henc
              dsimp only at hT7
              rcases hA1 with rfl | rfl
              · have hkk : ((k2 : Int) != (k2 : Int)) = false := by simp
                go_wp2_with fail
                refine henc7.mono ?_
                rintro e w8 ⟨v8, rfl, hv8, hU8⟩
                go_wp2_with fail
                exact ⟨⟨i + 1, tb, S7, T2, now, next, cut, by simp, hlt, by omega, rfl, rfl, hT7.upd0 hU8, hI2, hN7.upd0 hU8, hX7.upd0 hU8, hU07.trans0 hU8, hnew7⟩, by simp [intOf]; omega⟩
              · go_wp2_with fail
                refine henc7.mono ?_
                rintro e w8 ⟨v8, rfl, hv8, hU8⟩
                go_wp2_with fail
                exact ⟨⟨i + 1, tb, S7, T2, now, next, cut, by simp, hlt, by omega, rfl, rfl, hT7.upd0 hU8, hI2, hN7.upd0 hU8, hX7.upd0 hU8, hU07.trans0 hU8, hnew7⟩, by simp [intOf]; omega⟩
          have q0 : ((kd : Int) == 0) = false := by simp; exact hk0
          clear hk0
          by_cases hk1 : kd = 1
          · as_aux_lemma =>
            subst hk1
            have hfo := table_fold w5 d tb S T hT5 hI.foldable.1 hI.foldable.2.1 hI.foldable.2.2.1 hI.foldable.2.2.2 (by rw [show T.J.name = tn from hI.name]; decide) (by have := (foldRecs_small hI.bd).2; omega) (hI.small.mono (by omega))
            have hA := hI.fold (by omega)
            generalize T.fold = r at *
            obtain ⟨T2, k2⟩ := r
            dsimp only at hA
            rcases hA with ⟨rfl, hI2⟩ | ⟨rfl, hI2⟩
            · go_wp2_with fail
              refine hfo.mono ?_
              rintro e w7 ⟨rfl, S7, hT7, hU7, hS7⟩
              have hU07 := hU05.new hnew hU7
              have hN7 := hN5.upd hU7 hT5.off8 (hT5.off (by decide) (by decide) (by decide) (by decide))
              have hX7 := hX5.upd hU7 hT5.off8 (hT5.off (by decide) (by decide) (by decide) (by decide))
              have hnew7 := hnew.sub hS7 hU05.size
              clear hfo hU7 hS7 hT5 hN5 hX5
              dsimp only at hT7
              cases cut with
              | true =>
                go_wp2_with fail
                exact ⟨⟨i + 1, tb, S7, T2, now, next, true, by simp, hlt, by omega, rfl, rfl, hT7, hI2, hN7, hX7, hU07, hnew7⟩, by simp [intOf]; omega⟩
              | false =>
                have hm9 := (hI2).live
                have his := law_Is w7 d tb _ _ hT7 ((hI2).tok (by omega)) _ _ hN7
                rw [decide_eq_true hm9] at his
                clear hm9
                go_wp2_with fail
                refine his.mono ?_
                rintro e w9 ⟨rfl, hU9⟩
                go_wp2_with fail
                exact ⟨⟨i + 1, tb, _, _, _, _, false, by simp, hlt, by omega, rfl, rfl, (hT7).upd0 hU9, hI2, (hN7).upd0 hU9, (hX7).upd0 hU9, (hU07).trans0 hU9, hnew7⟩, by simp [intOf]; omega⟩
            · go_wp2_with fail
              refine hfo.mono ?_
              rintro e w7 ⟨rfl, S7, hT7, hU7, hS7⟩
              have hU07 := hU05.new hnew hU7
              have hN7 := hN5.upd hU7 hT5.off8 (hT5.off (by decide) (by decide) (by decide) (by decide))
              have hX7 := hX5.upd hU7 hT5.off8 (hT5.off (by decide) (by decide) (by decide) (by decide))
              have hnew7 := hnew.sub hS7 hU05.size
              clear hfo hU7 hS7 hT5 hN5 hX5
              dsimp only at hT7
              cases cut with
              | true =>
                rw [if_pos rfl] at hI2
                go_wp2_with fail
                exact ⟨⟨i + 1, tb, S7, T2, now, next, true, by simp, hlt, by omega, rfl, rfl, hT7, hI2, hN7, hX7, hU07, hnew7⟩, by simp [intOf]; omega⟩
              | false =>
                rw [if_neg (by simp)] at hI2
                go_wp2_with fail
                exact ⟨⟨i + 1, tb, S7, T2, now, now, true, by simp, hlt, by omega, rfl, rfl, hT7, hI2, hN7, hN7, hU07, hnew7⟩, by simp [intOf]; omega⟩
          have q1 : ((kd : Int) == 1) = false := by simp; exact hk1
          clear hk1
          by_cases hk2 : kd = 2
          · as_aux_lemma =>
            subst hk2
            obtain ⟨Sd, hDk, hsub, hback⟩ := hT5.disk
            have hfu := disk_fuse w5 d Sd T.J.D hDk on hon.hi
            have hI2 := hI.fuse on
            go_wp2_with fail
            refine hfu.mono ?_
            rintro e w7 ⟨rfl, S6, hD7, hU6, hS6⟩
            obtain ⟨S7, hT7, hU7, hS7⟩ := hback w7 S6 _ hD7 hU6 hS6
            have hU07 := hU05.new hnew hU7
            have hN7 := hN5.upd hU7 hT5.off8 (hT5.off (by decide) (by decide) (by decide) (by decide))
            have hX7 := hX5.upd hU7 hT5.off8 (hT5.off (by decide) (by decide) (by decide) (by decide))
            have hnew7 := hnew.sub hS7 hU05.size
            clear hfu hU7 hS7 hT5 hN5 hX5 hback hD7 hU6 hS6 hDk hsub
            cases cut with
            | true =>
              go_wp2_with fail
              exact ⟨⟨i + 1, tb, S7, _, now, next, true, by simp, hlt, by omega, rfl, rfl, hT7, hI2, hN7, hX7, hU07, hnew7⟩, by simp [intOf]; omega⟩
            | false =>
              have hm9 := (hI2).live
              have his := law_Is w7 d tb _ _ hT7 ((hI2).tok (by omega)) _ _ hN7
              rw [decide_eq_true hm9] at his
              clear hm9
              go_wp2_with fail
              refine his.mono ?_
              rintro e w9 ⟨rfl, hU9⟩
              go_wp2_with fail
              exact ⟨⟨i + 1, tb, _, _, _, _, false, by simp, hlt, by omega, rfl, rfl, (hT7).upd0 hU9, hI2, (hN7).upd0 hU9, (hX7).upd0 hU9, (hU07).trans0 hU9, hnew7⟩, by simp [intOf]; omega⟩
          have q2 : ((kd : Int) == 2) = false := by simp; exact hk2
          clear hk2
          by_cases hk3 : kd = 3
          · as_aux_lemma =>
            subst hk3
            obtain ⟨Sd, hDk, hsub, hback⟩ := hT5.disk
            clear hback
            have hcr := disk_crash w5 d Sd T.J.D hDk (by have := hI.small.1; omega) on om
            obtain ⟨c, hDs, hc⟩ := hI.crash on om
            have hbc : Bd i c := by
              rcases hc with rfl | ⟨_, rfl⟩
              · exact hI.bnow
              · exact hI.bnext
            have hbx := hI.bnext
            have hnd : NewIn w Sd := fun k hk => hnew k (hsub k hk)
            have hqd : wr.heap.size ∉ Sd := fun hk => hqs (hsub _ hk)
            go_wp2_with fail
            refine hcr.mono ?_
            rintro e w7 ⟨rfl, S6, hD7, hU6, hS6⟩
            have hU07 := hU05.new hnd hU6
            have hN7 := hN5.upd hU6 hDk.off8 (hDk.off (by decide) (by decide))
            have hX7 := hX5.upd hU6 hDk.off8 (hDk.off (by decide) (by decide))
            have hnew7 := hnd.sub hS6 hU05.size
            have hq7 : wr.heap.size ∉ S6 := fun hk => by
              rcases hS6 _ hk with h1 | h1
              · exact hqd h1
              · have := lt_of_cell b0; omega
            have d2 := hU6.cell b2 hqd
            have d3 := hU6.cell b3 hqd
            clear hcr hDk hsub hU6 hS6 hN5 hX5 hT5 hnd hqd hnew hqs b0 b1 b2 b3
            obtain ⟨ag, hag, hae⟩ := ag_small om
            have hlo := crash_loose T.J.D on om
            have HI := Lib.hid hI
            have Hc := Lib.hid hc
            clear hI hc
            go_wp2_with fail
            rw [hae]
            clear hae
            go_loopw [16] (fun x wr2 => AgRel w d wr.heap.size i c now next on om u7 u8 x wr2) (fun x _ => (intOf x).toNat)
            case atStart => exact ⟨ag, S6, _, rfl, hag, hD7, hDs, hlo, hN7, hX7, hU07, hnew7, hq7, d2, d3⟩
            case round =>
              obtain ⟨a, S8, D8, rfl, ha, hD8, hDs8, hlo8, hN8, hX8, hU8, hnew8, hq8, e2, e3⟩ := hrel
              clear hD7 hU07 hN7 hX7 hnew7 hq7 d2 d3 hDs hlo
              by_cases ha0 : 0 < a
              · go_wp2_with fail
                refine (disk_fuse _ d S8 D8 hD8 _ (wrap64_le _)).mono ?_
                rintro e w9 ⟨rfl, S9, hD9, hU9, hS9⟩
                have f2 := hU9.cell e2 hq8
                have f3 := hU9.cell e3 hq8
                have hq9 := not_sub hS9 hq8 (lt_of_cell e2)
                have hU89 := hU8.new hnew8 hU9
                have hN9 := hN8.upd hU9 hD8.off8 (hD8.off (by decide) (by decide))
                have hX9 := hX8.upd hU9 hD8.off8 (hD8.off (by decide) (by decide))
                have hnew9 := hnew8.sub hS9 hU8.size
                have hDs9 := hDs8.fuse (wrap64 ((IntKind.u64.wrap (wrap64 (on + ↑a))).tmod 7))
                clear e2 e3 hq8 hU8 hN8 hX8 hnew8 hS9 hU9 hDs8 hlo8
                go_wp2_with fail
                refine (table_open_any _ d S9 _ hD9 (k := i) (F := 0) (c := c) (by omega) hDs9).mono ?_
                rintro e w10 ⟨tv10, ev10, S10, rfl, hD10, hU10, hS10⟩
                have g2 := hU10.cell f2 hq9
                have g3 := hU10.cell f3 hq9
                have hq10 := not_sub hS10 hq9 (lt_of_cell f2)
                have hU90 := hU89.new hnew9 hU10
                have hN10 := hN9.upd hU10 hD9.off8 (hD9.off (by decide) (by decide))
                have hX10 := hX9.upd hU10 hD9.off8 (hD9.off (by decide) (by decide))
                have hnew10 := hnew9.sub hS10 hU89.size
                have hlo10 := hDs9.openLoose (by omega)
                have hDs10 := hDs9.again (by omega)
                clear f2 f3 hq9 hU89 hN9 hX9 hnew9 hS10 hU10 hDs9 hD9
                go_wp2_with fail
                refine (disk_crash _ d S10 _ hD10 hlo10 _ _).mono ?_
                rintro e w11 ⟨rfl, S11, hD11, hU11, hS11⟩
                have k2 := hU11.cell g2 hq10
                have k3 := hU11.cell g3 hq10
                have hq11 := not_sub hS11 hq10 (lt_of_cell g2)
                have hU101 := hU90.new hnew10 hU11
                have hN11 := hN10.upd hU11 hD10.off8 (hD10.off (by decide) (by decide))
                have hX11 := hX10.upd hU11 hD10.off8 (hD10.off (by decide) (by decide))
                have hnew11 := hnew10.sub hS11 hU90.size
                go_wp2_with fail
                exact ⟨⟨a - 1, S11, _, by simp; omega, by omega, hD11, hDs10 _ _, crash_loose _ _ _, hN11, hX11, hU101, hnew11, hq11, k2, k3⟩, by simp [intOf]; omega⟩
              · obtain rfl : a = 0 := by omega
                go_wp2_with fail
                refine (table_open_last _ d S8 _ hD8 (k := i) (c := c) (next := next) (by omega) hDs8 hbc hbx).mono ?_
                rintro e w9 ⟨tb9, S9, T9, rfl, hT9, hm9, hI9, hU9, hS9⟩
                have hU89 := hU8.new hnew8 hU9
                have hN9 := hN8.upd hU9 hD8.off8 (hD8.off (by decide) (by decide))
                have hX9 := hX8.upd hU9 hD8.off8 (hD8.off (by decide) (by decide))
                have hnew9 := hnew8.sub hS9 hU8.size
                have his1 := law_Is w9 d tb9 _ _ hT9 (hI9.tok (by omega)) _ _ hN9
                rw [hm9] at his1
                clear hN8 hX8 hnew8 hS9 hU9 hDs8 hlo8 hU8 hD8 e2 e3 hq8
                by_cases hcn : c = now
                · rw [decide_eq_true hcn] at his1
                  clear hcn hm9
                  go_wp2_with fail
                  refine his1.mono ?_
                  rintro e w10 ⟨rfl, hU10⟩
                  have hX12p := (hX9.upd0 hU10)
                  clear hX9 his1 hN9
                  go_wp2_with fail
                  refine (law_Pairs w10 d tb9 _ _ (hT9.upd0 hU10) (hI9.tok (by omega))).mono ?_
                  rintro e w12 ⟨v12, rfl, hv12, hU12⟩
                  rw [hI9.live] at hv12
                  obtain ⟨ao12, cap12, hs12⟩ := hv12.shape
                  subst hs12
                  have hT12 := ((hT9.upd0 hU10)).upd0 hU12
                  have hX12 := hX12p.upd0 hU12
                  have hU012 := ((hU89.trans0 hU10)).trans0 hU12
                  clear hX12p
                  have hm9 := (hI9).live
                  have his := law_Is w12 d tb9 _ _ hT12 ((hI9).tok (by omega)) _ _ hv12
                  rw [decide_eq_true hm9] at his
                  clear hm9
                  go_wp2_with fail
                  refine his.mono ?_
                  rintro e w9 ⟨rfl, hU9⟩
                  go_wp2_with fail
                  exact ⟨⟨i + 1, tb9, _, _, _, _, false, by simp, hlt, by omega, rfl, rfl, (hT12).upd0 hU9, hI9, (hv12).upd0 hU9, (hX12).upd0 hU9, (hU012).trans0 hU9, hnew9⟩, by simp [intOf]; omega⟩
                · obtain ⟨hcut, hcx⟩ := Hc.out.resolve_left hcn
                  rw [decide_eq_false hcn] at his1
                  subst hcut
                  clear hcn
                  have his2 := fun (W : World) (hW : Upd [] w9 W) => law_Is W d tb9 _ _ (hT9.upd0 hW) (hI9.tok (by omega)) _ _ (hX9.upd0 hW)
                  rw [hm9, decide_eq_true hcx] at his2
                  clear hcx hm9
                  go_wp2_with fail
                  refine his1.mono ?_
                  rintro e w10 ⟨rfl, hU10⟩
                  go_wp2_with fail
                  refine (his2 w10 hU10).mono ?_
                  rintro e w11 ⟨rfl, hU11⟩
                  have hX12p := (hX9.upd0 (hU10.trans0 hU11))
                  clear hX9 his1 hN9
                  go_wp2_with fail
                  refine (law_Pairs w11 d tb9 _ _ (hT9.upd0 (hU10.trans0 hU11)) (hI9.tok (by omega))).mono ?_
                  rintro e w12 ⟨v12, rfl, hv12, hU12⟩
                  rw [hI9.live] at hv12
                  obtain ⟨ao12, cap12, hs12⟩ := hv12.shape
                  subst hs12
                  have hT12 := ((hT9.upd0 (hU10.trans0 hU11))).upd0 hU12
                  have hX12 := hX12p.upd0 hU12
                  have hU012 := ((hU89.trans0 (hU10.trans0 hU11))).trans0 hU12
                  clear hX12p
                  have hm9 := (hI9).live
                  have his := law_Is w12 d tb9 _ _ hT12 ((hI9).tok (by omega)) _ _ hv12
                  rw [decide_eq_true hm9] at his
                  clear hm9
                  go_wp2_with fail
                  refine his.mono ?_
                  rintro e w9 ⟨rfl, hU9⟩
                  go_wp2_with fail
                  exact ⟨⟨i + 1, tb9, _, _, _, _, false, by simp, hlt, by omega, rfl, rfl, (hT12).upd0 hU9, hI9, (hv12).upd0 hU9, (hX12).upd0 hU9, (hU012).trans0 hU9, hnew9⟩, by simp [intOf]; omega⟩
          · have q3 : ((kd : Int) == 3) = false := by simp; exact hk3
            clear hk3
            have hI2 := hI.next
            cases cut with
            | true =>
              go_wp2_with fail
              exact ⟨⟨i + 1, tb, S, _, now, next, true, by simp, hlt, by omega, rfl, rfl, hT5, hI2, hN5, hX5, hU05, hnew⟩, by simp [intOf]; omega⟩
            | false =>
              have hm9 := (hI2).live
              have his := law_Is w5 d tb _ _ hT5 ((hI2).tok (by omega)) _ _ hN5
              rw [decide_eq_true hm9] at his
              clear hm9
              go_wp2_with fail
              refine his.mono ?_
              rintro e w9 ⟨rfl, hU9⟩
              go_wp2_with fail
              exact ⟨⟨i + 1, tb, _, _, _, _, false, by simp, hlt, by omega, rfl, rfl, (hT5).upd0 hU9, hI2, (hN5).upd0 hU9, (hX5).upd0 hU9, (hU05).trans0 hU9, hnew⟩, by simp [intOf]; omega⟩
      · have t60 : decide ((60 : Int) ≤ (i : Int)) = true := by simp; omega
        clear hoi
        go_wp2_with ((with_reducible show wpList _ _ _ (⟨_, .indexAddr _ _ _, _, _, _, _⟩ :: _) _ _); refine wpl_indexAddrX elOp rfl rfl hRr rfl rfl (by omega) (by omega) ?_; intro ad hcell hspot; (have k0 := hcell 0 (by omega)); (have k1 := hcell 1 (by omega)); (have k2 := hcell 2 (by omega)); (have k3 := hcell 3 (by omega)); rw [Int.toNat_natCast, c0] at k0; rw [Int.toNat_natCast, c1] at k1; rw [Int.toNat_natCast, c2] at k2; rw [Int.toNat_natCast, c3] at k3; clear hcell; obtain ⟨gb, gof, gs⟩ := ad; cases hspot; simp only [Addr.add_lit, Nat.add_zero] at k0 k1 k2 k3)
        go_ret
        exact ⟨rfl, hU.trans0 (Upd.alloc [] _ _)⟩
    · have htt : decide ((i : Int) < (ops.length : Int)) = false := by simp; omega
      go_wp2_with fail
      go_ret
      exact ⟨rfl, hU⟩
end Go.Proofs.Ythfbfdkjgkkpcaa

namespace Go.Proofs.Ythfbfdkjgkkpcaa
open Go Go.ChangeShapes Go.WideShapes Go.ChangeAt Go.RowKit Go.ChangeMaps

theorem len_three {α : Type} : ∀ {l : List α}, l.length = 3 → ∃ a b c, l = [a, b, c]
  | [a, b, c], _ => ⟨a, b, c, rfl⟩
theorem len_two {α : Type} : ∀ {l : List α}, l.length = 2 → ∃ a b, l = [a, b]
  | [a, b], _ => ⟨a, b, rfl⟩
theorem addr_add_add (a : Addr) (m j : Nat) : (a.add m).add j = a.add (m + j) := by
  obtain ⟨b, o, s⟩ := a
  simp only [Addr.add]
  by_cases hm : m = 0
  · subst hm; simp
  · by_cases hj : j = 0
    · subst hj; simp
    · rw [if_neg hm, if_neg hj, if_neg (by omega)]
      simp only [Addr.mk.injEq, and_true, true_and]
      omega
section
variable {H : Type} {en : TypeId × Value → H} {w : World} {base : Nat} {sp : Nat → Bool} {held : Bool}
theorem open_bytesX {fuel : Nat} {cs : List Value} {x : DataW H × List MemPlace} (h : DataW.trod en Try.prog w base sp held fuel 41 cs = some x) : ∃ v l, cs = [v] ∧ ByX w v l := by
  rcases open_ints Try.underlying41 Try.underlying5 (by kernel_rfl) h with ⟨rfl, _⟩ | ⟨a, len, cap, zs, rfl, _, hlc, hcm, hzl, _, hcell, hwf⟩
  · exact ⟨_, [], rfl, by simp, Nat.zero_le _, .inl ⟨rfl, rfl⟩⟩
  · have hl : len ≤ zs.length := by rw [hzl]; split <;> omega
    have hn : ((zs.take len).map (fun n => UInt8.ofNat n.toNat)).length = len := by simp; omega
    refine ⟨_, (zs.take len).map (fun n => UInt8.ofNat n.toNat), rfl, by simp, by rw [hn]; omega, .inr ⟨a, cap, by rw [hn], by rw [hn]; exact hlc, fun j u hj => ?_⟩⟩
    have hjl : j < len := by
      have := (List.getElem?_eq_some_iff.1 hj).1
      rw [List.length_map, hn] at this
      exact this
    have hz : zs[j]? = some (zs[j]'(by omega)) := List.getElem?_eq_getElem (by omega)
    rw [List.map_map, List.getElem?_map, List.getElem?_take, if_pos hjl, hz] at hj
    simp only [Option.map_some, Option.some.injEq, Function.comp] at hj
    rw [hcell j (by omega), List.getD, hz, ← hj]
    have hb := hwf (zs[j]'(by omega)) (List.getElem_mem _)
    generalize zs[j]'(by omega) = z at hb ⊢
    simp [Lit.wf, IntKind.min, IntKind.max, IntKind.signed, IntKind.bits] at hb
    simp only [Option.getD_some, enc]
    congr 2
    rw [UInt8.toNat_ofNat']
    omega
theorem XCells.append {w : World} {ds : List Value} {m : List TChg} (hd : XCells w ds m) : ∀ {cs : List Value} {l : List TChg}, XCells w cs l → XCells w (cs ++ ds) (l ++ m)
  | [], [], _ => hd
  | _ :: _ :: _ :: _, _ :: _, h => ⟨h.1, h.2.1, h.2.2.1, XCells.append hd h.2.2.2⟩
theorem open_chg {fuel : Nat} {cs : List Value} {x : DataW H × List MemPlace} (h : DataW.trod en Try.prog w base sp held fuel 82 cs = some x) : ∃ (pv : Value) (c : TChg), cs = [encS c.key, .bool c.gone, pv] ∧ ByX w pv c.val := by
  obtain ⟨xs, n, rfl, _, hl, hx, hf⟩ := DataW.trod_struct Try.underlying82 h
  have hl3 : cs.length = 3 := by rw [hl]; kernel_rfl
  obtain ⟨c0, c1, c2, rfl⟩ := len_three hl3
  obtain ⟨y0, y1, y2, rfl⟩ := len_three (show xs.length = 3 from hx)
  have z9 : Try.prog.cellsOf 9 = 1 := by kernel_rfl
  have z4 : Try.prog.cellsOf 4 = 1 := by kernel_rfl
  have z41 : Try.prog.cellsOf 41 = 1 := by kernel_rfl
  have f0 : DataW.trod en Try.prog w base sp held n 9 (([c0, c1, c2].drop 0).take (Try.prog.cellsOf 9)) = some y0 := hf 0 _ rfl
  have f1 : DataW.trod en Try.prog w base sp held n 4 (([c0, c1, c2].drop 1).take (Try.prog.cellsOf 4)) = some y1 := hf 1 _ rfl
  have f2 : DataW.trod en Try.prog w base sp held n 41 (([c0, c1, c2].drop 2).take (Try.prog.cellsOf 41)) = some y2 := hf 2 _ rfl
  rw [z9] at f0
  rw [z4] at f1
  rw [z41] at f2
  obtain ⟨s, e0, _, _⟩ := DataW.trod_string Try.underlying9 f0
  obtain ⟨b, e1, _⟩ := DataW.trod_bool Try.underlying4 f1
  obtain ⟨pv, v, e2, hv⟩ := open_bytesX f2
  have q0 : c0 = .string s := by injection e0
  have q1 : c1 = .bool b := by injection e1
  have q2 : c2 = pv := by injection e2
  subst q0
  subst q1
  subst q2
  exact ⟨c2, ⟨s.data.toList, b, v⟩, by simp [encS], hv⟩
theorem build_chgs {a : Addr} : ∀ (k : Nat), (∀ i, i < k → ∃ (pv : Value) (c : TChg), (∀ j u, [encS c.key, .bool c.gone, pv][j]? = some u → w.cell? (a.add (i * 3 + j)) = some u) ∧ ByX w pv c.val) →
    ∃ (cells : List Value) (l : List TChg), cells.length = k * 3 ∧ l.length = k ∧ XCells w cells l ∧ ∀ j u, cells[j]? = some u → w.cell? (a.add j) = some u
  | 0, _ => ⟨[], [], rfl, rfl, trivial, fun j u h => by simp at h⟩
  | k + 1, h => by
    obtain ⟨cells, l, h1, h2, h3, h4⟩ := build_chgs k (fun i hi => h i (by omega))
    obtain ⟨pv, c, h5, h6⟩ := h k (by omega)
    have hd : XCells w [encS c.key, .bool c.gone, pv] [c] := ⟨rfl, rfl, h6, trivial⟩
    refine ⟨cells ++ [encS c.key, .bool c.gone, pv], l ++ [c], by simp [h1]; omega, by simp [h2], hd.append h3, ?_⟩
    intro j u hj
    by_cases hlt : j < cells.length
    · rw [List.getElem?_append_left hlt] at hj
      exact h4 j u hj
    · rw [List.getElem?_append_right (by omega), h1] at hj
      have := h5 (j - k * 3) u hj
      rwa [show k * 3 + (j - k * 3) = j from by omega] at this
theorem open_chgs {fuel : Nat} {cs : List Value} {x : DataW H × List MemPlace} (h : DataW.trod en Try.prog w base sp held fuel 22 cs = some x) : ∃ v l, cs = [v] ∧ RChgs w v l := by
  rcases DataW.trod_slice Try.underlying22 h with ⟨rfl, _⟩ | ⟨a, len, cap, elems, rest, n, _, rfl, _, _, hlc, hcm, hel, hall, _, _⟩
  · exact ⟨_, [], rfl, [], ⟨rfl, Nat.zero_le _, .inl ⟨rfl, rfl⟩⟩, trivial⟩
  · have z : Try.prog.cellsOf 82 = 3 := by kernel_rfl
    rw [z] at hall
    obtain ⟨cells, l, h1, h2, h3, h4⟩ := build_chgs (w := w) (a := a) len (fun i hi => by
      have hi1 := hall i hi
      rw [List.getElem?_eq_getElem (by omega), Option.bind_eq_some_iff] at hi1
      obtain ⟨cs', hc1, hc2⟩ := hi1
      obtain ⟨pv, c, rfl, hv⟩ := open_chg hc2
      refine ⟨pv, c, fun j u hj => ?_, hv⟩
      have hj3 : j < 3 := (List.getElem?_eq_some_iff.1 hj).1
      have h5 := (World.cells?_some hc1).2.2 j hj3
      rw [hj] at h5
      rw [← h5, addr_add_add])
    exact ⟨_, l, rfl, cells, ⟨by rw [h1, h2], by omega, .inr ⟨a, cap, by rw [h2], by omega, h4⟩⟩, h3⟩
theorem open_two {fuel : Nat} {cs : List Value} {x : DataW H × List MemPlace} (h : DataW.trod en Try.prog w base sp held fuel 23 cs = some x) : ∃ a b : List UInt8, cs = [encS a, encS b] ∧ a.length ≤ maxLen := by
  obtain ⟨xs, n, rfl, _, hl, hx, hf⟩ := DataW.trod_array Try.underlying23 h
  have hl3 : cs.length = 2 := by rw [hl]; kernel_rfl
  obtain ⟨c0, c1, rfl⟩ := len_two hl3
  obtain ⟨y0, y1, rfl⟩ := len_two hx
  have z9 : Try.prog.cellsOf 9 = 1 := by kernel_rfl
  generalize Try.prog.cellsOf 9 = z at hf z9
  subst z9
  have f0 := hf 0 (by omega)
  have f1 := hf 1 (by omega)
  obtain ⟨s, e0, _, hs⟩ := DataW.trod_string Try.underlying9 f0
  obtain ⟨t, e1, _, _⟩ := DataW.trod_string Try.underlying9 f1
  have q0 : c0 = .string s := by injection e0
  have q1 : c1 = .string t := by injection e1
  subst q0
  subst q1
  exact ⟨s.data.toList, t.data.toList, by simp [encS], by rw [Array.length_toList]; exact hs⟩
end
end Go.Proofs.Ythfbfdkjgkkpcaa

namespace Go.Proofs.Ythfbfdkjgkkpcaa
open Go Go.ChangeShapes Go.WideShapes Go.ChangeAt Go.RowKit Go.ChangeMaps

theorem len_four {α : Type} : ∀ {l : List α}, l.length = 4 → ∃ a b c d, l = [a, b, c, d]
  | [a, b, c, d], _ => ⟨a, b, c, d, rfl⟩
theorem I64.of_wf {n : Int} (h : (Lit.int .i64 n).wf = true) : I64 n := ⟨(bounds_i64 h).1, (bounds_i64 h).2⟩
theorem OCells.append {w : World} {ds : List Value} {m : List LOp} (hd : OCells w ds m) : ∀ {cs : List Value} {l : List LOp}, OCells w cs l → OCells w (cs ++ ds) (l ++ m)
  | [], [], _ => hd
  | _ :: _ :: _ :: _ :: _, _ :: _, h => ⟨h.1, h.2.1, h.2.2.1, h.2.2.2.1, h.2.2.2.2.1, OCells.append hd h.2.2.2.2.2⟩
section
variable {H : Type} {en : TypeId × Value → H} {w : World} {base : Nat} {sp : Nat → Bool} {held : Bool}
theorem open_lop {fuel : Nat} {cs : List Value} {x : DataW H × List MemPlace} (h : DataW.trod en Try.prog w base sp held fuel 59 cs = some x) : ∃ (lv : Value) (o : LOp), cs = [.int .i64 o.kind, lv, .int .i64 o.n, .int .i64 o.m] ∧ RChgs w lv o.l ∧ I64 o.n := by
  obtain ⟨xs, n, rfl, _, hl, hx, hf⟩ := DataW.trod_struct Try.underlying59 h
  have hl4 : cs.length = 4 := by rw [hl]; kernel_rfl
  obtain ⟨c0, c1, c2, c3, rfl⟩ := len_four hl4
  obtain ⟨y0, y1, y2, y3, rfl⟩ := len_four (show xs.length = 4 from hx)
  have zi : Try.prog.cellsOf 3 = 1 := by kernel_rfl
  have zl : Try.prog.cellsOf 22 = 1 := by kernel_rfl
  have f0 : DataW.trod en Try.prog w base sp held n 3 (([c0, c1, c2, c3].drop 0).take (Try.prog.cellsOf 3)) = some y0 := hf 0 _ rfl
  have f1 : DataW.trod en Try.prog w base sp held n 22 (([c0, c1, c2, c3].drop 1).take (Try.prog.cellsOf 22)) = some y1 := hf 1 _ rfl
  have f2 : DataW.trod en Try.prog w base sp held n 3 (([c0, c1, c2, c3].drop 2).take (Try.prog.cellsOf 3)) = some y2 := hf 2 _ rfl
  have f3 : DataW.trod en Try.prog w base sp held n 3 (([c0, c1, c2, c3].drop 3).take (Try.prog.cellsOf 3)) = some y3 := hf 3 _ rfl
  rw [zi] at f0 f2 f3
  rw [zl] at f1
  obtain ⟨n0, e0, _, _⟩ := DataW.trod_int Try.underlying3 f0
  obtain ⟨lv, l, e1, hv⟩ := open_chgs f1
  obtain ⟨n2, e2, _, hw2⟩ := DataW.trod_int Try.underlying3 f2
  obtain ⟨n3, e3, _, _⟩ := DataW.trod_int Try.underlying3 f3
  have q0 : c0 = .int .i64 n0 := by injection e0
  have q1 : c1 = lv := by injection e1
  have q2 : c2 = .int .i64 n2 := by injection e2
  have q3 : c3 = .int .i64 n3 := by injection e3
  subst q0
  subst q1
  subst q2
  subst q3
  exact ⟨c1, ⟨n0, l, n2, n3⟩, rfl, hv, I64.of_wf hw2⟩
theorem build_lops {a : Addr} : ∀ (k : Nat), (∀ i, i < k → ∃ (lv : Value) (o : LOp), (∀ j u, [.int .i64 o.kind, lv, .int .i64 o.n, .int .i64 o.m][j]? = some u → w.cell? (a.add (i * 4 + j)) = some u) ∧ RChgs w lv o.l ∧ I64 o.n) →
    ∃ (cells : List Value) (l : List LOp), cells.length = k * 4 ∧ l.length = k ∧ OCells w cells l ∧ ∀ j u, cells[j]? = some u → w.cell? (a.add j) = some u
  | 0, _ => ⟨[], [], rfl, rfl, trivial, fun j u h => by simp at h⟩
  | k + 1, h => by
    obtain ⟨cells, l, h1, h2, h3, h4⟩ := build_lops k (fun i hi => h i (by omega))
    obtain ⟨lv, o, h5, h6, h7⟩ := h k (by omega)
    have hd : OCells w [.int .i64 o.kind, lv, .int .i64 o.n, .int .i64 o.m] [o] := ⟨rfl, h6, rfl, rfl, h7, trivial⟩
    refine ⟨cells ++ [.int .i64 o.kind, lv, .int .i64 o.n, .int .i64 o.m], l ++ [o], by simp [h1]; omega, by simp [h2], hd.append h3, ?_⟩
    intro j u hj
    by_cases hlt : j < cells.length
    · rw [List.getElem?_append_left hlt] at hj
      exact h4 j u hj
    · rw [List.getElem?_append_right (by omega), h1] at hj
      have := h5 (j - k * 4) u hj
      rwa [show k * 4 + (j - k * 4) = j from by omega] at this
theorem open_lops {fuel : Nat} {cs : List Value} {x : DataW H × List MemPlace} (h : DataW.trod en Try.prog w base sp held fuel 57 cs = some x) : ∃ v l, cs = [v] ∧ ROps w v l := by
  rcases DataW.trod_slice Try.underlying57 h with ⟨rfl, _⟩ | ⟨a, len, cap, elems, rest, n, _, rfl, _, _, hlc, hcm, hel, hall, _, _⟩
  · exact ⟨_, [], rfl, [], ⟨rfl, Nat.zero_le _, .inl ⟨rfl, rfl⟩⟩, trivial⟩
  · have z : Try.prog.cellsOf 59 = 4 := by kernel_rfl
    rw [z] at hall
    obtain ⟨cells, l, h1, h2, h3, h4⟩ := build_lops (w := w) (a := a) len (fun i hi => by
      have hi1 := hall i hi
      rw [List.getElem?_eq_getElem (by omega), Option.bind_eq_some_iff] at hi1
      obtain ⟨cs', hc1, hc2⟩ := hi1
      obtain ⟨lv, o, rfl, hv, hb⟩ := open_lop hc2
      refine ⟨lv, o, fun j u hj => ?_, hv, hb⟩
      have hj4 : j < 4 := (List.getElem?_eq_some_iff.1 hj).1
      have h5 := (World.cells?_some hc1).2.2 j hj4
      rw [hj] at h5
      rw [← h5, addr_add_add])
    exact ⟨_, l, rfl, cells, ⟨by rw [h1, h2], by omega, .inr ⟨a, cap, by rw [h2], by omega, h4⟩⟩, h3⟩
end
end Go.Proofs.Ythfbfdkjgkkpcaa

namespace Go.Proofs.Ythfbfdkjgkkpcaa
open Go Go.ChangeShapes Go.WideShapes Go.ChangeAt Go.RowKit Go.ChangeMaps

theorem own_knob : ownKnob Try.prog.godebug = none := by kernel_rfl
theorem laid_out : laidOutB Try.prog = true := by kernel_rfl
theorem kept_of_upd {w w' : World} (h : Upd [] w w') (may : MemPlace → Prop) : w.keptBut w' may := by
  refine ⟨h.os, h.output, fun i hi => ?_⟩
  rw [h.keep i hi (by simp)]
  exact (World.keptBut_refl w may).2.2 i hi
theorem okWide_array {P : Program} {w : World} {r : Reach} {b0 : Nat} {t e : TypeId} {n : Nat} {v : Value} (ht : P.underlying t = some (.array n e)) (h : Value.okWide P w r b0 t v) : ∃ cs, v = .agg cs := by
  unfold Value.okWide at h
  rw [ht] at h
  obtain ⟨cs, rfl, _⟩ := h
  exact ⟨cs, rfl⟩
/-- What a call that turned nothing old leaves, as the row asks. -/
theorem post_of_upd {H : Type} {enc : TypeId × Value → H} {P : Program} {f : Func} {s : ChangeSpec} {apart fresh handsOn : Bool} {W W' : World} {args : Array Value} {v : Value} {ds gs : List (DataW H)} {before pa pv : List MemPlace}
    (hW : DataW.Whole enc P f.params.toList s.vars apart W args.toList ds gs before)
    (hres : ∀ (b : Nat) (sp : Nat → Bool) (hd : Bool), DataW.TrodAll enc P W' b sp hd f.resultTypes.toList (v.resultList f.resultTypes.size) (s.fn H (ds ++ gs)).results [])
    (hargs : DataW.TrodAll enc P W' 0 (fun b => decide (b < W.heap.size)) true f.params.toList args.toList (s.fn H (ds ++ gs)).args pa)
    (hvars : ∀ sp : Nat → Bool, (∀ p ∈ before, sp p.block = true) → DataW.TrodVars enc P W' sp s.vars (s.fn H (ds ++ gs)).vars pv)
    (hU : Upd [] W W') : s.post enc P f apart fresh handsOn false W args v W' := by
  have hold : ∀ p ∈ before, (fun b => decide (b < W.heap.size)) p.block = true := fun p hp => by simpa using hW.lt p hp
  exact ⟨ds, gs, before, [], pa, pv, hW, hres _ _ _, hargs, hvars _ hold, kept_of_upd hU _, fun h => by cases h⟩

end Go.Proofs.Ythfbfdkjgkkpcaa
