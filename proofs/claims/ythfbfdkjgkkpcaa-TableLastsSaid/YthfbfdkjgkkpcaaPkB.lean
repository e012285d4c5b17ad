/-
  The walk of the disk's Crash.
  A region that draws its order and whose operations keep a condition on the world: each that reads is taken in the order of the text; one whose guard does not hold is passed by. (After the library's own law on a held condition.)
  The journal: a record's frame, Append, Sync, Size.
  A slice literal of any number of elements.
  The journal's Open where there is no file yet.
  The document's table, plainly: changes, their record, keys with values.
  The contracts of the library's maps.Keys and slices.Sorted at this dump, as the kit's own programs lay-plain and lay-iter print them.
  The sorted keys of a map of bytes by texts: the library's maps.Keys and slices.Sorted, by the shelf's contracts.
  The walks of the table's small calls: up, do, Get, Len.
  The walk of the table's Keys.
  The document's pairs, plainly: in order by key; what Find, Do and Keys come to, against the table's map.
  []byte(s) of a text, and what it leaves.
  The walk of the table's Encode.
  The walk of the table's Apply.
  How slices read as the document's pairs and changes.
  The walks of the document's small words: Twin, Same, Begins, Find.
  The walks of the document's Do, and of the law's to.
  The walks of disk.Read and of the journal's Scan; the plain records of a journal's bytes.
-/
import Derived.Test.YthfbfdkjgkkpcaaPkA
import Derived.Shelf.SlIter.Nil
import Derived.Shelf.SortM.Plain
import Derived.Shelf.SortM.SortNone
import Derived.Ground.GgzProg
import Derived.Ground.SlgmProg
import Derived.Test.YthfbfdkjgkkpcaaProg
import Derived.Sort.Walk0
import Derived.Laws.IdiomStrings
namespace Go.Proofs.Ythfbfdkjgkkpcaa
open Go Go.RowKit

theorem crash_shut {w w1 wc wf : World} {d nb sb : Nat} {S : List Nat} {lv lv0 : Value} {D : DSt} {keep part fu : Int} {dn : Bool} {m : List (List UInt8 × List UInt8)} (hm : D.last keep part = m) (hinv : DInv D) (hS : S = d :: nb :: sb :: lv.ownBlock.toList) (hU : Upd [sb] w w1) (hc : Upd [] w1 wc)
    (hd : wc.heap[d]? = some (.cells #[.int .i64 D.room, .map (some nb), .map (some sb), lv0, .int .i64 fu, .bool dn] 72 (0, 0))) (hn : MapB wc w1.heap.size m) (hs : MapB wc sb m) (hsl : sb < w1.heap.size)
    (hwf : wf = (((wc.setCell ⟨d, 1, none⟩ (.map (some w1.heap.size))).setCell ⟨d, 3, none⟩ (.slice none 0 0)).setCell ⟨d, 4, none⟩ (.int .i64 (-1))).setCell ⟨d, 5, none⟩ (.bool false)) :
    DPost w d S (D.crash keep part, 0) (.returned (.int .i64 (0 : Nat))) wf := by
  have s1 : Upd [d] wc (wc.setCell ⟨d, 1, none⟩ (.map (some w1.heap.size))) := Upd.setCell _ _ _ (by simp)
  have g1 := setCell_get (i := 1) hd (.map (some w1.heap.size))
  have s2 : Upd [d] (wc.setCell ⟨d, 1, none⟩ (.map (some w1.heap.size))) ((wc.setCell ⟨d, 1, none⟩ (.map (some w1.heap.size))).setCell ⟨d, 3, none⟩ (.slice none 0 0)) := Upd.setCell _ _ _ (by simp)
  have g2 := setCell_get (i := 3) g1 (.slice none 0 0)
  have s3 : Upd [d] ((wc.setCell ⟨d, 1, none⟩ (.map (some w1.heap.size))).setCell ⟨d, 3, none⟩ (.slice none 0 0)) (((wc.setCell ⟨d, 1, none⟩ (.map (some w1.heap.size))).setCell ⟨d, 3, none⟩ (.slice none 0 0)).setCell ⟨d, 4, none⟩ (.int .i64 (-1))) := Upd.setCell _ _ _ (by simp)
  have g3 := setCell_get (i := 4) g2 (.int .i64 (-1))
  have s4 : Upd [d] (((wc.setCell ⟨d, 1, none⟩ (.map (some w1.heap.size))).setCell ⟨d, 3, none⟩ (.slice none 0 0)).setCell ⟨d, 4, none⟩ (.int .i64 (-1))) wf := by rw [hwf]; exact Upd.setCell _ _ _ (by simp)
  have g4 := setCell_get (i := 5) g3 (.bool false)
  rw [← hwf] at g4
  have hUd : Upd [d] wc wf := ((s1.trans s2 (fun i hi _ => hi)).trans s3 (fun i hi _ => hi)).trans s4 (fun i hi _ => hi)
  have off : Off wc 5 [d] := Off.cons_cells hd (by decide) (Off.nil _ _)
  refine ⟨rfl, [d, w1.heap.size, sb], ⟨⟨w1.heap.size, sb, .slice none 0 0, [], rfl, ?_, ?_, ?_, by omega, World.ownsRow_nil _ _ _ _, trivial⟩, crash_inv hinv keep part, by show (-1 : Int) ≤ _; omega⟩, ?_, ?_⟩
  · rw [g4]; rfl
  · show MapB wf w1.heap.size (D.last keep part)
    rw [hm]
    exact hn.upd hUd off (by simp; exact hn.ne_cells hd)
  · show MapB wf sb (D.last keep part)
    rw [hm]
    exact hs.upd hUd off (by simp; exact hs.ne_cells hd)
  · have q : Upd S w w1 := hU.mono (fun j hj _ => by simp at hj; subst hj; rw [hS]; simp)
    exact (q.then0 hc).trans hUd (fun j hj _ => by simp at hj; subst hj; rw [hS]; simp)
  · intro j hj
    have := hU.size
    simp at hj
    rcases hj with rfl | rfl | rfl
    · left; rw [hS]; simp
    · right; omega
    · left; rw [hS]; simp
def CrRel (w1 : World) (sb : Nat) (D : DSt) (k : Nat) (x : Value) (wr : World) : Prop := ∃ i : Nat, x = .int .i64 i ∧ i ≤ k ∧ Upd [sb] w1 wr ∧ MapB wr sb (D.mid i)
set_option maxRecDepth 100000 in
set_option maxHeartbeats 4000000 in
theorem disk_crash (w : World) (d : Nat) (S : List Nat) (D : DSt) (h : DiskAt w d S D) (hl : D.loose.length ≤ 1000000000) (keep part : Int) :
    Calls Try.prog 25 #[.pointer (some ⟨d, 0, none⟩), .int .i64 keep, .int .i64 part] w (DPost w d S (D.crash keep part, 0)) := by
  obtain ⟨nb, sb, lv, cells, hS, hd, hnb, hsb, hne, hown, hcc⟩ := h.ex
  obtain ⟨ao, cap, hlv, hcap⟩ := (Rd.of_own hown).shape
  subst hlv
  have c2 : w.cell? ⟨d, 2, none⟩ = some (.map (some sb)) := by rw [cell_lit w d 2 _ _ _ hd]; rfl
  have c3 : w.cell? ⟨d, 3, none⟩ = some (.slice ao D.loose.length cap) := by rw [cell_lit w d 3 _ _ _ hd]; rfl
  have hbd : ∀ (i : Nat) (c : Chg), D.loose[i]? = some c → used (D.mid i) + c.p.length ≤ 1073741824 := by
    intro i c hc
    have e1 : used (D.mid i) ≤ D.room := h.inv.fits i
    have e2 := h.inv.room
    have e3 := (h.inv.kinds c (List.mem_of_getElem? hc)).2
    omega
  have hkd : ∀ (i : Nat) (c : Chg), D.loose[i]? = some c → c.kind ≤ 3 := fun i c hc => (h.inv.kinds c (List.mem_of_getElem? hc)).1
  have HB := Lib.hid hbd; have HK := Lib.hid hkd; have H := Lib.hid h; have HC := Lib.hid hcc; have HO := Lib.hid hown; have Hd := Lib.hid hd; have HS := Lib.hid hS; have HL := Lib.hid hl
  have hdsb : d ∉ [sb] := by simp; exact (hsb.ne_cells hd).symm
  have hll : D.loose.length ≤ 1000000000 := hl
  obtain ⟨mm, hmm⟩ : ∃ mm : Int, mm = min keep (D.loose.length : Int) := ⟨_, rfl⟩
  obtain ⟨k, hk, hkl⟩ : ∃ k : Nat, (k : Int) = max 0 mm ∧ k ≤ D.loose.length := ⟨(max 0 mm).toNat, by omega, by omega⟩
  have HKK := Lib.hid (show (max 0 (min keep (D.loose.length : Int))).toNat = k from by omega)
  have hR1 : Rd w 95 4 (.slice ao k cap) k (cells.take (k * 4)) := by
    have h0 := run_cut elChange (Rd.of_own hown) 0 k cap (by omega) hkl (by omega) (by omega)
    have e : (if cap = 0 then ao else ao.map (·.add (0 * 4))) = ao := by
      split
      · rfl
      · cases ao <;> simp [Addr.add]
    rw [e] at h0
    simpa using h0
  have HMM := Lib.hid hmm; have HKX := Lib.hid hk
  clear hbd hkd hcc hown hd hS h hl hmm hk
  go_enter Try.func25, Try.ntmps25
  go_wp2_with (first
    | ((with_reducible show wpList _ _ _ (⟨_, .call ⟨.builtin .min, _, _⟩, _, _, _, _⟩ :: _) _ _); refine wpl_min rfl rfl rfl rfl mm HMM.out ?_)
    | ((with_reducible show wpList _ _ _ (⟨_, .call ⟨.builtin .max, _, _⟩, _, _, _, _⟩ :: _) _ _); refine wpl_max rfl rfl rfl rfl (k : Int) HKX.out ?_))
  go_loopw [27] (fun x wr => CrRel w sb D k x wr) (fun x _ => k - (intOf x).toNat)
  case atStart => exact ⟨0, rfl, Nat.zero_le _, Upd.refl _ _, hsb⟩
  case round =>
    obtain ⟨i, rfl, hi, hU, hM⟩ := hrel
    by_cases hlt : i < k
    · have ht : decide ((i : Int) < (k : Int)) = true := by simp; omega
      obtain ⟨c, hc⟩ : ∃ c, D.loose[i]? = some c := ⟨_, List.getElem?_eq_getElem (by omega)⟩
      obtain ⟨pv, g0, g1, g2, g3, hpv⟩ := HC.out.get hc
      have g0 : (cells.take (k * 4))[i * 4 + 0]? = some (.int .i64 c.kind) := by rw [List.getElem?_take, if_pos (by omega)]; exact g0
      have g1 : (cells.take (k * 4))[i * 4 + 1]? = some (encS c.a) := by rw [List.getElem?_take, if_pos (by omega)]; exact g1
      have g2 : (cells.take (k * 4))[i * 4 + 2]? = some (encS c.b) := by rw [List.getElem?_take, if_pos (by omega)]; exact g2
      have g3 : (cells.take (k * 4))[i * 4 + 3]? = some pv := by rw [List.getElem?_take, if_pos (by omega)]; exact g3
      have off8 : Off w 5 [sb] := hsb.off (Off.nil _ _)
      have offc : Off w 95 [sb] := hsb.off (Off.nil _ _)
      have hpr : By wr pv c.p := hpv.upd hU off8
      obtain ⟨ap, cp, hsp⟩ := By.val hpr
      subst hsp
      have hR := hR1.upd hU offc
      go_wp2_with ((with_reducible show wpList _ _ _ (⟨_, .indexAddr _ _ _, _, _, _, _⟩ :: _) _ _); refine wpl_indexAddr elChange rfl rfl hR rfl rfl (by omega) (by omega) ?_; intro ad hcell hspot; (have k0 := hcell 0 (by omega)); (have k1 := hcell 1 (by omega)); (have k2 := hcell 2 (by omega)); (have k3 := hcell 3 (by omega)); rw [Int.toNat_natCast, g0] at k0; rw [Int.toNat_natCast, g1] at k1; rw [Int.toNat_natCast, g2] at k2; rw [Int.toNat_natCast, g3] at k3; clear hcell; obtain ⟨gb, gof, gs⟩ := ad; cases hspot; simp only [Addr.add_lit, Nat.add_zero] at k0 k1 k2 k3)
      have hUa : Upd [] wr (wr.alloc (Obj.cells #[Value.int IntKind.i64 c.kind, encS c.a, encS c.b, Value.slice ap c.p.length cp] 95)) := Upd.alloc [] _ _
      have hba := heap_alloc_new wr (Obj.cells #[Value.int IntKind.i64 c.kind, encS c.a, encS c.b, Value.slice ap c.p.length cp] 95)
      have b0 : (wr.alloc (Obj.cells #[Value.int IntKind.i64 c.kind, encS c.a, encS c.b, Value.slice ap c.p.length cp] 95)).cell? ⟨wr.heap.size, 0, none⟩ = some (.int .i64 c.kind) := by rw [cell_lit _ _ 0 _ _ _ hba]; rfl
      have b1 : (wr.alloc (Obj.cells #[Value.int IntKind.i64 c.kind, encS c.a, encS c.b, Value.slice ap c.p.length cp] 95)).cell? ⟨wr.heap.size, 1, none⟩ = some (encS c.a) := by rw [cell_lit _ _ 1 _ _ _ hba]; rfl
      have b2 : (wr.alloc (Obj.cells #[Value.int IntKind.i64 c.kind, encS c.a, encS c.b, Value.slice ap c.p.length cp] 95)).cell? ⟨wr.heap.size, 2, none⟩ = some (encS c.b) := by rw [cell_lit _ _ 2 _ _ _ hba]; rfl
      have b3 : (wr.alloc (Obj.cells #[Value.int IntKind.i64 c.kind, encS c.a, encS c.b, Value.slice ap c.p.length cp] 95)).cell? ⟨wr.heap.size, 3, none⟩ = some (Value.slice ap c.p.length cp) := by rw [cell_lit _ _ 3 _ _ _ hba]; rfl
      have d2 := hUa.cell (hU.cell c2 hdsb) (by simp)
      have hwn : wr.heap.size ∉ [sb] := by have := hM.lt; simp; omega
      have hUd : Upd [] wr (wr.alloc (Obj.cells #[Value.int IntKind.i64 c.kind, encS c.a, encS c.b, Value.slice ap c.p.length cp] 95)).drew := hUa.trans0 (Upd.drew [] _)
      have hdo := files_do (wr.alloc (Obj.cells #[Value.int IntKind.i64 c.kind, encS c.a, encS c.b, Value.slice ap c.p.length cp] 95)).drew sb (D.mid i) (hM.upd hUd (Off.nil _ _) (by simp)) c (HK.out i c hc) _ (hpr.upd0 hUd) (HB.out i c hc)
      have HDO := Lib.hid hdo
      have HMS := Lib.hid (D.mid_succ i c hc)
      clear hdo k0 k1 k2 k3 g0 g1 g2 g3 hpv hba hc
      go_region_held3 (fun W => W.cell? ⟨wr.heap.size, 0, none⟩ = some (.int .i64 c.kind) ∧ W.cell? ⟨wr.heap.size, 1, none⟩ = some (encS c.a) ∧ W.cell? ⟨wr.heap.size, 2, none⟩ = some (encS c.b) ∧ W.cell? ⟨wr.heap.size, 3, none⟩ = some (Value.slice ap c.p.length cp) ∧ W.cell? ⟨d, 2, none⟩ = some (.map (some sb)))
        (first | go_keep | exact ⟨hU2.cell b0 hwn, hU2.cell b1 hwn, hU2.cell b2 hwn, hU2.cell b3 hwn, hU2.cell d2 hdsb⟩)
        ((go_at_call 46; refine HDO.out.mono ?_; rintro e w2 ⟨rfl, hM2, hU2⟩))
      have hll := HL.out
      go_wp2_with fail
      go_roundw
      case rel =>
        refine ⟨i + 1, by go_num, hlt, hU.trans ((hUd.mono (T := [sb]) (by simp)).trans hU2 (fun j hj _ => hj)) (fun j hj _ => hj), ?_⟩
        rw [HMS.out]; exact hM2
      case measure => simp [intOf]; omega
    · have ht : decide ((i : Int) < (k : Int)) = false := by simp; omega
      have hie : i = k := by omega
      obtain ⟨w1, rfl⟩ : ∃ w1, w1 = wr := ⟨wr, rfl⟩
      have c3' : w1.cell? ⟨d, 3, none⟩ = some (.slice ao D.loose.length cap) := hU.cell c3 hdsb
      have c2' : w1.cell? ⟨d, 2, none⟩ = some (.map (some sb)) := hU.cell c2 hdsb
      have hd1 := hU.get Hd.out hdsb
      rw [hie] at hM
      clear hi ht
      cases hck : D.loose[k]? with
      | none =>
        have hkn : ¬ k < D.loose.length := by rw [List.getElem?_eq_none_iff] at hck; omega
        have htk : decide ((k : Int) < (D.loose.length : Int)) = false := by simp; omega
        have HLAST := Lib.hid (show D.last keep part = D.mid k from by unfold DSt.last; rw [HKK.out, hck])
        clear hck
        obtain ⟨arr, clock, hbarr, hnewB⟩ := MapB.clone hM
        have hcln := maps_clone w1 sb arr clock hbarr
        have hUc : Upd [] w1 (w1.alloc (.map arr clock)) := Upd.alloc [] _ _
        have hdc := hUc.get hd1 (by simp)
        have hMc := MapB.upd hM hUc (Off.nil _ _) (by simp)
        have hslt := MapB.lt hM
        obtain ⟨wc, hwc⟩ : ∃ wc, wc = w1.alloc (.map arr clock) := ⟨_, rfl⟩
        rw [← hwc] at hdc hUc hnewB hMc
        have HWC := Lib.hid hwc
        have f1 := frozen_lit wc d 1 _ _ hdc
        have f3 := frozen_lit wc d 3 _ _ hdc
        have f4 := frozen_lit wc d 4 _ _ hdc
        have f5 := frozen_lit wc d 5 _ _ hdc
        have e1 : wc.cell? ⟨d, 1, none⟩ = some (.map (some nb)) := by rw [cell_lit wc d 1 _ _ _ hdc]; rfl
        have e3 : wc.cell? ⟨d, 3, none⟩ = some (.slice ao D.loose.length cap) := by rw [cell_lit wc d 3 _ _ _ hdc]; rfl
        have e4 : wc.cell? ⟨d, 4, none⟩ = some (.int .i64 D.fuse) := by rw [cell_lit wc d 4 _ _ _ hdc]; rfl
        have e5 : wc.cell? ⟨d, 5, none⟩ = some (.bool D.down) := by rw [cell_lit wc d 5 _ _ _ hdc]; rfl
        have HSHUT := Lib.hid (fun (wf : World) hwf => crash_shut (keep := keep) (part := part) (wf := wf) HLAST.out H.out.inv HS.out hU hUc hdc hnewB hMc hslt hwf)
        clear hdc hnewB hMc hUc hwc hbarr
        go_wp2_with (go_at_call 47; refine hcln.mono ?_; rintro e wq ⟨he, hwq⟩; subst he; (have hq9 : wq = wc := by rw [hwq, HWC.out]); clear hwq; subst hq9)
        go_ret
        exact HSHUT.out _ rfl
      | some c =>
        have hkn : k < D.loose.length := (List.getElem?_eq_some_iff.1 hck).1
        have htk : decide ((k : Int) < (D.loose.length : Int)) = true := by simp; omega
        obtain ⟨pv, g0, g1, g2, g3, hpv⟩ := HC.out.get hck
        have off8 : Off w 5 [sb] := hsb.off (Off.nil _ _)
        have offc : Off w 95 [sb] := hsb.off (Off.nil _ _)
        have hpr : By w1 pv c.p := hpv.upd hU off8
        obtain ⟨ap, cp, hsp⟩ := By.val hpr
        subst hsp
        have hR := (Rd.of_own HO.out).upd hU offc
        by_cases hk1 : c.kind = 1
        · have t1 : ((c.kind : Int) == 1) = true := by simp; omega
          obtain ⟨m2, hm2⟩ : ∃ m2 : Int, m2 = min part (c.p.length : Int) := ⟨_, rfl⟩
          obtain ⟨kp, hk2, hk2l⟩ : ∃ kp : Nat, (kp : Int) = max 0 m2 ∧ kp ≤ c.p.length := ⟨(max 0 m2).toNat, by omega, by omega⟩
          have HK2 := Lib.hid (show (max 0 (min part (c.p.length : Int))).toNat = kp from by omega)
          have HM2 := Lib.hid hm2; have HX2 := Lib.hid hk2
          have hcp : c.p.length ≤ cp := by obtain ⟨_, _, hq, hle⟩ := hpr.shape; cases hq; exact hle
          have hbp : By w1 (.slice ap kp cp) (c.p.take kp) := by
            have h0 := run_cut elU8 hpr 0 kp cp (by omega) hk2l (by omega) (by omega)
            have e : (if cp = 0 then ap else ap.map (·.add (0 * 1))) = ap := by
              split
              · rfl
              · cases ap <;> simp [Addr.add]
            rw [e] at h0
            have := by_cut (lo := 0) (k := kp) (by simpa using h0) (by omega)
            simpa using this
          have HLAST := Lib.hid (show D.last keep part = fdo (D.mid k) ⟨c.kind, c.a, c.b, c.p.take kp⟩ from by unfold DSt.last; rw [HKK.out, hck]; dsimp only; rw [if_pos hk1, HK2.out])
          have hused := HB.out k c hck
          have hkd3 := HK.out k c hck
          have hpl : c.p.length ≤ 1073741824 := by omega
          obtain ⟨wb, hwb⟩ : ∃ wb, wb = w1.alloc (Obj.cells #[Value.int IntKind.i64 c.kind, encS c.a, encS c.b, Value.slice ap kp cp] 95) := ⟨_, rfl⟩
          have hbb : wb.heap[w1.heap.size]? = some (Obj.cells #[Value.int IntKind.i64 c.kind, encS c.a, encS c.b, Value.slice ap kp cp] 95) := by rw [hwb]; exact heap_alloc_new w1 _
          have hU1b : Upd [] w1 wb := by rw [hwb]; exact Upd.alloc [] _ _
          have b0 : wb.cell? ⟨w1.heap.size, 0, none⟩ = some (.int .i64 c.kind) := by rw [cell_lit _ _ 0 _ _ _ hbb]; rfl
          have b1 : wb.cell? ⟨w1.heap.size, 1, none⟩ = some (encS c.a) := by rw [cell_lit _ _ 1 _ _ _ hbb]; rfl
          have b2 : wb.cell? ⟨w1.heap.size, 2, none⟩ = some (encS c.b) := by rw [cell_lit _ _ 2 _ _ _ hbb]; rfl
          have b3 : wb.cell? ⟨w1.heap.size, 3, none⟩ = some (Value.slice ap kp cp) := by rw [cell_lit _ _ 3 _ _ _ hbb]; rfl
          have d2 := hU1b.cell c2' (by simp)
          have hwn : w1.heap.size ∉ [sb] := by have := hM.lt; simp; omega
          have hUd : Upd [] w1 wb.drew := hU1b.trans0 (Upd.drew [] _)
          have hdo := files_do wb.drew sb (D.mid k) (hM.upd hUd (Off.nil _ _) (by simp)) ⟨c.kind, c.a, c.b, c.p.take kp⟩ hkd3 (.slice ap kp cp) (hbp.upd0 hUd) (by simp; omega)
          have HDO := Lib.hid hdo
          have HWB := Lib.hid hwb
          have hk2c : kp ≤ cp := by omega
          clear hdo hpv hck hk1 hbp hm2 hk2 hwb
          go_wp2_with (first
            | ((with_reducible show wpList _ _ _ (⟨_, .indexAddr _ _ _, _, _, _, _⟩ :: _) _ _); refine wpl_indexAddr elChange rfl rfl hR rfl rfl (by omega) (by omega) ?_; intro ad hcell hspot; (have k0 := hcell 0 (by omega)); (have k1 := hcell 1 (by omega)); (have k2 := hcell 2 (by omega)); (have k3 := hcell 3 (by omega)); rw [Int.toNat_natCast, g0] at k0; rw [Int.toNat_natCast, g1] at k1; rw [Int.toNat_natCast, g2] at k2; rw [Int.toNat_natCast, g3] at k3; clear hcell; obtain ⟨gb, gof, gs⟩ := ad; cases hspot; simp only [Addr.add_lit, Nat.add_zero] at k0 k1 k2 k3)
            | ((with_reducible show wpList _ _ _ (⟨_, .call ⟨.builtin .min, _, _⟩, _, _, _, _⟩ :: _) _ _); refine wpl_min rfl rfl rfl rfl m2 HM2.out ?_)
            | ((with_reducible show wpList _ _ _ (⟨_, .call ⟨.builtin .max, _, _⟩, _, _, _, _⟩ :: _) _ _); refine wpl_max rfl rfl rfl rfl (kp : Int) HX2.out ?_))
          rw [← HWB.out]
          go_region_held3 (fun W => W.cell? ⟨w1.heap.size, 0, none⟩ = some (.int .i64 c.kind) ∧ W.cell? ⟨w1.heap.size, 1, none⟩ = some (encS c.a) ∧ W.cell? ⟨w1.heap.size, 2, none⟩ = some (encS c.b) ∧ W.cell? ⟨w1.heap.size, 3, none⟩ = some (Value.slice ap kp cp) ∧ W.cell? ⟨d, 2, none⟩ = some (.map (some sb)))
            (first | go_keep | exact ⟨b0, b1, b2, b3, d2⟩ | exact ⟨hU2.cell b0 hwn, hU2.cell b1 hwn, hU2.cell b2 hwn, hU2.cell b3 hwn, hU2.cell d2 hdsb⟩)
            ((go_at_call 46; refine HDO.out.mono ?_; rintro e w2 ⟨rfl, hM2, hU2⟩))
          have hU12 : Upd [sb] w1 w2 := (hUd.mono (T := [sb]) (by simp)).trans hU2 (fun j hj _ => hj)
          have hU02 : Upd [sb] w w2 := hU.trans hU12 (fun j hj _ => hj)
          have hd2 := hU12.get hd1 hdsb
          have c22 := hU12.cell c2' hdsb
          clear k0 k1 k2 k3 b0 b1 b2 b3 hbb hR g0 g1 g2 g3
          obtain ⟨arr, clock, hbarr, hnewB⟩ := MapB.clone hM2
          have hcln := maps_clone w2 sb arr clock hbarr
          have hUc : Upd [] w2 (w2.alloc (.map arr clock)) := Upd.alloc [] _ _
          have hdc := hUc.get hd2 (by simp)
          have hMc := MapB.upd hM2 hUc (Off.nil _ _) (by simp)
          have hslt := MapB.lt hM2
          obtain ⟨wc, hwc⟩ : ∃ wc, wc = w2.alloc (.map arr clock) := ⟨_, rfl⟩
          rw [← hwc] at hdc hUc hnewB hMc
          have HWC := Lib.hid hwc
          have f1 := frozen_lit wc d 1 _ _ hdc
          have f3 := frozen_lit wc d 3 _ _ hdc
          have f4 := frozen_lit wc d 4 _ _ hdc
          have f5 := frozen_lit wc d 5 _ _ hdc
          have e1 : wc.cell? ⟨d, 1, none⟩ = some (.map (some nb)) := by rw [cell_lit wc d 1 _ _ _ hdc]; rfl
          have e3 : wc.cell? ⟨d, 3, none⟩ = some (.slice ao D.loose.length cap) := by rw [cell_lit wc d 3 _ _ _ hdc]; rfl
          have e4 : wc.cell? ⟨d, 4, none⟩ = some (.int .i64 D.fuse) := by rw [cell_lit wc d 4 _ _ _ hdc]; rfl
          have e5 : wc.cell? ⟨d, 5, none⟩ = some (.bool D.down) := by rw [cell_lit wc d 5 _ _ _ hdc]; rfl
          have HSHUT := Lib.hid (fun (wf : World) hwf => crash_shut (keep := keep) (part := part) (wf := wf) HLAST.out H.out.inv HS.out hU02 hUc hdc hnewB hMc hslt hwf)
          clear hdc hnewB hMc hUc hwc hbarr
          go_wp2_with (go_at_call 47; refine hcln.mono ?_; rintro e wq ⟨he, hwq⟩; subst he; (have hq9 : wq = wc := by rw [hwq, HWC.out]); clear hwq; subst hq9)
          go_ret
          exact HSHUT.out _ rfl
        · have t1 : ((c.kind : Int) == 1) = false := by rw [beq_eq_false_iff_ne]; omega
          have HLAST := Lib.hid (show D.last keep part = D.mid k from by unfold DSt.last; rw [HKK.out, hck]; dsimp only; rw [if_neg hk1])
          clear hck hk1
          obtain ⟨arr, clock, hbarr, hnewB⟩ := MapB.clone hM
          have hcln := maps_clone w1 sb arr clock hbarr
          have hUc : Upd [] w1 (w1.alloc (.map arr clock)) := Upd.alloc [] _ _
          have hdc := hUc.get hd1 (by simp)
          have hMc := MapB.upd hM hUc (Off.nil _ _) (by simp)
          have hslt := MapB.lt hM
          obtain ⟨wc, hwc⟩ : ∃ wc, wc = w1.alloc (.map arr clock) := ⟨_, rfl⟩
          rw [← hwc] at hdc hUc hnewB hMc
          have HWC := Lib.hid hwc
          have f1 := frozen_lit wc d 1 _ _ hdc
          have f3 := frozen_lit wc d 3 _ _ hdc
          have f4 := frozen_lit wc d 4 _ _ hdc
          have f5 := frozen_lit wc d 5 _ _ hdc
          have e1 : wc.cell? ⟨d, 1, none⟩ = some (.map (some nb)) := by rw [cell_lit wc d 1 _ _ _ hdc]; rfl
          have e3 : wc.cell? ⟨d, 3, none⟩ = some (.slice ao D.loose.length cap) := by rw [cell_lit wc d 3 _ _ _ hdc]; rfl
          have e4 : wc.cell? ⟨d, 4, none⟩ = some (.int .i64 D.fuse) := by rw [cell_lit wc d 4 _ _ _ hdc]; rfl
          have e5 : wc.cell? ⟨d, 5, none⟩ = some (.bool D.down) := by rw [cell_lit wc d 5 _ _ _ hdc]; rfl
          have HSHUT := Lib.hid (fun (wf : World) hwf => crash_shut (keep := keep) (part := part) (wf := wf) HLAST.out H.out.inv HS.out hU hUc hdc hnewB hMc hslt hwf)
          clear hdc hnewB hMc hUc hwc hbarr
          go_wp2_with (first
            | ((with_reducible show wpList _ _ _ (⟨_, .indexAddr _ _ _, _, _, _, _⟩ :: _) _ _); refine wpl_indexAddr elChange rfl rfl hR rfl rfl (by omega) (by omega) ?_; intro ad hcell hspot; (have k0 := hcell 0 (by omega)); (have k1 := hcell 1 (by omega)); (have k2 := hcell 2 (by omega)); (have k3 := hcell 3 (by omega)); rw [Int.toNat_natCast, g0] at k0; rw [Int.toNat_natCast, g1] at k1; rw [Int.toNat_natCast, g2] at k2; rw [Int.toNat_natCast, g3] at k3; clear hcell; obtain ⟨gb, gof, gs⟩ := ad; cases hspot; simp only [Addr.add_lit, Nat.add_zero] at k0 k1 k2 k3)
            | (go_at_call 47; refine hcln.mono ?_; rintro e wq ⟨he, hwq⟩; subst he; (have hq9 : wq = wc := by rw [hwq, HWC.out]); clear hwq; subst hq9))
          go_ret
          exact HSHUT.out _ rfl
end Go.Proofs.Ythfbfdkjgkkpcaa

namespace Go.Proofs.Ythfbfdkjgkkpcaa
open Go Go.RowKit

section
variable {P : Program} {ops : Array Oper} {Q : Exit → Act → World → Prop} {md : Region.Mode} {S : World → Prop}
abbrev opg (dst : Option Tmp) (op : Op) (ty : TypeId) (pos : String) (after : Array Edge) (g : Nat × Bool) : Oper := ⟨dst, op, ty, pos, after, some g⟩
theorem opg_of {i : Nat} {dst : Option Tmp} {op : Op} {g : Nat × Bool} (hi : (ops[i]?).map (fun o => (o.dst, o.op, o.guard)) = some (dst, op, some g)) : ∃ ty pos after, ops[i]? = some (opg dst op ty pos after g) := by
  obtain ⟨o, ho, he⟩ := Option.map_eq_some_iff.1 hi
  simp only [Prod.mk.injEq] at he
  obtain ⟨rfl, rfl, h3⟩ := he
  cases o
  simp only at h3
  subst h3
  exact ⟨_, _, _, ho⟩
theorem wpAnyH_takeO {i : Nat} {dst : Option Tmp} {op : Op} {v : Value} {fuel : Nat} {listed : Array Bool} {a : Act} {w : World} (hi : (ops[i]?).map (fun o => (o.dst, o.op, o.guard)) = some (dst, op, none))
    (hs : Region.noSelect ops = true) (hf : Region.free md ops listed i = true) (hr : (Region.ready md ops listed).contains i = true)
    (hQ : ∀ c a w, Q (.panic c) (a.put dst v) w → Q (.panic c) a w) (hy : ∀ ty pos after W, S W → (execOp a.eval (opr dst op ty pos after)).run P W = .ok (.value v) W) (hS : S w)
    (h : wpAnyH P md ops Q S fuel (listed.setIfInBounds i true) (a.put dst v) w) : wpAnyH P md ops Q S (fuel + 1) listed a w := by
  obtain ⟨ty, pos, after, ho⟩ := opr_of hi
  exact wpAnyH_take ho hs hf hr hQ (.inl ⟨rfl, fun W hW => hy ty pos after W hW⟩) hS h
theorem wpAnyH_takeG {i j : Nat} {b : Bool} {dst : Option Tmp} {op : Op} {v : Value} {fuel : Nat} {listed : Array Bool} {a : Act} {w : World} (hi : (ops[i]?).map (fun o => (o.dst, o.op, o.guard)) = some (dst, op, some (j, b)))
    (hs : Region.noSelect ops = true) (hf : Region.free md ops listed i = true) (hr : (Region.ready md ops listed).contains i = true) (hg : yielded ops a.tmps j = some b)
    (hQ : ∀ c a w, Q (.panic c) (a.put dst v) w → Q (.panic c) a w) (hy : ∀ ty pos after W, S W → (execOp a.eval (opg dst op ty pos after (j, b))).run P W = .ok (.value v) W) (hS : S w)
    (h : wpAnyH P md ops Q S fuel (listed.setIfInBounds i true) (a.put dst v) w) : wpAnyH P md ops Q S (fuel + 1) listed a w := by
  obtain ⟨ty, pos, after, ho⟩ := opg_of hi
  exact wpAnyH_take ho hs hf hr hQ (.inl ⟨by simp [Region.wanted, hg], fun W hW => hy ty pos after W hW⟩) hS h
theorem wpAnyH_takeU {i j : Nat} {b b' : Bool} {dst : Option Tmp} {op : Op} {fuel : Nat} {listed : Array Bool} {a : Act} {w : World} (hi : (ops[i]?).map (fun o => (o.dst, o.op, o.guard)) = some (dst, op, some (j, b)))
    (hs : Region.noSelect ops = true) (hf : Region.free md ops listed i = true) (hr : (Region.ready md ops listed).contains i = true) (hg : yielded ops a.tmps j = some b') (hb : (b' == b) = false)
    (hQ : ∀ c a w, Q (.panic c) (a.put dst undef) w → Q (.panic c) a w) (hS : S w)
    (h : wpAnyH P md ops Q S fuel (listed.setIfInBounds i true) (a.put dst undef) w) : wpAnyH P md ops Q S (fuel + 1) listed a w := by
  obtain ⟨ty, pos, after, ho⟩ := opg_of hi
  refine wpAnyH_take ho hs hf hr hQ (.inr ⟨?_, rfl⟩) hS h
  cases b <;> cases b' <;> simp_all [Region.wanted]
/-- The one operation that may come up now is a call, by its contract. -/
theorem wpAnyH_call {i : Nat} {dst : Option Tmp} {op : Op} {f : Nat} {vs : Array Value} {fuel : Nat} {listed : Array Bool} {a : Act} {w : World} (hr : Region.ready md ops listed = [i]) (hi : (ops[i]?).map (fun o => (o.dst, o.op, o.guard)) = some (dst, op, none))
    (hrun : ∀ ty pos after, (execOp a.eval (opr dst op ty pos after)).run P w = .ok (.enter f vs) w)
    (hc : Calls P f vs w fun e w' => ∃ v, e = .returned v ∧ S w' ∧ wpAnyH P md ops Q S fuel (listed.setIfInBounds i true) (a.put dst v) w') : wpAnyH P md ops Q S (fuel + 1) listed a w := by
  obtain ⟨ty, pos, after, ho⟩ := opr_of hi
  refine wpAnyH_all hr (by simp) (fun j hj => ?_)
  obtain rfl : j = i := by simpa using hj
  refine wpOp_step ho fun K hK => ?_
  rw [if_pos (show Region.wanted (opr dst op ty pos after) _ = true from rfl)]
  unfold Oper.wp
  rw [hrun ty pos after]
  refine hc.mono ?_
  rintro e w' ⟨v, rfl, h1, h2⟩
  exact hK _ _ ⟨h1, h2⟩
theorem wpAnyH_callG {i j : Nat} {b : Bool} {dst : Option Tmp} {op : Op} {f : Nat} {vs : Array Value} {fuel : Nat} {listed : Array Bool} {a : Act} {w : World} (hr : Region.ready md ops listed = [i]) (hi : (ops[i]?).map (fun o => (o.dst, o.op, o.guard)) = some (dst, op, some (j, b)))
    (hg : yielded ops a.tmps j = some b) (hrun : ∀ ty pos after, (execOp a.eval (opg dst op ty pos after (j, b))).run P w = .ok (.enter f vs) w)
    (hc : Calls P f vs w fun e w' => ∃ v, e = .returned v ∧ S w' ∧ wpAnyH P md ops Q S fuel (listed.setIfInBounds i true) (a.put dst v) w') : wpAnyH P md ops Q S (fuel + 1) listed a w := by
  obtain ⟨ty, pos, after, ho⟩ := opg_of hi
  refine wpAnyH_all hr (by simp) (fun j' hj => ?_)
  obtain rfl : j' = i := by simpa using hj
  refine wpOp_step ho fun K hK => ?_
  rw [if_pos (show Region.wanted (opg dst op ty pos after (j, b)) _ = true from by simp [Region.wanted, hg])]
  unfold Oper.wp
  rw [hrun ty pos after]
  refine hc.mono ?_
  rintro e w' ⟨v, rfl, h1, h2⟩
  exact hK _ _ ⟨h1, h2⟩
theorem wp_region_H {id : Nat} {a : Act} {w : World} (S : World → Prop) (hm : P.follows .mixedOrders = true)
    (h : wpAnyH P .any ops Q S ops.size (Array.replicate ops.size false) a w.drew) : (Code.region id ops true).wp P Q a w := wp_region_held hm h
end
end Go.Proofs.Ythfbfdkjgkkpcaa

namespace Go.Proofs.Ythfbfdkjgkkpcaa
open Go Go.RowKit

section
variable {P : Program} {ops : Array Oper} {Q : Exit → Act → World → Prop} {rest : List Oper} {o : Oper} {a : Act} {w : World}
/-- append, its run known ahead. -/
theorem wpl_append_run {T t0 : Nat} {v y v' : Value} {w' : World} (hr : (Builtin.append_ #[T, T] t0 #[v, y]).run P w = .ok v' w') (hw : Region.wanted o (yielded ops a.tmps) = true) {s x : Operand}
    (ho : o.op = .call { callee := .builtin .append, args := #[s, x], argTypes := #[T, T] }) (hs : a.eval s = v) (hx : a.eval x = y) (hK : wpList P ops Q rest (a.put o.dst v') w') : wpList P ops Q (o :: rest) a w :=
  wpl_run hw (run_append_op ho hs hx (by rw [append_ty _ _ t0]; exact hr)) hK
end
/-- A record as it stands in a file. -/
def frameB (p : List UInt8) : List UInt8 := putB p.length 4 ++ putB (crcB (putB p.length 4 ++ p)) 4 ++ p
theorem frameB_length (p : List UInt8) : (frameB p).length = p.length + 8 := by simp [frameB, putB_length]; omega
theorem crcB_wrap (p : List UInt8) : IntKind.u64.wrap (crcB p : Nat) = (crcB p : Nat) := by
  have : crcB p ≤ 4294967295 := by unfold crcB; omega
  simp [IntKind.wrap, show IntKind.u64.bits = 64 from rfl, show IntKind.u64.signed = false from rfl]
  omega
theorem crcB_u64 (p : List UInt8) : U64 (crcB p) := ⟨by unfold crcB; omega⟩

set_option maxHeartbeats 400000 in
theorem journal_frame (w : World) (pv : Value) (p : List UInt8) (hp : By w pv p) (hl : p.length ≤ 1073741000) :
    Calls Try.prog 61 #[pv] w (RetBy w (frameB p)) := by
  obtain ⟨ao, cap, rfl⟩ := hp.val
  have hU : U64 p.length := ⟨by omega⟩
  have HPL := Lib.hid (putB_length p.length 4)
  have hC := crcB_u64 (putB p.length 4 ++ p)
  have hcw := crcB_wrap (putB p.length 4 ++ p)
  have hbl : (putB p.length 4).length + p.length ≤ 1073741824 := by rw [HPL.out]; omega
  have hbl2 : (putB p.length 4 ++ putB (crcB (putB p.length 4 ++ p)) 4).length + p.length ≤ 1073741824 := by simp [putB_length]; omega
  have HB := Lib.hid hbl; have HB2 := Lib.hid hbl2; clear hbl hbl2
  have hm1 : 4 + p.length ≤ maxLen := by unfold maxLen; omega
  have hm2 : (4 + p.length) * 1 ≤ 140737488355328 := by omega
  have HM1 := Lib.hid hm1; have HM2 := Lib.hid hm2; clear hm1 hm2
  go_enter Try.func61, Try.ntmps61
  go_wp2_with fail
  refine (octet_Put p.length 4 hU (by omega) _).mono ?_
  rintro e w1 ⟨v1, rfl, hv1, hU1⟩
  have hv1' : w1.ownsRow w.heap.size 5 1 v1 4 ((putB p.length 4).map enc) := by have := hv1; unfold OwnBy at this; rwa [HPL.out] at this
  obtain ⟨ao1, cap1, rfl, hc1⟩ := (Rd.of_own hv1').shape
  have hcut : ∀ W, (Instr.sliceAt 41 (.slice ao1 4 cap1) none (some (.int .i64 4)) (some (.int .i64 4))).run Try.prog W = .ok (.slice ao1 4 4) W := by
    intro W
    have b1 := run_bound (P := Try.prog) (k := .i64) 4 cap1 .slice3Acap W (by omega) (by omega)
    have b2 := run_bound (P := Try.prog) (k := .i64) 4 4 .slice3B W (by omega) (by omega)
    have e : ao1.map (fun x : Addr => x.add 0) = ao1 := by cases ao1 <;> simp [Addr.add]
    simp [Instr.sliceAt, Instr.slice, run_underlying elU8.und, Instr.sliceBounds, b1, b2, sizeOf_run elU8 W, Result.andThen, e]
  have hl4 : Rd w1 5 1 (.slice ao1 4 4) 4 ((putB p.length 4).map enc) := by
    have := run_cut elU8 (Rd.of_own hv1') 0 4 4 (by omega) (by omega) (by omega) hc1
    simp only [Nat.zero_mul, Nat.mul_one, List.drop_zero, Nat.sub_zero] at this
    rw [List.take_of_length_le (by simp [putB_length])] at this
    have e : (if (4 : Nat) = 0 then ao1 else ao1.map (·.add 0)) = ao1 := by simp [Addr.add]
    have e2 : (if 4 = 0 then ao1 else ao1.map (·.add 0)) = ao1 := e
    rw [e2] at this
    exact this
  obtain ⟨v2, w2, hr2, hR2, hU2⟩ := run_append_full (P := Try.prog) (ty := 41) elU8 hl4 (hp.upd0 hU1) HM1.out HM2.out
  have hR2' : By w2 v2 (putB p.length 4 ++ p) := by
    unfold By
    rw [List.map_append, List.length_append, HPL.out]
    exact hR2
  have hown2 := Own.upd0 hv1' hU2
  have hU12 := hU1.trans0 hU2
  clear hl4 hR2 hc1 hv1 hv1'
  go_wp2_with ((with_reducible show wpList _ _ _ (⟨_, .call ⟨.builtin .append, _, _⟩, _, _, _, _⟩ :: _) _ _); refine wpl_append_run hr2 rfl rfl rfl rfl ?_)
  refine (octet_Crc v2 _ w2 hR2').mono ?_
  rintro e w2' ⟨rfl, rfl⟩
  go_wp2_with fail
  refine (octet_Put (crcB (putB p.length 4 ++ p)) 4 hC (by omega) _).mono ?_
  rintro e w3 ⟨v3, rfl, hv3, hU3⟩
  have hownA : OwnBy w3 w.heap.size (.slice ao1 4 cap1) (putB p.length 4) := by
    have := Own.upd0 hown2 hU3
    unfold OwnBy
    rwa [HPL.out]
  have hU13 := hU12.trans0 hU3
  go_wp2_with (first
    | ((with_reducible show wpList _ _ _ (⟨_, .call ⟨.builtin .append, _, _⟩, _, _, _, _⟩ :: _) _ _); refine wpl_append_by elU8 rfl rfl hU4 hv4 rfl (hp.upd0 hU4) rfl HB2.out ?_; intro v5 w5 hv5 _ hU5 hb5)
    | ((with_reducible show wpList _ _ _ (⟨_, .call ⟨.builtin .append, _, _⟩, _, _, _, _⟩ :: _) _ _); refine wpl_append_by elU8 rfl rfl hU13 hownA rfl hv3.by rfl (by simp [putB_length]) ?_; intro v4 w4 hv4 _ hU4 hb4))
  go_ret
  exact ⟨v5, rfl, hv5, hU5⟩

structure JSt where
  D : DSt
  name : List UInt8
  size : Nat
def JSt.append (J : JSt) (p : List UInt8) : JSt × Nat :=
  if 1048568 < p.length then (J, 8)
  else if (J.D.append J.name (frameB p)).2 = 0 then ({ J with D := (J.D.append J.name (frameB p)).1, size := J.size + (8 + p.length) }, 0)
  else ({ J with D := (J.D.append J.name (frameB p)).1 }, (J.D.append J.name (frameB p)).2)
def JSt.sync (J : JSt) : JSt × Nat := ({ J with D := J.D.sync.1 }, J.D.sync.2)

/-- Block j is a journal on the disk d; S: the blocks that it turns. -/
structure JAt (w : World) (d j : Nat) (S : List Nat) (J : JSt) : Prop where
  ex : ∃ S0, S = j :: S0 ∧ DiskAt w d S0 J.D ∧ w.heap[j]? = some (.cells #[.pointer (some ⟨d, 0, none⟩), encS J.name, .int .i64 J.size] 100 (0, 0))
theorem JAt.upd {S T : List Nat} {w w' : World} {d j : Nat} {J : JSt} (h : JAt w d j S J) (hU : Upd T w w') (h8 : Off w 5 T) (hn : ∀ k ∈ S, k ∉ T) : JAt w' d j S J := by
  obtain ⟨S0, rfl, hD, hj⟩ := h.ex
  exact ⟨S0, rfl, hD.upd hU h8 (fun k hk => hn k (List.mem_cons_of_mem _ hk)), hU.get hj (hn j (by simp))⟩
theorem JAt.upd0 {S : List Nat} {w w' : World} {d j : Nat} {J : JSt} (h : JAt w d j S J) (hU : Upd [] w w') : JAt w' d j S J := h.upd hU (Off.nil _ _) (fun _ _ hm => by cases hm)
theorem JAt.lt {S : List Nat} {w : World} {d j : Nat} {J : JSt} (h : JAt w d j S J) : ∀ k ∈ S, k < w.heap.size := by
  obtain ⟨S0, rfl, hD, hj⟩ := h.ex
  intro k hk
  rcases List.mem_cons.1 hk with rfl | hk
  · exact lt_of_get hj
  · exact hD.lt k hk
theorem JAt.off {w : World} {d j : Nat} {S : List Nat} {J : JSt} (h : JAt w d j S J) {e : TypeId} (h1 : 72 ≠ e) (h2 : 95 ≠ e) (h3 : 100 ≠ e) : Off w e S := by
  obtain ⟨S0, rfl, hD, hj⟩ := h.ex
  exact Off.cons_cells hj h3 (hD.off h1 h2)
theorem not_mem_off {w : World} {e : TypeId} {S : List Nat} {k : Nat} {c : Array Value} {f : Nat × Nat} (h : Off w e S) (hk : w.heap[k]? = some (.cells c e f)) : k ∉ S := fun hm => h k hm c f hk
def JPost (w : World) (d j : Nat) (S : List Nat) (r : JSt × Nat) (e : Ending) (w' : World) : Prop :=
  e = .returned (.int .i64 r.2) ∧ ∃ S', JAt w' d j S' r.1 ∧ Upd S w w' ∧ Sub w S S'

theorem journal_sync (w : World) (d j : Nat) (S : List Nat) (J : JSt) (h : JAt w d j S J) (hl : J.D.loose.length ≤ 1000000000) :
    Calls Try.prog 32 #[.pointer (some ⟨j, 0, none⟩)] w (JPost w d j S J.sync) := by
  obtain ⟨S0, hS, hD, hj⟩ := h.ex
  have c0 : w.cell? ⟨j, 0, none⟩ = some (.pointer (some ⟨d, 0, none⟩)) := by rw [cell_lit w j 0 _ _ _ hj]; rfl
  have hs := disk_sync w d S0 J.D hD hl
  have hn : j ∉ S0 := not_mem_off (hD.off (e := 100) (by decide) (by decide)) hj
  have HJ := Lib.hid hj
  clear hj hl h
  go_enter Try.func32, Try.ntmps32
  go_wp2_with (go_at_call 54; refine hs.mono ?_; rintro e w1 ⟨rfl, S', hD1, hU1, hS1⟩)
  go_ret
  refine ⟨rfl, j :: S', ⟨S', rfl, hD1, hU1.get HJ.out hn⟩, hU1.mono (fun i hi _ => by rw [hS]; exact List.mem_cons_of_mem _ hi), ?_⟩
  intro k hk
  rw [hS]
  rcases List.mem_cons.1 hk with rfl | hk
  · left; simp
  · rcases hS1 k hk with h1 | h1
    · left; exact List.mem_cons_of_mem _ h1
    · right; exact h1
theorem journal_sync_nil (w : World) : Calls Try.prog 32 #[.pointer none] w fun e w' => e = .returned (.int .i64 2) ∧ w = w' := by
  go_enter Try.func32, Try.ntmps32
  go_wp2
  go_ret
  exact ⟨rfl, rfl⟩
theorem journal_size (w : World) (d j : Nat) (S : List Nat) (J : JSt) (h : JAt w d j S J) :
    Calls Try.prog 42 #[.pointer (some ⟨j, 0, none⟩)] w fun e w' => e = .returned (.int .i64 J.size) ∧ w = w' := by
  obtain ⟨S0, hS, hD, hj⟩ := h.ex
  have c2 : w.cell? ⟨j, 2, none⟩ = some (.int .i64 J.size) := by rw [cell_lit w j 2 _ _ _ hj]; rfl
  clear hj h
  go_enter Try.func42, Try.ntmps42
  go_wp2
  go_ret
  exact ⟨rfl, rfl⟩

set_option maxHeartbeats 400000 in
theorem journal_append (w : World) (d j : Nat) (S : List Nat) (J : JSt) (h : JAt w d j S J) (pv : Value) (p : List UInt8) (hp : By w pv p) (hpl : p.length ≤ 1073741000) (hl : J.D.loose.length ≤ 1000000000) (hsz : J.size ≤ 4611686018427387904) :
    Calls Try.prog 31 #[.pointer (some ⟨j, 0, none⟩), pv] w (JPost w d j S (J.append p)) := by
  obtain ⟨S0, hS, hD, hj⟩ := h.ex
  have c0 : w.cell? ⟨j, 0, none⟩ = some (.pointer (some ⟨d, 0, none⟩)) := by rw [cell_lit w j 0 _ _ _ hj]; rfl
  have c1 : w.cell? ⟨j, 1, none⟩ = some (encS J.name) := by rw [cell_lit w j 1 _ _ _ hj]; rfl
  have hn : j ∉ S0 := not_mem_off (hD.off (e := 100) (by decide) (by decide)) hj
  have HJ := Lib.hid hj; have HSZ := Lib.hid hsz; have H := Lib.hid h; have HD := Lib.hid hD; have HL := Lib.hid hl; have HPL := Lib.hid hpl
  clear hj hl h hsz hD
  have hpv := hp.val
  obtain ⟨ao, cap, rfl⟩ := hpv
  by_cases h8 : 1048568 < p.length
  · have h1 : decide ((1048568 : Int) < (p.length : Int)) = true := by simp; omega
    have HF := Lib.hid (show J.append p = (J, 8) from by simp only [JSt.append, if_pos h8])
    clear h8
    go_enter Try.func31, Try.ntmps31
    go_wp2_with fail
    go_ret
    rw [HF.out]
    exact ⟨rfl, S, H.out, Upd.refl _ _, Sub.refl _ _⟩
  have h1 : decide ((1048568 : Int) < (p.length : Int)) = false := by simp; omega
  have H8 := Lib.hid h8; clear h8
  have hfr := journal_frame w.drew _ p (hp.upd0 (Upd.drew [] w)) HPL.out
  have hap : ∀ (w2 : World) (v : Value), Upd [] w w2 → By w2 v (frameB p) → Calls Try.prog 60 #[.pointer (some ⟨d, 0, none⟩), encS J.name, v] w2 (DPost w2 d S0 (J.D.append J.name (frameB p))) := fun w2 v hU hv =>
    disk_append w2 d S0 J.D (HD.out.upd0 hU) J.name (frameB p) v hv (by rw [frameB_length]; have := HPL.out; omega) HL.out
  have HA := Lib.hid hap; clear hap
  generalize hr : J.D.append J.name (frameB p) = r at *
  have HR := Lib.hid hr; clear hr
  clear hpl
  go_enter Try.func31, Try.ntmps31
  go_wp2_with fail
  go_region_held3 (fun W => W.cell? ⟨j, 0, none⟩ = some (.pointer (some ⟨d, 0, none⟩)) ∧ W.cell? ⟨j, 1, none⟩ = some (encS J.name))
    (first | go_keep | exact ⟨hU4.cell (hU2.cell c0 (by simp)) hn, hU4.cell (hU2.cell c1 (by simp)) hn⟩ | exact ⟨hU2.cell c0 (by simp), hU2.cell c1 (by simp)⟩)
    ((first
      | (go_at_call 61; refine hfr.mono ?_; rintro e w2 ⟨v2, rfl, hv2, hU2⟩)
      | (go_at_call 60; refine (HA.out _ _ ((Upd.drew [] w).trans0 hU2) hv2.by).mono ?_; rintro e w4 ⟨rfl, S', hD4, hU4, hS4⟩)))
  have hU24 : Upd S0 w w4 := (((Upd.drew [] w).trans0 hU2).mono (T := S0) (by simp)).trans hU4 (fun i hi _ => hi)
  have hs0 : w.heap.size ≤ w2.heap.size := ((Upd.drew [] w).trans0 hU2).size
  have hj4 := hU24.get HJ.out hn
  have hsub : Sub w S (j :: S') := by
    intro k hk
    rw [hS]
    rcases List.mem_cons.1 hk with rfl | hk
    · left; simp
    · rcases hS4 k hk with h1 | h1
      · left; exact List.mem_cons_of_mem _ h1
      · right; omega
  have hn4 : j ∉ S' := not_mem_off (hD4.off (e := 100) (by decide) (by decide)) hj4
  have hUS : Upd S w w4 := hU24.mono (fun i hi _ => by rw [hS]; exact List.mem_cons_of_mem _ hi)
  have HSUB := Lib.hid hsub; have HJ4 := Lib.hid hj4
  have hjS : j ∈ S := by rw [hS]; simp
  clear hS
  obtain ⟨D', k⟩ := r
  by_cases hk : k = 0
  · subst hk
    have HF := Lib.hid (show J.append p = ({ J with D := D', size := J.size + (8 + p.length) }, 0) from by simp only [JSt.append, if_neg H8.out, HR.out, if_true])
    have c2 : w4.cell? ⟨j, 2, none⟩ = some (.int .i64 J.size) := by rw [cell_lit w4 j 2 _ _ _ hj4]; rfl
    have f2 := frozen_lit w4 j 2 _ _ hj4
    have e2 : wrap64 ((J.size : Int) + wrap64 (8 + (p.length : Int))) = ((J.size + (8 + p.length) : Nat) : Int) := by
      have := HPL.out; have := HSZ.out
      simp only [wrap64]
      omega
    have E2 := Lib.hid e2
    clear hj4 hsub e2
    go_wp2_with fail
    go_ret
    rw [HF.out, E2.out]
    have hUs : Upd [j] w4 (w4.setCell ⟨j, 2, none⟩ (.int .i64 ((J.size + (8 + p.length) : Nat) : Int))) := Upd.setCell _ _ _ (by simp)
    refine ⟨rfl, j :: S', ⟨S', rfl, hD4.upd hUs (Off.cons_cells HJ4.out (by decide) (Off.nil _ _)) (fun k hk => by simp; rintro rfl; exact hn4 hk), ?_⟩, ?_, HSUB.out⟩
    · rw [setCell_get HJ4.out]; rfl
    · exact hUS.trans hUs (fun i hi _ => by simp at hi; subst hi; exact hjS)
  · have HF := Lib.hid (show J.append p = ({ J with D := D' }, k) from by simp only [JSt.append, if_neg H8.out, HR.out, if_neg hk])
    have h2 : ((k : Int) == 0) = false := by simp; omega
    have h3 : ((k : Int) = 0) = False := by simp; omega
    clear hj4 hsub
    go_wp2_with fail
    go_ret
    rw [HF.out]
    exact ⟨rfl, j :: S', ⟨S', rfl, hD4, HJ4.out⟩, hUS, HSUB.out⟩
end Go.Proofs.Ythfbfdkjgkkpcaa

namespace Go.Proofs.Ythfbfdkjgkkpcaa
open Go Go.RowKit

theorem fill_row (sz : Nat) : ∀ (us : List Value) (k : Nat) (arr : Array Value) (acc : List Value), (∀ u ∈ us, u.cells.size = sz) → arr.size = (k + us.length) * sz → arr.toList.take (k * sz) = acc →
    Instr.fill (fun i => some (i * sz, sz)) arr ((us.zipIdx k).map fun p => (p.2, p.1)) = some (acc ++ us.flatMap (fun u => u.cells.toList)).toArray := by
  intro us
  induction us with
  | nil =>
    intro k arr acc _ hs ha
    simp only [List.length_nil, Nat.add_zero] at hs
    rw [List.take_of_length_le (by simp [hs])] at ha
    simp [Instr.fill, ← ha]
  | cons u us ih =>
    intro k arr acc hu hs ha
    have hsz : u.cells.size = sz := hu u (by simp)
    have hb : k * sz + sz ≤ arr.size := by
      rw [hs, List.length_cons, ← Nat.succ_mul]
      exact Nat.mul_le_mul_right _ (by omega)
    simp only [List.zipIdx_cons, List.map_cons, Instr.fill, hsz]
    rw [if_neg (by simp; omega)]
    have hf : (u.cells.zipIdx.foldl (fun (cs : Array Value) (x : Value × Nat) => cs.setIfInBounds (k * sz + x.2) x.1) arr) = u.cells.toList.zipIdx.foldl (fun (cs : Array Value) (p : Value × Nat) => cs.setIfInBounds (k * sz + p.2) p.1) arr := by
      rw [← Array.foldl_toList, Array.toList_zipIdx]
    have hget : ∀ i, (u.cells.zipIdx.foldl (fun (cs : Array Value) (x : Value × Nat) => cs.setIfInBounds (k * sz + x.2) x.1) arr)[i]? = if k * sz ≤ i ∧ i < k * sz + sz then u.cells.toList[i - k * sz]? else arr[i]? := by
      intro i
      rw [hf, fold_get u.cells.toList 0 (k * sz) arr (by simp [hsz]; omega) i]
      simp [hsz]
    have hsize : (u.cells.zipIdx.foldl (fun (cs : Array Value) (x : Value × Nat) => cs.setIfInBounds (k * sz + x.2) x.1) arr).size = arr.size := by
      rw [hf]
      generalize u.cells.toList.zipIdx = l
      clear hget hf hb ih ha hs
      induction l generalizing arr with
      | nil => rfl
      | cons p l ih2 => rw [List.foldl_cons, ih2]; simp
    have hih := ih (k + 1) _ (acc ++ u.cells.toList) (fun v hv => hu v (List.mem_cons_of_mem _ hv)) (by rw [hsize, hs, List.length_cons]; congr 1; omega) (by
      have hk1 : (k + 1) * sz = k * sz + sz := Nat.succ_mul k sz
      apply List.ext_getElem?
      intro i
      rw [List.getElem?_take, Array.getElem?_toList, hget i, hk1]
      have hacc : acc.length = k * sz := by rw [← ha]; simp; omega
      by_cases h1 : i < k * sz
      · rw [if_pos (by omega), if_neg (by omega), List.getElem?_append_left (by omega), ← ha, List.getElem?_take, if_pos h1, Array.getElem?_toList]
      · by_cases h2 : i < k * sz + sz
        · rw [if_pos h2, if_pos (by omega), List.getElem?_append_right (by omega), hacc]
        · rw [if_neg h2, List.getElem?_eq_none]
          simp [hacc, hsz]
          omega)
    rw [show (fun (cs : Array Value) (x : Value × Nat) => match x with | (c, j) => cs.setIfInBounds (k * sz + j) c) = fun (cs : Array Value) (x : Value × Nat) => cs.setIfInBounds (k * sz + x.2) x.1 from rfl]
    rw [hih]
    simp

section
variable {P : Program} {w : World} {ops : Array Oper} {Q : Exit → Act → World → Prop} {rest : List Oper} {o : Oper} {a : Act}
theorem run_litN {T e sz b : Nat} (hE : Elem P T e sz b) (us : List Value) (hc : ∀ u ∈ us, u.cells.size = sz) (h0 : us ≠ []) (hs : us.length * sz ≤ 16777216) :
    (Instr.buildSlice T us.length ((us.zipIdx 0).map fun p => (p.2, p.1)).toArray).run P w = .ok (.slice (some ⟨w.heap.size, 0, none⟩) us.length us.length) (w.alloc (.cells (us.flatMap (fun u => u.cells.toList)).toArray e)) := by
  obtain ⟨i, z, hi, hz, hsz, hby, hzs⟩ := hE.info
  have hp := hE.pos
  have hl : 0 < us.length := List.length_pos_iff.2 h0
  have hne : ¬ (us.length * sz = 0) := Nat.ne_of_gt (Nat.mul_pos hl hp)
  have hbig : ¬ (us.length * sz > 2 ^ 24) := by omega
  have hzero : (zeroValue e).run P w = .ok z w := by simp [zeroValue, typeInfo, hi, hz]
  have hf := fill_row sz us 0 ((Array.range (us.length * sz)).map (z.cells[· % z.cells.size]!)) [] hc (by simp) (by simp)
  simp only [Instr.buildSlice, Sem.run_bind, run_underlying hE.und, Result.andThen_ok, sizeOf_run hE w, if_neg hbig, if_neg hne, hzero, Sem.run_pure, hf, newRow, List.nil_append]
  rfl
theorem wpl_litN {T e sz b : Nat} (hE : Elem P T e sz b) (us : List Value) (hc : ∀ u ∈ us, u.cells.size = sz) (h0 : us ≠ []) (hs : us.length * sz ≤ 16777216) (hw : Region.wanted o (yielded ops a.tmps) = true) {n : Nat} {xs : Array (Nat × Operand)} (ho : o.op = .buildSlice T n xs) (hn : n = us.length)
    (hx : xs.map (fun p => (p.1, a.eval p.2)) = ((us.zipIdx 0).map fun p => (p.2, p.1)).toArray)
    (hK : wpList P ops Q rest (a.put o.dst (.slice (some ⟨w.heap.size, 0, none⟩) n n)) (w.alloc (.cells (us.flatMap (fun u => u.cells.toList)).toArray e))) : wpList P ops Q (o :: rest) a w := by
  subst hn
  have hr := run_litN (w := w) hE us hc h0 hs
  refine wpl_run hw (w' := w.alloc (.cells (us.flatMap (fun u => u.cells.toList)).toArray e)) ?_ hK
  rw [← hx] at hr
  simp [execOp, ho, hr, Result.andThen]
end
end Go.Proofs.Ythfbfdkjgkkpcaa

namespace Go.Proofs.Ythfbfdkjgkkpcaa
open Go Go.RowKit

theorem str_append (a b : List UInt8) : ((⟨a.toArray⟩ : ByteArray) ++ ⟨b.toArray⟩) = ⟨(a ++ b).toArray⟩ := by
  apply ByteArray.ext
  rw [ByteArray.data_append]
  simp
theorem journal_fresh (w : World) (s : List UInt8) (h : s.length ≤ 1000000) : Calls Try.prog 49 #[encS s] w fun e w' => e = .returned (encS (s ++ [43])) ∧ w = w' := by
  go_enter Try.func49, Try.ntmps49
  go_wp2_with fail
  go_ret
  exact ⟨congrArg (fun b => Ending.returned (Value.string b)) (str_append s [43]), rfl⟩

theorem elFn : Elem Try.prog 116 54 1 8 := ⟨by kernel_rfl, by omega, by
  obtain ⟨i, h1, h2, h3, h4⟩ := info_parts (P := Try.prog) (e := 54) (z := .nilFunc) (size := 1) (bytes := 8) (by kernel_rfl)
  exact ⟨i, _, h1, h2, h3, h4, rfl⟩⟩

theorem journal_open_1 (w : World) (d a b : Nat) (S : List Nat) (D : DSt) (h : DiskAt w d S D) (name : List UInt8) (hn : name.length ≤ 1000000) (hl : D.loose.length ≤ 1000000000) (hnow : D.now.length ≤ 9223372036854775807)
    (ha : w.cell? ⟨a, 0, none⟩ = some (.pointer (some ⟨d, 0, none⟩))) (hb : w.cell? ⟨b, 0, none⟩ = some (encS name)) :
    Calls Try.prog 52 #[.pointer (some ⟨a, 0, none⟩), .pointer (some ⟨b, 0, none⟩)] w (DPost w d S (D.create name)) := by
  have hc := disk_create w d S D h name (by omega) hl hnow
  generalize D.create name = r at hc ⊢
  clear h hl hnow hn
  go_enter Try.func52, Try.ntmps52
  go_wp2_with (go_at_call 53; refine hc.mono ?_; rintro e w1 ⟨rfl, hp⟩)
  go_ret
  exact ⟨rfl, hp⟩

/-- A new file: Create, Sync. -/
def DSt.openNew (D : DSt) (name : List UInt8) : DSt × Nat := if (D.create name).2 = 0 then (D.create name).1.sync else D.create name
theorem does_loose (D : DSt) (c : Chg) : (D.does c).1.loose.length ≤ D.loose.length + 1 := by unfold DSt.does; split <;> simp
theorem create_loose (D : DSt) (name : List UInt8) : (D.create name).1.loose.length ≤ D.loose.length + 1 := by
  unfold DSt.create
  repeat' split
  all_goals first | (simp; done) | exact does_loose _ _

theorem journal_steps2 (w : World) (d a b : Nat) (S : List Nat) (D : DSt) (h : DiskAt w d S D) (name : List UInt8) (hn : name.length ≤ 1000000) (hl : D.loose.length ≤ 999999999) (hnow : D.now.length ≤ 9223372036854775807)
    (ha : w.cell? ⟨a, 0, none⟩ = some (.pointer (some ⟨d, 0, none⟩))) (hb : w.cell? ⟨b, 0, none⟩ = some (encS name)) (v : Value)
    (hv : Rd w 54 1 v 2 [.func (.func 52) #[] #[.pointer (some ⟨a, 0, none⟩), .pointer (some ⟨b, 0, none⟩)], .func (.func 54) #[.pointer (some ⟨d, 0, none⟩)] #[]]) :
    Calls Try.prog 51 #[v] w (DPost w d S (D.openNew name)) := by
  have h1 := journal_open_1 w d a b S D h name hn (by omega) hnow ha hb
  obtain ⟨ao, cap, rfl, hcp⟩ := hv.shape
  have hsync : ∀ w1 S1, DiskAt w1 d S1 (D.create name).1 → Calls Try.prog 54 #[.pointer (some ⟨d, 0, none⟩)] w1 (DPost w1 d S1 (D.create name).1.sync) := by
    intro w1 S1 hD
    exact disk_sync w1 d S1 _ hD (by have := create_loose D name; omega)
  have HF := Lib.hid (show D.openNew name = if (D.create name).2 = 0 then (D.create name).1.sync else D.create name from rfl)
  have HSY := Lib.hid hsync
  have hoff : Off w 54 S := h.off (by decide) (by decide)
  clear hsync h hl hn hnow ha hb hcp
  generalize hr : D.create name = r at *
  obtain ⟨D1, k⟩ := r
  go_enter Try.func51, Try.ntmps51
  go_wp2_with fail
  refine wp_loop_rounds 3 ?_
  rw [rounds_succ]
  go_wp2_with (first
    | ((with_reducible show wpList _ _ _ (⟨_, .indexAddr _ _ _, _, _, _, _⟩ :: _) _ _); refine wpl_indexAddr1 elFn rfl rfl hv rfl rfl (by omega) (by omega) _ rfl ?_; intro ad hcell))
  refine h1.mono ?_
  rintro e w1 ⟨rfl, S1, hD1, hU1, hS1⟩
  by_cases hk : k = 0
  · subst hk
    have HF' := Lib.hid (show D.openNew name = D1.sync from by rw [HF.out]; rfl)
    have hv1 := hv.upd hU1 hoff
    have hsy := HSY.out w1 S1 hD1
    generalize D1.sync = r2 at *
    obtain ⟨D2, k2⟩ := r2
    clear HF HSY
    go_wp2_with fail
    rw [rounds_succ]
    go_wp2_with (first
      | ((with_reducible show wpList _ _ _ (⟨_, .indexAddr _ _ _, _, _, _, _⟩ :: _) _ _); refine wpl_indexAddr1 elFn rfl rfl hv1 rfl rfl (by omega) (by omega) _ rfl ?_; intro ad2 hcell2))
    refine hsy.mono ?_
    rintro e w2 ⟨rfl, S2, hD2, hU2, hS2⟩
    have HFIN := Lib.hid (show DPost w d S (D2, k2) (.returned (.int .i64 k2)) w2 from ⟨rfl, S2, hD2, hU1.sub hS1 hU2, hS1.trans hS2 hU1.size⟩)
    by_cases hk2 : k2 = 0
    · subst hk2
      go_wp2_with fail
      rw [rounds_succ]
      go_wp2_with fail
      go_ret
      rw [HF'.out]
      exact HFIN.out
    · have h2 : ((k2 : Int) == 0) = false := by simp; omega
      have h3 : ((k2 : Int) = 0) = False := by simp; omega
      go_wp2_with fail
      go_ret
      rw [HF'.out]
      exact HFIN.out
  · have h2 : ((k : Int) == 0) = false := by simp; omega
    have h3 : ((k : Int) = 0) = False := by simp; omega
    have HF' := Lib.hid (show D.openNew name = (D1, k) from by rw [HF.out, if_neg hk])
    go_wp2_with fail
    go_ret
    rw [HF'.out]
    exact ⟨rfl, S1, hD1, hU1, hS1⟩

def OpenNewPost (w : World) (d : Nat) (S : List Nat) (D : DSt) (name : List UInt8) (e : Ending) (w' : World) : Prop :=
  if (D.openNew name).2 = 0 then
    ∃ j S', e = .returned (.tuple #[.pointer (some ⟨j, 0, none⟩), .slice none 0 0, .int .i64 0]) ∧ w.heap.size ≤ j ∧ JAt w' d j (j :: S') ⟨(D.openNew name).1, name, 0⟩ ∧ Upd S w w' ∧ Sub w S S'
  else e = .returned (.tuple #[.pointer none, .slice none 0 0, .int .i64 (D.openNew name).2]) ∧ ∃ S', DiskAt w' d S' (D.openNew name).1 ∧ Upd S w w' ∧ Sub w S S'

theorem journal_open_new (w : World) (d : Nat) (S : List Nat) (D : DSt) (h : DiskAt w d S D) (name : List UInt8) (h1 : isName name = true) (h2 : isName (name ++ [43]) = true) (h3 : D.there name = 6) (hl : D.loose.length ≤ 999999999) (hnow : D.now.length ≤ 9223372036854775807) :
    Calls Try.prog 27 #[.pointer (some ⟨d, 0, none⟩), encS name] w (OpenNewPost w d S D name) := by
  have hmf : ∀ (fn : Fn) (first cap : Array Value) (w : World), (Instr.makeFunc fn first cap).run Try.prog w = .ok (.func fn first cap) w := fun _ _ _ _ => rfl
  have hn : name.length ≤ 160 := by unfold isName at h1; simp at h1; exact h1.2
  have hs : D.size name = (0, 6) := by unfold DSt.size; rw [h3]; rfl
  have hsz : ∀ W : World, Upd [] w W → Calls Try.prog 50 #[.pointer (some ⟨d, 0, none⟩), encS name] W fun e w' => e = .returned (.tuple #[.int .i64 0, .int .i64 6]) ∧ W = w' := by
    intro W hU
    have := disk_size W d S D (h.upd0 hU) name
    rw [hs] at this
    exact this
  have hnm1 : ∀ W : World, Calls Try.prog 48 #[encS name] W fun e w' => e = .returned (.bool true) ∧ W = w' := by
    intro W
    have := disk_isName W name (by omega)
    rw [h1] at this
    exact this
  have hnm2 : ∀ W : World, Calls Try.prog 48 #[encS (name ++ [43])] W fun e w' => e = .returned (.bool true) ∧ W = w' := by
    intro W
    have := disk_isName W (name ++ [43]) (by simp; omega)
    rw [h2] at this
    exact this
  have hfr := fun W => journal_fresh W name (by omega)
  have hst := fun (W : World) (a b : Nat) (v : Value) (hU : Upd [] w W) => journal_steps2 W d a b S D (h.upd0 hU) name (by omega) hl hnow (v := v)
  have HST := Lib.hid hst; have H := Lib.hid h
  clear hs hst h1 h2 h3 hl hnow h hn
  go_enter Try.func27, Try.ntmps27
  go_wp2_with fail
  refine (hnm1 _).mono ?_
  rintro e w1 ⟨rfl, rfl⟩
  go_wp2_with fail
  refine (hfr _).mono ?_
  rintro e w1 ⟨rfl, rfl⟩
  go_wp2_with fail
  refine (hnm2 _).mono ?_
  rintro e w1 ⟨rfl, rfl⟩
  go_wp2_with fail
  refine (hsz _ (by repeat first | exact Upd.refl _ _ | exact Upd.alloc [] _ _ | refine Upd.trans0 ?_ (Upd.alloc [] _ _))).mono ?_
  rintro e w1 ⟨rfl, rfl⟩
  go_wp2_with ((with_reducible show wpList _ _ _ (⟨_, .buildSlice _ _ _, _, _, _, _⟩ :: _) _ _); refine wpl_litN elFn [.func (.func 52) #[] #[.pointer (some ⟨w.heap.size, 0, none⟩), .pointer (some ⟨w.heap.size + 1, 0, none⟩)], .func (.func 54) #[.pointer (some ⟨d, 0, none⟩)] #[]] (by simp [Value.cells]) (by simp) (by simp) rfl rfl rfl rfl ?_)
  have hz1 : ∀ o : Obj, (w.alloc o).heap.size = w.heap.size + 1 := fun o => by simp
  generalize hW4 : (((w.alloc (Obj.cells #[Value.pointer (some { block := d, off := 0 })] 24)).alloc (Obj.cells #[encS name] 9)).alloc (Obj.cells #[Value.pointer (some { block := d, off := 0 }), encS name, Value.int IntKind.i64 0] 100)) = W3
  have hU3 : Upd [] w W3 := by rw [← hW4]; exact ((Upd.alloc [] _ _).trans0 (Upd.alloc [] _ _)).trans0 (Upd.alloc [] _ _)
  have hs3 : W3.heap.size = w.heap.size + 1 + 1 + 1 := by rw [← hW4]; simp
  have ha : W3.cell? ⟨w.heap.size, 0, none⟩ = some (.pointer (some ⟨d, 0, none⟩)) := by
    rw [← hW4, cell_lit _ _ 0 #[.pointer (some ⟨d, 0, none⟩)] 24 (0, 0)]
    · rfl
    · rw [heap_alloc_old _ _ (by simp; omega), heap_alloc_old _ _ (by simp)]
      exact heap_alloc_new w _
  have hb : W3.cell? ⟨w.heap.size + 1, 0, none⟩ = some (encS name) := by
    rw [← hW4, cell_lit _ _ 0 #[encS name] 9 (0, 0)]
    · rfl
    · rw [heap_alloc_old _ _ (by simp)]
      have := heap_alloc_new (w.alloc (Obj.cells #[Value.pointer (some { block := d, off := 0 })] 24)) (Obj.cells #[encS name] 9)
      rwa [hz1] at this
  have hj : W3.heap[w.heap.size + 1 + 1]? = some (Obj.cells #[Value.pointer (some { block := d, off := 0 }), encS name, Value.int IntKind.i64 0] 100) := by
    rw [← hW4]
    have := heap_alloc_new ((w.alloc (Obj.cells #[Value.pointer (some { block := d, off := 0 })] 24)).alloc (Obj.cells #[encS name] 9)) (Obj.cells #[Value.pointer (some { block := d, off := 0 }), encS name, Value.int IntKind.i64 0] 100)
    simp only [World.size_alloc] at this
    exact this
  have hU4 : ∀ o, Upd [] W3 (W3.alloc o) := fun o => Upd.alloc [] _ _
  have hv : Rd (W3.alloc (Obj.cells #[Value.func (Fn.func 52) #[] #[Value.pointer (some { block := w.heap.size, off := 0 }), Value.pointer (some { block := w.heap.size + 1, off := 0 })], Value.func (Fn.func 54) #[Value.pointer (some { block := d, off := 0 })] #[]] 54)) 54 1 (Value.slice (some { block := W3.heap.size, off := 0 }) 2 2) 2 _ :=
    Rd.new rfl (Nat.le_refl _) (by decide) rfl rfl
  rw [hs3] at hv
  refine (HST.out _ w.heap.size (w.heap.size + 1) _ (hU3.trans0 (hU4 _)) ((hU4 _).cell ha (by simp)) ((hU4 _).cell hb (by simp)) hv).mono ?_
  rintro e w5 ⟨rfl, S', hD5, hU5, hS5⟩
  have hU15 : Upd S w w5 := ((hU3.trans0 (hU4 _)).mono (T := S) (by simp)).trans hU5 (fun i hi _ => hi)
  have hS15 : Sub w S S' := fun k hk => (hS5 k hk).imp_right (fun h => Nat.le_trans (hU3.trans0 (hU4 _)).size h)
  have hjS : w.heap.size + 1 + 1 ∉ S := fun hm => by have := H.out.lt _ hm; omega
  have hj5 := hU5.get ((hU4 _).get hj (by simp)) hjS
  generalize hr : D.openNew name = r at *
  obtain ⟨D', k⟩ := r
  have HR := Lib.hid hr
  have HJ5 := Lib.hid hj5; have HD5 := Lib.hid hD5; have HU := Lib.hid hU15; have HSS := Lib.hid hS15
  clear hv hj hb ha hU4 hU5 hD5 hS5 hj5 hU15 hS15 hr HST hsz hnm1 hnm2 hfr hmf hW4
  by_cases hk : k = 0
  · subst hk
    go_wp2_with fail
    go_ret3
    unfold OpenNewPost
    rw [HR.out]
    refine ⟨w.heap.size + 1 + 1, S', rfl, by omega, ⟨S', rfl, HD5.out, HJ5.out⟩, HU.out, HSS.out⟩
  · have h2 : ((k : Int) == 0) = false := by simp; omega
    have h3 : ((k : Int) = 0) = False := by simp; omega
    go_wp2_with fail
    go_ret3
    unfold OpenNewPost
    rw [HR.out, if_neg hk]
    exact ⟨rfl, S', HD5.out, HU.out, HSS.out⟩
end Go.Proofs.Ythfbfdkjgkkpcaa

namespace Go.Proofs.Ythfbfdkjgkkpcaa
open Go Go.RowKit

structure TChg where
  key : List UInt8
  gone : Bool
  val : List UInt8
def tdo1 (m : List (List UInt8 × List UInt8)) (c : TChg) : List (List UInt8 × List UInt8) := if c.gone then fdel c.key m else fput c.key c.val m
def tdo (m : List (List UInt8 × List UInt8)) (l : List TChg) : List (List UInt8 × List UInt8) := l.foldl tdo1 m
theorem tdo1_nodup {m : List (List UInt8 × List UInt8)} (h : (m.map (·.1)).Nodup) (c : TChg) : ((tdo1 m c).map (·.1)).Nodup := by
  unfold tdo1
  split
  · exact fdel_nodup h
  · exact fput_nodup h
theorem tdo_take_succ (m : List (List UInt8 × List UInt8)) (l : List TChg) (i : Nat) (c : TChg) (h : l[i]? = some c) : tdo m (l.take (i + 1)) = tdo1 (tdo m (l.take i)) c := by
  unfold tdo
  rw [List.take_add_one, h, List.foldl_append]
  rfl

/-- A change in a record. -/
def encStep (c : TChg) : List UInt8 := if c.gone then 0 :: textB c.key else 1 :: (textB c.key ++ textB c.val)
def badChg (c : TChg) : Bool := decide (c.key = [] ∨ 320 < c.key.length ∨ 262144 < c.val.length)
def encGo (out : List UInt8) : List TChg → List UInt8 × Nat
  | [] => (out, 0)
  | c :: r => if badChg c then ([], 1) else if 1048568 < (out ++ encStep c).length then ([], 8) else encGo (out ++ encStep c) r
/-- The record of changes, or why there is none. -/
def encB (l : List TChg) : List UInt8 × Nat := if 256 < l.length then ([], 8) else encGo (countB l.length) l

/-- The cells of changes. -/
def TCells (w : World) : List Value → List TChg → Prop
  | [], [] => True
  | k :: g :: v :: r, c :: l => k = encS c.key ∧ g = .bool c.gone ∧ By w v c.val ∧ TCells w r l
  | _, _ => False
theorem TCells.upd {S : List Nat} {w w' : World} (hU : Upd S w w') (hS : Off w 5 S) : ∀ {cs : List Value} {l : List TChg}, TCells w cs l → TCells w' cs l
  | [], [], _ => trivial
  | _ :: _ :: _ :: _, _ :: _, h => ⟨h.1, h.2.1, h.2.2.1.upd hU hS, TCells.upd hU hS h.2.2.2⟩
theorem TCells.get {w : World} : ∀ {cs : List Value} {l : List TChg}, TCells w cs l → ∀ {i : Nat} {c : TChg}, l[i]? = some c →
    ∃ pv, cs[i * 3 + 0]? = some (encS c.key) ∧ cs[i * 3 + 1]? = some (.bool c.gone) ∧ cs[i * 3 + 2]? = some pv ∧ By w pv c.val
  | [], [], _, _, _, h => by simp at h
  | k :: a :: b :: r, c0 :: l, hc, 0, c, h => by
    simp only [List.getElem?_cons_zero, Option.some.injEq] at h
    subst h
    obtain ⟨rfl, rfl, hp, _⟩ := hc
    exact ⟨b, rfl, rfl, rfl, hp⟩
  | k :: a :: b :: r, c0 :: l, hc, i + 1, c, h => by
    simp only [List.getElem?_cons_succ] at h
    obtain ⟨pv, h0, h1, h2, h4⟩ := TCells.get hc.2.2.2 h
    refine ⟨pv, ?_, ?_, ?_, h4⟩
    · rw [show (i + 1) * 3 + 0 = (i * 3 + 0) + 3 by omega]; simpa using h0
    · rw [show (i + 1) * 3 + 1 = (i * 3 + 1) + 3 by omega]; simpa using h1
    · rw [show (i + 1) * 3 + 2 = (i * 3 + 2) + 3 by omega]; simpa using h2
/-- A slice that reads as changes. -/
def Chgs (w : World) (v : Value) (l : List TChg) : Prop := ∃ cells, Rd w 51 3 v l.length cells ∧ TCells w cells l
theorem Chgs.upd {S : List Nat} {w w' : World} {v : Value} {l : List TChg} (h : Chgs w v l) (hU : Upd S w w') (h1 : Off w 5 S) (h2 : Off w 51 S) : Chgs w' v l := by
  obtain ⟨cells, ha, hb⟩ := h
  exact ⟨cells, ha.upd hU h2, hb.upd hU h1⟩
theorem Chgs.upd0 {w w' : World} {v : Value} {l : List TChg} (h : Chgs w v l) (hU : Upd [] w w') : Chgs w' v l := h.upd hU (Off.nil _ _) (Off.nil _ _)

structure TSt where
  J : JSt
  m : List (List UInt8 × List UInt8)
  down : Bool
/-- Block tb is a table on the disk d; S: the blocks that it turns. -/
structure TAt (w : World) (d tb : Nat) (S : List Nat) (T : TSt) : Prop where
  ex : ∃ jb mb S0, S = tb :: mb :: S0 ∧ mb ∉ S0 ∧ JAt w d jb S0 T.J ∧ MapB w mb T.m ∧ w.heap[tb]? = some (.cells #[.pointer (some ⟨jb, 0, none⟩), .map (some mb), .bool T.down] 78 (0, 0))
theorem TAt.off {w : World} {d tb : Nat} {S : List Nat} {T : TSt} (h : TAt w d tb S T) {e : TypeId} (h1 : 72 ≠ e) (h2 : 95 ≠ e) (h3 : 100 ≠ e) (h4 : 78 ≠ e) : Off w e S := by
  obtain ⟨jb, mb, S0, rfl, _, hJ, hM, ht⟩ := h.ex
  exact Off.cons_cells ht h4 (hM.off (hJ.off h1 h2 h3))
theorem TAt.off8 {w : World} {d tb : Nat} {S : List Nat} {T : TSt} (h : TAt w d tb S T) : Off w 5 S := h.off (by decide) (by decide) (by decide) (by decide)
theorem TAt.upd {S U : List Nat} {w w' : World} {d tb : Nat} {T : TSt} (h : TAt w d tb S T) (hU : Upd U w w') (h8 : Off w 5 U) (hn : ∀ k ∈ S, k ∉ U) : TAt w' d tb S T := by
  obtain ⟨jb, mb, S0, rfl, hm, hJ, hM, ht⟩ := h.ex
  exact ⟨jb, mb, S0, rfl, hm, hJ.upd hU h8 (fun k hk => hn k (by simp [hk])), hM.upd hU h8 (hn mb (by simp)), hU.get ht (hn tb (by simp))⟩
theorem TAt.upd0 {S : List Nat} {w w' : World} {d tb : Nat} {T : TSt} (h : TAt w d tb S T) (hU : Upd [] w w') : TAt w' d tb S T := h.upd hU (Off.nil _ _) (fun _ _ hm => by cases hm)
theorem TAt.lt {w : World} {d tb : Nat} {S : List Nat} {T : TSt} (h : TAt w d tb S T) : ∀ k ∈ S, k < w.heap.size := by
  obtain ⟨jb, mb, S0, rfl, hm, hJ, hM, ht⟩ := h.ex
  intro k hk
  simp only [List.mem_cons] at hk
  rcases hk with rfl | rfl | hk
  · exact lt_of_get ht
  · exact hM.lt
  · exact hJ.lt k hk
end Go.Proofs.Ythfbfdkjgkkpcaa

namespace Go.Proofs
open Go.Shelf
def Try.keys35_ren : Go.Shelf.Ren := ⟨fun | 7 => 35 | 10 => 64 | n => n, fun | 23 => 68 | 26 => 9 | 3 => 41 | 28 => 87 | 0 => 0 | 27 => 86 | 33 => 56 | 4 => 4 | n => n, fun | n => n⟩
theorem Try.keys35 : Go.Proofs.SlLaysZ.n7 Try.prog Try.keys35_ren := {
  mixed := by kernel_rfl
  f7 := ⟨Try.f35.name, by decide, Try.func35.trans (congrArg some (by kernel_rfl))⟩
  f10 := ⟨Try.f64.name, by decide, Try.func64.trans (congrArg some (by kernel_rfl))⟩
  t0 := Try.underlying0
  a0 := Try.isAgg0
  z0 := Try.sizeOf0
  v0 := Try.zeroValue0
  t4 := Try.underlying4
  a4 := Try.isAgg4
  z4 := Try.sizeOf4
  v4 := Try.zeroValue4
  t23 := Try.underlying68
  a23 := Try.isAgg68
  z23 := Try.sizeOf68
  v23 := Try.zeroValue68
  t26 := Try.underlying9
  a26 := Try.isAgg9
  z26 := Try.sizeOf9
  v26 := Try.zeroValue9
  t27 := Try.underlying86
  a27 := Try.isAgg86
  z27 := Try.sizeOf86
  v27 := Try.zeroValue86
  t28 := Try.underlying87
  a28 := Try.isAgg87
  z28 := Try.sizeOf87
  v28 := Try.zeroValue87
  t33 := Try.underlying56
  a33 := Try.isAgg56
  z33 := Try.sizeOf56
  v33 := Try.zeroValue56 }
def Try.sorted34_ren : Go.Shelf.Ren := ⟨fun | 6 => 34 | 8 => 62 | 9 => 63 | 11 => 79 | 13 => 81 | 12 => 80 | 23 => 92 | 24 => 93 | 14 => 83 | 15 => 84 | 16 => 85 | 17 => 86 | 18 => 87 | 19 => 88 | 20 => 89 | 21 => 90 | 22 => 91 | 25 => 94 | 26 => 95 | 27 => 96 | 28 => 97 | 29 => 98 | 30 => 99 | 31 => 100 | n => n, fun | 26 => 9 | 28 => 87 | 24 => 38 | 0 => 0 | 3 => 3 | 37 => 64 | 48 => 118 | 50 => 92 | 4 => 4 | 40 => 131 | 39 => 130 | 45 => 135 | 5 => 5 | 9 => 9 | 51 => 139 | 55 => 143 | 57 => 145 | 58 => 146 | 33 => 56 | n => n, fun | n => n⟩
theorem Try.sorted34 : Go.Proofs.SlLaysZ.n6 Try.prog Try.sorted34_ren := {
  mixed := by kernel_rfl
  f6 := ⟨Try.f34.name, by decide, Try.func34.trans (congrArg some (by kernel_rfl))⟩
  f8 := ⟨Try.f62.name, by decide, Try.func62.trans (congrArg some (by kernel_rfl))⟩
  f11 := ⟨Try.f79.name, by decide, Try.func79.trans (congrArg some (by kernel_rfl))⟩
  t0 := Try.underlying0
  a0 := Try.isAgg0
  z0 := Try.sizeOf0
  v0 := Try.zeroValue0
  t24 := Try.underlying38
  a24 := Try.isAgg38
  z24 := Try.sizeOf38
  v24 := Try.zeroValue38
  t26 := Try.underlying9
  a26 := Try.isAgg9
  z26 := Try.sizeOf9
  v26 := Try.zeroValue9
  t28 := Try.underlying87
  a28 := Try.isAgg87
  z28 := Try.sizeOf87
  v28 := Try.zeroValue87
  i26 := by kernel_rfl }
def Try.sort63_ren : Go.Shelf.Ren := ⟨fun | 6 => 63 | 8 => 81 | 9 => 80 | 19 => 92 | 20 => 93 | 21 => 83 | 22 => 84 | 23 => 85 | 24 => 86 | 25 => 87 | 26 => 88 | 27 => 89 | 28 => 90 | 29 => 91 | 36 => 94 | 31 => 95 | 32 => 96 | 37 => 97 | 38 => 98 | 39 => 99 | 41 => 100 | n => n, fun | 27 => 38 | 29 => 9 | 3 => 3 | 32 => 64 | 26 => 38 | 0 => 0 | 44 => 118 | 46 => 92 | 4 => 4 | 36 => 131 | 35 => 130 | 41 => 135 | 5 => 5 | 9 => 9 | 53 => 139 | 57 => 143 | 63 => 145 | 64 => 146 | n => n, fun | n => n⟩
theorem Try.sort63 : Go.Proofs.SlLaysM.n6 Try.prog Try.sort63_ren := {
  mixed := by kernel_rfl
  f6 := ⟨Try.f63.name, by decide, Try.func63.trans (congrArg some (by kernel_rfl))⟩
  f8 := Try.func81.trans (congrArg some (by kernel_rfl))
  f9 := ⟨Try.f80.name, by decide, Try.func80.trans (congrArg some (by kernel_rfl))⟩
  f19 := Try.func92.trans (congrArg some (by kernel_rfl))
  f20 := Try.func93.trans (congrArg some (by kernel_rfl))
  f21 := ⟨Try.f83.name, by decide, Try.func83.trans (congrArg some (by kernel_rfl))⟩
  f22 := ⟨Try.f84.name, by decide, Try.func84.trans (congrArg some (by kernel_rfl))⟩
  f23 := ⟨Try.f85.name, by decide, Try.func85.trans (congrArg some (by kernel_rfl))⟩
  f24 := ⟨Try.f86.name, by decide, Try.func86.trans (congrArg some (by kernel_rfl))⟩
  f25 := ⟨Try.f87.name, by decide, Try.func87.trans (congrArg some (by kernel_rfl))⟩
  f26 := ⟨Try.f88.name, by decide, Try.func88.trans (congrArg some (by kernel_rfl))⟩
  f27 := ⟨Try.f89.name, by decide, Try.func89.trans (congrArg some (by kernel_rfl))⟩
  f28 := ⟨Try.f90.name, by decide, Try.func90.trans (congrArg some (by kernel_rfl))⟩
  f29 := ⟨Try.f91.name, by decide, Try.func91.trans (congrArg some (by kernel_rfl))⟩
  f31 := Try.func95.trans (congrArg some (by kernel_rfl))
  f32 := Try.func96.trans (congrArg some (by kernel_rfl))
  f36 := ⟨Try.f94.name, by decide, Try.func94.trans (congrArg some (by kernel_rfl))⟩
  f37 := ⟨Try.f97.name, by decide, Try.func97.trans (congrArg some (by kernel_rfl))⟩
  f38 := ⟨Try.f98.name, by decide, Try.func98.trans (congrArg some (by kernel_rfl))⟩
  f39 := ⟨Try.f99.name, by decide, Try.func99.trans (congrArg some (by kernel_rfl))⟩
  f41 := ⟨Try.f100.name, by decide, Try.func100.trans (congrArg some (by kernel_rfl))⟩
  t0 := Try.underlying0
  a0 := Try.isAgg0
  z0 := Try.sizeOf0
  v0 := Try.zeroValue0
  t3 := Try.underlying3
  a3 := Try.isAgg3
  z3 := Try.sizeOf3
  v3 := Try.zeroValue3
  t4 := Try.underlying4
  a4 := Try.isAgg4
  z4 := Try.sizeOf4
  v4 := Try.zeroValue4
  t5 := Try.underlying5
  a5 := Try.isAgg5
  z5 := Try.sizeOf5
  v5 := Try.zeroValue5
  t9 := Try.underlying9
  a9 := Try.isAgg9
  z9 := Try.sizeOf9
  v9 := Try.zeroValue9
  t26 := Try.underlying38
  a26 := Try.isAgg38
  z26 := Try.sizeOf38
  v26 := Try.zeroValue38
  t27 := Try.underlying38
  a27 := Try.isAgg38
  z27 := Try.sizeOf38
  v27 := Try.zeroValue38
  t29 := Try.underlying9
  a29 := Try.isAgg9
  z29 := Try.sizeOf9
  v29 := Try.zeroValue9
  t32 := Try.underlying64
  a32 := Try.isAgg64
  z32 := Try.sizeOf64
  v32 := Try.zeroValue64
  t35 := Try.underlying130
  a35 := Try.isAgg130
  z35 := Try.sizeOf130
  v35 := Try.zeroValue130
  t36 := Try.underlying131
  a36 := Try.isAgg131
  z36 := Try.sizeOf131
  v36 := Try.zeroValue131
  t41 := Try.underlying135
  a41 := Try.isAgg135
  z41 := Try.sizeOf135
  v41 := Try.zeroValue135
  t44 := Try.underlying118
  a44 := Try.isAgg118
  z44 := Try.sizeOf118
  v44 := Try.zeroValue118
  t46 := Try.underlying92
  a46 := Try.isAgg92
  z46 := Try.sizeOf92
  v46 := Try.zeroValue92
  t53 := Try.underlying139
  a53 := Try.isAgg139
  z53 := Try.sizeOf139
  v53 := Try.zeroValue139
  t57 := Try.underlying143
  a57 := Try.isAgg143
  z57 := Try.sizeOf143
  v57 := Try.zeroValue143
  t63 := Try.underlying145
  a63 := Try.isAgg145
  z63 := Try.sizeOf145
  v63 := Try.zeroValue145
  t64 := Try.underlying146
  a64 := Try.isAgg146
  z64 := Try.sizeOf146
  v64 := Try.zeroValue146 }
open Go.RowKit Go.Maps Go.Sort
theorem Try.sorts34 (m : Nat) : AnyZ.SortsIn Try.prog Try.sorted34_ren Fence.wide m :=
  ⟨fun blk off cap ss W hH hblk hsz => callsIn_wide.2 (AnyM.slices_Sort_string Try.sort63 blk off cap ss W hH hblk hsz),
   fun p cap W => callsIn_wide.2 (AnyM.slices_Sort_string_none Try.sort63 p cap W)⟩

theorem Try.maps_Keys_35 (mb : Option Nat) (W : World) : CallsIn Fence.wide 5 Try.prog 35 #[.map mb] W fun e w' => e = .returned (.func (.func 64) #[] #[.pointer (some ⟨W.heap.size, 0, none⟩)]) ∧ w' = W.alloc (.cells #[.map mb] 68) :=
  AnyZ.keys_in Try.keys35 Fence.wide 5 trivial rfl mb W

set_option maxHeartbeats 1000000 in
theorem Try.slices_Sorted_keys_34_35 {H : Type} (b nn : Nat) (D0 : DataW H) (R : Value → Option (DataW H × List MemPlace)) (w : World) (hown : w.ownsMap Try.prog 9 R b nn D0) (hmax : Maps.size D0 ≤ maxLen) (hbytes : Maps.size D0 * 16 ≤ 140737488355328) :
    CallsIn Fence.wide 5 Try.prog 34 #[.func (.func 64) #[] #[.pointer (some ⟨w.heap.size, 0, none⟩)]] (w.alloc (.cells #[.map (some b)] 68)) fun e w' => ∃ (v : Value) (ss : List (List UInt8)), e = .returned v ∧ ss.Perm (strKeys D0) ∧
      w'.ownsRow (w.alloc (.cells #[.map (some b)] 68)).heap.size 9 1 v ss.length ((ss.mergeSort (fun x y => decide (x ≤ y))).map encStr) ∧ (v = .slice none 0 0 ↔ ss = []) ∧ Below (w.alloc (.cells #[.map (some b)] 68)).heap.size (w.alloc (.cells #[.map (some b)] 68)) w' := by
  have hbl := hown.lt
  have hseq : SeqGives Fence.wide 2 Try.prog 64 #[.pointer (some ⟨w.heap.size, 0, none⟩)] encStr (fun ss => ss.Perm (strKeys D0)) (Maps.size D0) (w.alloc (.cells #[.map (some b)] 68)) :=
    AnyZ.keys_gives (ρ := Try.keys35_ren) { Try.keys35 with } Fence.wide _ trivial rfl (by omega) w.heap.size b nn D0 _ (by simp) (by simp) (by
      obtain ⟨es, clock, hb, Ft, hs, hD⟩ := hown
      exact ⟨es, clock, (Below.heap_alloc _ _ b hbl).trans hb, Ft, hs, hD⟩)
  exact AnyZ.sorted_in Try.sorted34 Fence.wide 5 trivial trivial trivial trivial rfl (by omega) (Try.sorts34 _) (enters_of Try.func63 (by kernel_rfl) rfl) 64 #[.pointer (some ⟨w.heap.size, 0, none⟩)] trivial (enters_of Try.func64 (by kernel_rfl) rfl) _ _ hmax hbytes _ hseq

set_option maxHeartbeats 1000000 in
theorem Try.slices_Sorted_keys_nil_34_35 (w : World) :
    CallsIn Fence.wide 5 Try.prog 34 #[.func (.func 64) #[] #[.pointer (some ⟨w.heap.size, 0, none⟩)]] (w.alloc (.cells #[.map none] 68)) fun e w' => ∃ (v : Value) (ss : List (List UInt8)), e = .returned v ∧ ss = [] ∧
      w'.ownsRow (w.alloc (.cells #[.map none] 68)).heap.size 9 1 v ss.length ((ss.mergeSort (fun x y => decide (x ≤ y))).map encStr) ∧ (v = .slice none 0 0 ↔ ss = []) ∧ Below (w.alloc (.cells #[.map none] 68)).heap.size (w.alloc (.cells #[.map none] 68)) w' := by
  have hseq : SeqGives Fence.wide 2 Try.prog 64 #[.pointer (some ⟨w.heap.size, 0, none⟩)] encStr (fun ss : List (List UInt8) => ss = []) 0 (w.alloc (.cells #[.map none] 68)) :=
    AnyZ.keys_gives_nil (ρ := Try.keys35_ren) { Try.keys35 with } Fence.wide _ trivial rfl w.heap.size _ (by simp) (by simp)
  exact AnyZ.sorted_in Try.sorted34 Fence.wide 5 trivial trivial trivial trivial rfl (by omega) (Try.sorts34 _) (enters_of Try.func63 (by kernel_rfl) rfl) 64 #[.pointer (some ⟨w.heap.size, 0, none⟩)] trivial (enters_of Try.func64 (by kernel_rfl) rfl) _ 0 (Nat.zero_le _) (by omega) _ hseq
end Go.Proofs

namespace Go.Proofs.Ythfbfdkjgkkpcaa
open Go Go.RowKit Go.Maps Go.Sort

/-- How an element reads: it is not looked into. -/
def blindR (_ : Value) : Option (DataW Unit × List MemPlace) := some (.lit (.bool true), [])
def leK : List UInt8 → List UInt8 → Bool := fun x y => decide (x ≤ y)
/-- The keys in order. -/
def sortK (m : List (List UInt8 × List UInt8)) : List (List UInt8) := (m.map (·.1)).mergeSort leK

theorem keyOf_enc (k : List UInt8) (h : k.length ≤ maxLen) : keyOf Try.prog 9 (encS k) = some (.string k) := by
  have hu : Try.prog.underlying 9 = some .string := by kernel_rfl
  have hs : ByteArray.size ⟨k.toArray⟩ ≤ maxLen := by simpa [ByteArray.size] using h
  simp [keyOf, hu, mapKey, hs]
theorem ownsMap_of {w : World} {mb : Nat} {es : List (List UInt8 × Value)} (h : MapW w mb es) (hk : ∀ p ∈ es, p.1.length ≤ maxLen) (hn : es.length ≤ maxLen) :
    ∃ D : DataW Unit, w.ownsMap Try.prog 9 blindR mb es.length D ∧ Maps.size D = es.length ∧ (strKeys D).Perm (es.map (·.1)) := by
  obtain ⟨arr, clock, hb, hE, hbn, hbl⟩ := h.ex
  have hlen : arr.toList.length = es.length := ents_length hE
  have hrd : ∀ (l : List MapEntry) (q : List (List UInt8 × Value)), Ents l q → (∀ p ∈ q, p.1.length ≤ maxLen) → l.map (WideElems.rg Try.prog 9 blindR) = q.map (fun p => (Lit.string p.1, DataW.lit (.bool true))) ∧ ∀ x ∈ l, ∃ y, WideElems.rd Try.prog 9 blindR x = some y := by
    intro l
    induction l with
    | nil => intro q hq _; cases q with
      | nil => exact ⟨rfl, by simp⟩
      | cons _ _ => cases hq
    | cons x l ih =>
      intro q hq hk
      cases q with
      | nil => cases hq
      | cons p q =>
        simp only [Ents, List.map_cons, List.cons.injEq, Prod.mk.injEq] at hq
        obtain ⟨⟨h1, h2⟩, h3⟩ := hq
        obtain ⟨i1, i2⟩ := ih q h3 (fun p hp => hk p (List.mem_cons_of_mem _ hp))
        have hx : WideElems.rd Try.prog 9 blindR x = some (Lit.string p.1, DataW.lit (.bool true)) := by
          unfold WideElems.rd
          rw [h1, keyOf_enc p.1 (hk p (by simp))]
          rfl
        refine ⟨?_, fun y hy => ?_⟩
        · rw [List.map_cons, List.map_cons, i1]
          unfold WideElems.rg
          rw [hx]
          rfl
        · rcases List.mem_cons.1 hy with rfl | hy
          · exact ⟨_, hx⟩
          · exact i2 y hy
  obtain ⟨hrg, hreads⟩ := hrd arr.toList es hE hk
  have hkeys : arr.toList.map (·.key) = es.map (fun p => encS p.1) := by
    have := congrArg (List.map Prod.fst) hE
    simpa [List.map_map, Function.comp_def] using this
  refine ⟨.map ((arr.toList.map (WideElems.rg Try.prog 9 blindR)).foldr DataW.insert []), ⟨arr, clock, hb, ⟨?_, ?_, ?_⟩, ?_, rfl⟩, ?_, ?_⟩
  · rw [← Array.length_toList, hlen]; exact hn
  · rw [MapKept.stamped_iff]
    refine ⟨fun x hx => hbl _ (List.mem_map_of_mem hx), hbn, ?_⟩
    have hnd : (arr.toList.map (·.key)).Nodup := by
      rw [hkeys]
      have := h.nodup
      rw [List.nodup_iff_pairwise_ne, List.pairwise_map] at this ⊢
      exact this.imp (fun hne he => hne (encS_inj he))
    rw [List.nodup_iff_pairwise_ne, List.pairwise_map] at hnd
    exact hnd
  · exact hreads
  · rw [← Array.length_toList, hlen]
    exact Nat.le_refl _
  · show List.length _ = _
    rw [(WideShapes.sorted_perm _).length_eq, hrg]
    simp
  · show (List.map (fun (p : Lit × DataW Unit) => strOf p.1) _).Perm _
    refine ((WideShapes.sorted_perm _).map _).trans ?_
    rw [hrg]
    simp [List.map_map, Function.comp_def, strOf]
theorem sortK_perm {l l' : List (List UInt8)} (h : l.Perm l') : l.mergeSort leK = l'.mergeSort leK := mergeSort_of_perm h

/-- maps.Keys' function value over a block. -/
abbrev keysV (b : Nat) : Value := .func (.func 64) #[] #[.pointer (some ⟨b, 0, none⟩)]
theorem maps_keys (w : World) (mb : Nat) : Calls Try.prog 35 #[.map (some mb)] w fun e w' => e = .returned (keysV w.heap.size) ∧ w' = w.alloc (.cells #[.map (some mb)] 68) :=
  callsIn_wide.1 (Try.maps_Keys_35 (some mb) w)
theorem sorted_keys (w : World) (mb : Nat) (m : List (List UInt8 × List UInt8)) (hM : MapB w mb m) (hk : ∀ p ∈ m, p.1.length ≤ maxLen) (hn : m.length ≤ 1000000000) :
    Calls Try.prog 34 #[keysV w.heap.size] (w.alloc (.cells #[.map (some mb)] 68)) fun e w' => ∃ v, e = .returned v ∧
      w'.ownsRow w.heap.size 9 1 v m.length ((sortK m).map encS) ∧ Upd [] (w.alloc (.cells #[.map (some mb)] 68)) w' := by
  obtain ⟨es, m', hW, hV, hP⟩ := hM
  have hkeys : (es.map (·.1)).Perm (m.map (·.1)) := by rw [hV.keys]; exact hP.map _
  have hlen : es.length = m.length := by have := hkeys.length_eq; simpa using this
  have hk' : ∀ p ∈ es, p.1.length ≤ maxLen := by
    intro p hp
    have h1 : p.1 ∈ m.map (·.1) := hkeys.subset (List.mem_map_of_mem hp)
    obtain ⟨q, hq, he⟩ := List.mem_map.1 h1
    rw [← he]; exact hk q hq
  obtain ⟨D, hown, hsz, hst⟩ := ownsMap_of hW hk' (by rw [hlen]; unfold maxLen; omega)
  have hc := callsIn_wide.1 (Try.slices_Sorted_keys_34_35 mb es.length D blindR w hown (by rw [hsz, hlen]; unfold maxLen; omega) (by rw [hsz, hlen]; omega))
  refine hc.mono ?_
  rintro e w' ⟨v, ss, rfl, hp, hrow, _, hbel⟩
  have hpm : ss.Perm (m.map (·.1)) := (hp.trans hst).trans hkeys
  have hl : ss.length = m.length := by have := hpm.length_eq; simpa using this
  have e1 : (ss.mergeSort (fun x y => decide (x ≤ y))).map encStr = (sortK m).map encS := by
    rw [show ss.mergeSort (fun x y => decide (x ≤ y)) = sortK m from sortK_perm hpm]
  rw [e1, hl] at hrow
  exact ⟨v, rfl, Own.mono hrow (by simp), Upd.of_below hbel⟩
end Go.Proofs.Ythfbfdkjgkkpcaa

namespace Go.Proofs.Ythfbfdkjgkkpcaa
open Go Go.RowKit

section
variable {P : Program} {ops : Array Oper} {Q : Exit → Act → World → Prop} {o : Oper} {a : Act} {w : World}
theorem step_skip {K : Act → World → Prop} (hw : Region.wanted o (yielded ops a.tmps) = true) {w' : World} (hrun : (execOp a.eval o).run P w = .ok .skip w') (h : K (a.put o.dst undef) w') :
    if Region.wanted o (yielded ops a.tmps) = true then Oper.wp P o a w K Q else K (a.put o.dst undef) w := by
  rw [if_pos hw]
  unfold Oper.wp
  rw [hrun]
  exact h
theorem run_mapUpdate_op {M : Nat} {m x y : Operand} {mv kv v : Value} {w' : World} (hr : (Instr.mapUpdate M mv kv v).run P w = .ok () w') (ho : o.op = .mapUpdate M m x y) (hm : a.eval m = mv) (hk : a.eval x = kv) (hv : a.eval y = v) :
    (execOp a.eval o).run P w = .ok .skip w' := by
  simp [execOp, ho, hm, hk, hv, hr, Result.andThen]
theorem run_delete_op {M K : Nat} {m x : Operand} {mv kv : Value} {w' : World} (hr : (Builtin.delete_ #[M, K] 0 #[mv, kv]).run P w = .ok (.tuple #[]) w') (ho : o.op = .call { callee := .builtin .delete, args := #[m, x], argTypes := #[M, K] }) (ht : o.type = 0) (hm : a.eval m = mv) (hk : a.eval x = kv) :
    (execOp a.eval o).run P w = .ok (.value (.tuple #[])) w' := by
  rw [← ht] at hr
  simp [execOp, ho, resolve, invoke, builtin, hm, hk, hr, Result.andThen]
end

theorem mapTab : MapT Try.prog 68 41 (.slice none 0 0) := ⟨⟨9, by kernel_rfl, by kernel_rfl⟩, by
  obtain ⟨i, h1, h2, h3, h4⟩ := info_parts (P := Try.prog) (e := 41) (z := .slice none 0 0) (size := 1) (bytes := 24) (by kernel_rfl)
  exact ⟨i, h1, h2⟩⟩
theorem elTChg : Elem Try.prog 35 51 3 48 := ⟨by kernel_rfl, by omega, by
  obtain ⟨i, h1, h2, h3, h4⟩ := info_parts (P := Try.prog) (e := 51) (z := .agg #[.string ⟨#[]⟩, .bool false, .slice none 0 0]) (size := 3) (bytes := 48) (by kernel_rfl)
  exact ⟨i, _, h1, h2, h3, h4, rfl⟩⟩

theorem table_up (w : World) (d tb : Nat) (S : List Nat) (T : TSt) (h : TAt w d tb S T) :
    Calls Try.prog 30 #[.pointer (some ⟨tb, 0, none⟩)] w fun e w' => e = .returned (.int .i64 (if T.down then 5 else 0)) ∧ w = w' := by
  obtain ⟨jb, mb, S0, rfl, _, hJ, hM, ht⟩ := h.ex
  have c : w.cell? ⟨tb, 2, none⟩ = some (.bool T.down) := by rw [cell_lit w tb 2 _ _ _ ht]; rfl
  clear ht h hJ hM
  cases hb : T.down <;> rw [hb] at c
  all_goals
    clear hb
    go_enter Try.func30, Try.ntmps30
    go_wp2
    go_ret
    exact ⟨rfl, rfl⟩
theorem table_up_nil (w : World) : Calls Try.prog 30 #[.pointer none] w fun e w' => e = .returned (.int .i64 2) ∧ w = w' := by
  go_enter Try.func30, Try.ntmps30
  go_wp2
  go_ret
  exact ⟨rfl, rfl⟩
theorem table_len (w : World) (d tb : Nat) (S : List Nat) (T : TSt) (h : TAt w d tb S T) :
    Calls Try.prog 21 #[.pointer (some ⟨tb, 0, none⟩)] w fun e w' => e = .returned (.int .i64 T.m.length) ∧ w = w' := by
  obtain ⟨jb, mb, S0, rfl, _, hJ, hM, ht⟩ := h.ex
  have c : w.cell? ⟨tb, 1, none⟩ = some (.map (some mb)) := by rw [cell_lit w tb 1 _ _ _ ht]; rfl
  obtain ⟨es, hW, hlen, _, _⟩ := hM.find
  clear ht h hJ hM
  rw [← hlen]
  clear hlen
  go_enter Try.func21, Try.ntmps21
  go_wp2_with ((with_reducible show wpList _ _ _ (⟨_, .call ⟨.builtin .len, _, _⟩, _, _, _, _⟩ :: _) _ _); refine wpl_len mapTab rfl rfl hW rfl ?_)
  go_ret
  exact ⟨rfl, rfl⟩
theorem table_len_nil (w : World) : Calls Try.prog 21 #[.pointer none] w fun e w' => e = .returned (.int .i64 0) ∧ w = w' := by
  go_enter Try.func21, Try.ntmps21
  go_wp2
  go_ret
  exact ⟨rfl, rfl⟩

/-- A value comes back in memory of the call's own, and whether there is one. -/
def GetPost (w : World) (v : Option (List UInt8)) (e : Ending) (w' : World) : Prop := ∃ x, e = .returned (.tuple #[x, .bool v.isSome]) ∧ OwnBy w' w.heap.size x (v.getD []) ∧ Upd [] w w'
theorem table_get (w : World) (d tb : Nat) (S : List Nat) (T : TSt) (h : TAt w d tb S T) (key : List UInt8) (hl : ((aget key T.m).getD []).length ≤ 1073741824) :
    Calls Try.prog 15 #[.pointer (some ⟨tb, 0, none⟩), encS key] w (GetPost w (aget key T.m)) := by
  obtain ⟨jb, mb, S0, rfl, _, hJ, hM, ht⟩ := h.ex
  have c : w.cell? ⟨tb, 1, none⟩ = some (.map (some mb)) := by rw [cell_lit w tb 1 _ _ _ ht]; rfl
  obtain ⟨es, hW, _, hsome, hby⟩ := hM.find
  have hs := hsome key
  have hb := hby key
  have hc := slices_clone w _ _ hb hl
  clear ht h hJ hM hsome hby hl
  generalize hv : (aget key es).getD (.slice none 0 0) = v at *
  generalize hq : (aget key T.m).isSome = q at *
  have HQ := Lib.hid hq; clear hq
  go_enter Try.func15, Try.ntmps15
  go_wp2_with (first
    | ((with_reducible show wpList _ _ _ (⟨_, .lookup _ _ _ _, _, _, _, _⟩ :: _) _ _); refine wpl_lookup_ok mapTab rfl rfl hW rfl key rfl _ hv q hs ?_)
    | (go_at_call 37; refine hc.mono ?_; rintro e w1 ⟨v1, rfl, hv1, hU1⟩))
  go_ret2
  exact ⟨v1, by rw [HQ.out]; rfl, hv1, hU1⟩
theorem table_get_nil (w : World) (key : List UInt8) : Calls Try.prog 15 #[.pointer none, encS key] w fun e w' => e = .returned (.tuple #[.slice none 0 0, .bool false]) ∧ w = w' := by
  go_enter Try.func15, Try.ntmps15
  go_wp2
  go_ret2
  exact ⟨rfl, rfl⟩

def TdoRel (w : World) (mb : Nat) (m : List (List UInt8 × List UInt8)) (l : List TChg) (x : Value) (wr : World) : Prop := ∃ i : Nat, x = .int .i64 i ∧ i ≤ l.length ∧ Upd [mb] w wr ∧ MapB wr mb (tdo m (l.take i))
set_option maxRecDepth 100000 in
set_option maxHeartbeats 1000000 in
theorem table_do (w : World) (tb jb mb : Nat) (m : List (List UInt8 × List UInt8)) (q : Value) (hM : MapB w mb m) (ht : w.heap[tb]? = some (.cells #[.pointer (some ⟨jb, 0, none⟩), .map (some mb), q] 78 (0, 0))) (lv : Value) (l : List TChg) (hc : Chgs w lv l)
    (hl : l.length ≤ 1000000000) (hvl : ∀ c ∈ l, c.val.length ≤ 1073741824) :
    Calls Try.prog 29 #[.pointer (some ⟨tb, 0, none⟩), lv] w fun e w' => e = .returned (.tuple #[]) ∧ Upd [mb] w w' ∧ MapB w' mb (tdo m l) := by
  obtain ⟨cells, hR, hT⟩ := hc
  obtain ⟨ao, cap, rfl, _⟩ := hR.shape
  have c1 : w.cell? ⟨tb, 1, none⟩ = some (.map (some mb)) := by rw [cell_lit w tb 1 _ _ _ ht]; rfl
  have htm : tb ∉ [mb] := by simp; exact (hM.ne_cells ht).symm
  have off8 : Off w 5 [mb] := hM.off (Off.nil _ _)
  have offc : Off w 51 [mb] := hM.off (Off.nil _ _)
  have HL := Lib.hid hl; have HV := Lib.hid hvl; have HT := Lib.hid hT; have HR := Lib.hid hR
  clear hl hvl hT hR ht
  go_enter Try.func29, Try.ntmps29
  go_wp2_with fail
  go_loopw [8] (fun x wr => TdoRel w mb m l x wr) (fun x _ => l.length - (intOf x).toNat)
  case atStart => exact ⟨0, rfl, Nat.zero_le _, Upd.refl _ _, hM⟩
  case round =>
    obtain ⟨i, rfl, hi, hU, hMr⟩ := hrel
    have hll := HL.out
    by_cases hlt : i < l.length
    · have htt : decide ((i : Int) < (l.length : Int)) = true := by simp; omega
      obtain ⟨c, hci⟩ : ∃ c, l[i]? = some c := ⟨_, List.getElem?_eq_getElem hlt⟩
      obtain ⟨pv, g0, g1, g2, hpv⟩ := HT.out.get hci
      have hpr : By wr pv c.val := hpv.upd hU off8
      have hcv : c.val.length ≤ 1073741824 := HV.out c (List.mem_of_getElem? hci)
      obtain ⟨ap, cp, hsp⟩ := By.val hpr
      subst hsp
      have hRr : Rd wr 51 3 (.slice ao l.length cap) l.length cells := HR.out.upd hU offc
      have hwn : wr.heap.size ∉ [mb] := by have := hMr.lt; simp; omega
      have HMS := Lib.hid (tdo_take_succ m l i c hci)
      have hnd := hMr.nodup
      obtain ⟨es, m', hW, hVa, hPm⟩ := hMr
      cases hg : c.gone with
      | true =>
        rw [hg] at g1
        have hUa : Upd [] wr (wr.alloc (Obj.cells #[encS c.key, .bool true, Value.slice ap c.val.length cp] 51)) := Upd.alloc [] _ _
        have hba := heap_alloc_new wr (Obj.cells #[encS c.key, .bool true, Value.slice ap c.val.length cp] 51)
        have b0 : (wr.alloc (Obj.cells #[encS c.key, .bool true, Value.slice ap c.val.length cp] 51)).cell? ⟨wr.heap.size, 0, none⟩ = some (encS c.key) := by rw [cell_lit _ _ 0 _ _ _ hba]; rfl
        have d1 := hUa.cell (hU.cell c1 htm) (by simp)
        have hUd : Upd [] wr (wr.alloc (Obj.cells #[encS c.key, .bool true, Value.slice ap c.val.length cp] 51)).drew := hUa.trans0 (Upd.drew [] _)
        have hW1 := hW.upd hUd (by simp)
        have hV1 := hVa.upd hUd (Off.nil _ _)
        obtain ⟨w2, hr2, hW2, hU2⟩ := run_delete_s (P := Try.prog) (ty := 0) (K := 9) mapTab hW1 c.key
        have HFIN := Lib.hid (show TdoRel w mb m l (.int .i64 ((i + 1 : Nat) : Int)) w2 from ⟨i + 1, rfl, hlt, hU.trans ((hUd.mono (T := [mb]) (by simp)).trans hU2 (fun j hj _ => hj)) (fun j hj _ => hj), by
          rw [HMS.out]
          have := MapB.del hV1 hPm hnd hW2 hU2 (hW1.off (Off.nil _ _))
          unfold tdo1; rw [hg]; exact this⟩)
        clear hg hW2 hV1 hVa hW hW1 hUd hpv hba hci hi
        go_wp2_with ((with_reducible show wpList _ _ _ (⟨_, .indexAddr _ _ _, _, _, _, _⟩ :: _) _ _); refine wpl_indexAddr elTChg rfl rfl hRr rfl rfl (by omega) (by omega) ?_; intro ad hcell hspot; (have k0 := hcell 0 (by omega)); (have k1 := hcell 1 (by omega)); (have k2 := hcell 2 (by omega)); rw [Int.toNat_natCast, g0] at k0; rw [Int.toNat_natCast, g1] at k1; rw [Int.toNat_natCast, g2] at k2; clear hcell; obtain ⟨gb, gof, gs⟩ := ad; cases hspot; simp only [Addr.add_lit, Nat.add_zero] at k0 k1 k2)
        go_region_held3 (fun W => W.cell? ⟨tb, 1, none⟩ = some (.map (some mb)) ∧ W.cell? ⟨wr.heap.size, 0, none⟩ = some (encS c.key))
          (first | go_keep | exact ⟨hU2.cell d1 htm, hU2.cell b0 hwn⟩)
          ((refine step_run rfl (run_delete_op hr2 rfl rfl rfl rfl) ?_))
        go_wp2_with fail
        go_roundw
        case rel => have h := HFIN.out; rw [show (((i + 1 : Nat) : Int)) = (i : Int) + 1 from by omega] at h; exact h
        case measure => simp [intOf]; omega
      | false =>
        rw [hg] at g1
        have hUa : Upd [] wr (wr.alloc (Obj.cells #[encS c.key, .bool false, Value.slice ap c.val.length cp] 51)) := Upd.alloc [] _ _
        have hba := heap_alloc_new wr (Obj.cells #[encS c.key, .bool false, Value.slice ap c.val.length cp] 51)
        have b0 : (wr.alloc (Obj.cells #[encS c.key, .bool false, Value.slice ap c.val.length cp] 51)).cell? ⟨wr.heap.size, 0, none⟩ = some (encS c.key) := by rw [cell_lit _ _ 0 _ _ _ hba]; rfl
        have b2 : (wr.alloc (Obj.cells #[encS c.key, .bool false, Value.slice ap c.val.length cp] 51)).cell? ⟨wr.heap.size, 2, none⟩ = some (Value.slice ap c.val.length cp) := by rw [cell_lit _ _ 2 _ _ _ hba]; rfl
        have d1 := hUa.cell (hU.cell c1 htm) (by simp)
        have hUd : Upd [] wr (wr.alloc (Obj.cells #[encS c.key, .bool false, Value.slice ap c.val.length cp] 51)).drew := hUa.trans0 (Upd.drew [] _)
        have hW1 := hW.upd hUd (by simp)
        have hV1 := hVa.upd hUd (Off.nil _ _)
        have hcl := slices_clone (wr.alloc (Obj.cells #[encS c.key, .bool false, Value.slice ap c.val.length cp] 51)).drew _ c.val (hpr.upd0 hUd) hcv
        have HFIN := Lib.hid (fun (v3 : Value) (w3 w4 : World) (hU3 : Upd [] (wr.alloc (Obj.cells #[encS c.key, .bool false, Value.slice ap c.val.length cp] 51)).drew w3) (hv3 : By w3 v3 c.val) (hW4 : MapW w4 mb (aput c.key v3 es)) (hU4 : Upd [mb] w3 w4) => show TdoRel w mb m l (.int .i64 ((i + 1 : Nat) : Int)) w4 from ⟨i + 1, rfl, hlt, hU.trans (((hUd.trans0 hU3).mono (T := [mb]) (by simp)).trans hU4 (fun j hj _ => hj)) (fun j hj _ => hj), by
          rw [HMS.out]
          have := MapB.put (hV1.upd hU3 (Off.nil _ _)) hPm hnd hv3 hW4 hU4 ((hW1.upd hU3 (by simp)).off (Off.nil _ _))
          unfold tdo1; rw [hg]; exact this⟩)
        have HW1 := Lib.hid hW1
        clear hg hV1 hVa hW hW1 hUd hpv hba hci hi hcv hll
        go_wp2_with ((with_reducible show wpList _ _ _ (⟨_, .indexAddr _ _ _, _, _, _, _⟩ :: _) _ _); refine wpl_indexAddr elTChg rfl rfl hRr rfl rfl (by omega) (by omega) ?_; intro ad hcell hspot; (have k0 := hcell 0 (by omega)); (have k1 := hcell 1 (by omega)); (have k2 := hcell 2 (by omega)); rw [Int.toNat_natCast, g0] at k0; rw [Int.toNat_natCast, g1] at k1; rw [Int.toNat_natCast, g2] at k2; clear hcell; obtain ⟨gb, gof, gs⟩ := ad; cases hspot; simp only [Addr.add_lit, Nat.add_zero] at k0 k1 k2)
        go_region_held3 (fun W => W.cell? ⟨tb, 1, none⟩ = some (.map (some mb)) ∧ W.cell? ⟨wr.heap.size, 0, none⟩ = some (encS c.key) ∧ W.cell? ⟨wr.heap.size, 2, none⟩ = some (Value.slice ap c.val.length cp))
          (first | go_keep | exact ⟨hU4.cell (hU3.cell d1 (by simp)) htm, hU4.cell (hU3.cell b0 (by simp)) hwn, hU4.cell (hU3.cell b2 (by simp)) hwn⟩ | exact ⟨hU3.cell d1 (by simp), hU3.cell b0 (by simp), hU3.cell b2 (by simp)⟩)
          ((go_at_call 37; refine hcl.mono ?_; rintro e w3 ⟨v3, rfl, hv3, hU3⟩; obtain ⟨w4, hr4, hW4, hU4⟩ := run_mapUpdate_s (P := Try.prog) mapTab (HW1.out.upd hU3 (by simp)) c.key v3))
        have hll := HL.out
        go_wp2_with fail
        go_roundw
        case rel => have h := HFIN.out v3 _ w4 hU3 hv3.by hW4 hU4; rw [show (((i + 1 : Nat) : Int)) = (i : Int) + 1 from by omega] at h; exact h
        case measure => simp [intOf]; omega
    · have htt : decide ((i : Int) < (l.length : Int)) = false := by simp; omega
      have hie : i = l.length := by omega
      go_wp2_with fail
      go_end0
      rw [hie, List.take_length] at hMr
      exact ⟨rfl, hU, hMr⟩
end Go.Proofs.Ythfbfdkjgkkpcaa

namespace Go.Proofs.Ythfbfdkjgkkpcaa
open Go Go.RowKit

/-- Does the key begin with head, behind after? -/
def okKey (head after k : List UInt8) : Bool := head.isPrefixOf k && decide (after < k)
def keysGo (head after : List UInt8) (most : Int) (out : List (List UInt8)) : List (List UInt8) → List (List UInt8)
  | [] => out
  | k :: r => if most ≤ out.length then out else if okKey head after k then keysGo head after most (out ++ [k]) r else keysGo head after most out r
theorem ext_take (k : List UInt8) (n : Nat) : ((⟨k.toArray⟩ : ByteArray).extract 0 n).toList = k.take n := by
  rw [ByteArray.toList_eq]
  simp [ByteArray.data_extract]
theorem gt_lex {k after : List UInt8} : ((!Op.bytesLess k after) = true ∧ (!k == after) = true) ↔ after < k := by
  rw [bytesLess_eq]
  simp only [Bool.not_eq_true', decide_eq_false_iff_not, beq_eq_false_iff_ne, ne_eq]
  constructor
  · rintro ⟨h1, h2⟩
    rcases Decidable.em (after < k) with h | h
    · exact h
    · exact absurd (List.le_antisymm (List.not_lt.1 h) (List.not_lt.1 h1)) h2
  · intro h
    exact ⟨fun h1 => List.lt_irrefl _ (List.lt_trans h h1), fun h1 => by subst h1; exact List.lt_irrefl _ h⟩
theorem prefix_take {head k : List UInt8} : head.isPrefixOf k = true ↔ head.length ≤ k.length ∧ k.take head.length = head := by
  rw [List.isPrefixOf_iff_prefix]
  constructor
  · rintro ⟨t, rfl⟩
    simp
  · rintro ⟨_, h⟩
    exact ⟨k.drop head.length, by have := List.take_append_drop head.length k; rw [h] at this; exact this⟩
theorem ok_yes {head after k : List UInt8} (h1 : head.length ≤ k.length) (h2 : ((⟨k.toArray⟩ : ByteArray).extract 0 head.length).toList = head) (h3 : (!Op.bytesLess k after) = true ∧ (!k == after) = true) : okKey head after k = true := by
  unfold okKey
  rw [Bool.and_eq_true, prefix_take, decide_eq_true_iff, ← gt_lex]
  exact ⟨⟨h1, by rw [← ext_take]; exact h2⟩, h3⟩
theorem ok_no {head after k : List UInt8} (h : ¬ (head.length ≤ k.length ∧ ((⟨k.toArray⟩ : ByteArray).extract 0 head.length).toList = head ∧ ((!Op.bytesLess k after) = true ∧ (!k == after) = true))) : okKey head after k = false := by
  cases hc : okKey head after k with
  | false => rfl
  | true =>
    unfold okKey at hc
    rw [Bool.and_eq_true, prefix_take, decide_eq_true_iff, ← gt_lex] at hc
    exact absurd ⟨hc.1.1, by rw [ext_take]; exact hc.1.2, hc.2⟩ h
theorem ok_no1 {head after k : List UInt8} (h : ¬ head.length ≤ k.length) : okKey head after k = false := ok_no (fun h' => h h'.1)
theorem ok_no2 {head after k : List UInt8} (h : ¬ ((⟨k.toArray⟩ : ByteArray).extract 0 head.length).toList = head) : okKey head after k = false := ok_no (fun h' => h h'.2.1)
theorem ok_no3 {head after k : List UInt8} (h : (!Op.bytesLess k after) = false ∨ (!k == after) = false) : okKey head after k = false := ok_no (fun h' => by
  rcases h with h | h
  · rw [h] at h'; exact absurd h'.2.2.1 (by simp)
  · rw [h] at h'; exact absurd h'.2.2.2 (by simp))
theorem elStr : Elem Try.prog 38 9 1 16 := ⟨by kernel_rfl, by omega, by
  obtain ⟨i, h1, h2, h3, h4⟩ := info_parts (P := Try.prog) (e := 9) (z := .string ⟨#[]⟩) (size := 1) (bytes := 16) (by kernel_rfl)
  exact ⟨i, _, h1, h2, h3, h4, rfl⟩⟩
def KeysPost (w : World) (r : List (List UInt8)) (e : Ending) (w' : World) : Prop := ∃ v, e = .returned v ∧ w'.ownsRow w.heap.size 9 1 v r.length (r.map encS) ∧ Upd [] w w'
def KeysRel (w : World) (ks : List (List UInt8)) (head after : List UInt8) (most : Int) (x out : Value) (wr : World) : Prop :=
  ∃ (i : Nat) (o : List (List UInt8)), x = .int .i64 i ∧ i ≤ ks.length ∧ o.length ≤ i ∧ Upd [] w wr ∧ wr.ownsRow w.heap.size 9 1 out o.length (o.map encS) ∧ keysGo head after most [] ks = keysGo head after most o (ks.drop i)

set_option maxRecDepth 100000 in
set_option maxHeartbeats 1000000 in
theorem table_keys (w : World) (d tb : Nat) (S : List Nat) (T : TSt) (h : TAt w d tb S T) (head after : List UInt8) (most : Int) (hk : ∀ p ∈ T.m, p.1.length ≤ maxLen) (hn : T.m.length ≤ 1000000000) (hh : head.length ≤ maxLen) (hm : most ≤ 9223372036854775807) :
    Calls Try.prog 13 #[.pointer (some ⟨tb, 0, none⟩), encS head, encS after, .int .i64 most] w (KeysPost w (keysGo head after most [] (sortK T.m))) := by
  obtain ⟨jb, mb, S0, hS, hmb, hJ, hM, ht⟩ := h.ex
  have c1 : w.cell? ⟨tb, 1, none⟩ = some (.map (some mb)) := by rw [cell_lit w tb 1 _ _ _ ht]; rfl
  have hK := maps_keys w mb
  have hSo := sorted_keys w mb T.m hM hk hn
  have hlen : (sortK T.m).length = T.m.length := by unfold sortK; simp
  generalize sortK T.m = ks at *
  rw [← hlen] at hSo hn
  have HN := Lib.hid hn; have HH := Lib.hid hh; have HMO := Lib.hid hm
  clear hK hJ hM ht h hk hn hh hm hlen hS
  have hK := maps_keys w mb
  go_enter Try.func13, Try.ntmps13
  go_wp2_with (first
    | (go_at_call 35; refine hK.mono ?_; rintro e w1 ⟨rfl, rfl⟩)
    | (go_at_call 34; refine hSo.mono ?_; rintro e w1 ⟨v1, rfl, hv1, hU1⟩; obtain ⟨ao1, cap1, hs1, _⟩ := (Rd.of_own hv1).shape; subst hs1; (have hU2 : Upd [] w w1 := (Upd.alloc [] _ _).trans0 hU1)))
  go_loopw [21, 9] (fun x v wr => KeysRel w1 ks head after most x v wr) (fun x _ _ => ks.length - (intOf x).toNat)
  case atStart => exact ⟨0, [], rfl, Nat.zero_le _, Nat.zero_le _, Upd.refl _ _, World.ownsRow_nil _ _ _ _, rfl⟩
  case round =>
    obtain ⟨i, o, rfl, hi, ho, hU, hown, hkg⟩ := hrel
    have hll := HN.out
    by_cases hlt : i < ks.length
    · have htt : decide ((i : Int) < (ks.length : Int)) = true := by simp; omega
      obtain ⟨k, hki⟩ : ∃ k, ks[i]? = some k := ⟨_, List.getElem?_eq_getElem hlt⟩
      have hR : Rd wr 9 1 (.slice ao1 ks.length cap1) ks.length (ks.map encS) := (Rd.of_own hv1).upd0 hU
      have hku : (ks.map encS)[(i : Int).toNat]? = some (encS k) := by simp [hki]
      obtain ⟨ao9, cap9, hs9, _⟩ := (Rd.of_own hown).shape
      subst hs9
      have hstep : keysGo head after most o (ks.drop i) = if most ≤ o.length then o else if okKey head after k then keysGo head after most (o ++ [k]) (ks.drop (i + 1)) else keysGo head after most o (ks.drop (i + 1)) := by
        rw [List.drop_eq_getElem_cons hlt, (List.getElem?_eq_some_iff.1 hki).2]
        rfl
      rw [hstep] at hkg
      have HKG := Lib.hid hkg; have HO := Lib.hid hown
      clear hkg hown hstep hki
      by_cases hmo : most ≤ o.length
      · have hmt : decide (most ≤ (o.length : Int)) = true := by simpa using hmo
        have HF := Lib.hid (show KeysPost w (keysGo head after most [] ks) (.returned (.slice ao9 o.length cap9)) wr from by
          rw [HKG.out, if_pos hmo]
          exact ⟨_, rfl, Own.mono HO.out hU2.size, hU2.trans0 hU⟩)
        clear hmo
        go_wp2_with ((with_reducible show wpList _ _ _ (⟨_, .indexAddr _ _ _, _, _, _, _⟩ :: _) _ _); refine wpl_indexAddr1 elStr rfl rfl hR rfl rfl (by omega) (by omega) _ hku ?_; intro ad hcell)
        go_ret
        exact HF.out
      · have hmt : decide (most ≤ (o.length : Int)) = false := by simpa using hmo
        have HMO' := Lib.hid hmo
        clear hmo
        have HNO := Lib.hid (fun (hok : okKey head after k = false) => show KeysRel w1 ks head after most (.int .i64 ((i : Int) + 1)) (.slice ao9 o.length cap9) wr from ⟨i + 1, o, by simp, hlt, by omega, hU, HO.out, by rw [HKG.out, if_neg HMO'.out, hok]; rfl⟩)
        have HYES := Lib.hid (fun (hok : okKey head after k = true) (v' : Value) (w' : World) (ho' : w'.ownsRow w1.heap.size 9 1 v' (o.length + 1) (o.map encS ++ [encS k])) (hU' : Upd [] w1 w') => show KeysRel w1 ks head after most (.int .i64 ((i : Int) + 1)) v' w' from ⟨i + 1, o ++ [k], by simp, hlt, by simp; omega, hU', by simpa using ho', by rw [HKG.out, if_neg HMO'.out, hok]; rfl⟩)
        have hol : o.length + 1 ≤ 1000000001 := by omega
        have HOL := Lib.hid hol
        clear hol
        go_wp2_with (first
          | ((with_reducible show wpList _ _ _ (⟨_, .indexAddr _ _ _, _, _, _, _⟩ :: _) _ _); refine wpl_indexAddr1 elStr rfl rfl hR rfl rfl (by omega) (by omega) _ hku ?_; intro ad hcell)
          | ((with_reducible show wpList _ _ _ (⟨_, .buildSlice _ _ _, _, _, _, _⟩ :: _) _ _); (have hok : okKey head after k = true := ok_yes (by assumption) (by assumption) (by assumption)); refine wpl_lit elStr rfl rfl rfl (cs := [encS k]) rfl rfl (by omega) ?_; intro v5 w5 hv5 hU5 _)
          | ((with_reducible show wpList _ _ _ (⟨_, .call ⟨.builtin .append, _, _⟩, _, _, _, _⟩ :: _) _ _); refine wpl_append elStr rfl rfl (Own.upd0 HO.out hU5) rfl (Rd.of_own hv5) rfl (by intro u hu; simp at hu; subst hu; rfl) (by have := HOL.out; unfold maxLen; omega) (by have := HOL.out; omega) (hU.trans0 hU5).size ?_; intro v6 w6 hv6 hg6 _))
        all_goals try (first | exact ⟨HNO.out (ok_no1 (by assumption)), by simp [intOf]; omega⟩ | exact ⟨HNO.out (ok_no2 (by assumption)), by simp [intOf]; omega⟩ | exact ⟨HNO.out (ok_no3 (by assumption)), by simp [intOf]; omega⟩)
        exact ⟨HYES.out hok v6 w6 hv6 ((hU.trans0 hU5).own (Own.upd0 HO.out hU5) hg6), by simp [intOf]; omega⟩
    · have htt : decide ((i : Int) < (ks.length : Int)) = false := by simp; omega
      have hie : i = ks.length := by omega
      have HF := Lib.hid (show KeysPost w (keysGo head after most [] ks) (.returned u9) wr from by
        rw [hkg, hie, List.drop_length]
        exact ⟨_, rfl, Own.mono hown hU2.size, hU2.trans0 hU⟩)
      clear hkg hown
      go_wp2_with fail
      go_ret
      exact HF.out
theorem table_keys_nil (w : World) (head after : List UInt8) (most : Int) : Calls Try.prog 13 #[.pointer none, encS head, encS after, .int .i64 most] w fun e w' => e = .returned (.slice none 0 0) ∧ w = w' := by
  go_enter Try.func13, Try.ntmps13
  go_wp2
  go_ret
  exact ⟨rfl, rfl⟩
end Go.Proofs.Ythfbfdkjgkkpcaa

namespace Go.Proofs.Ythfbfdkjgkkpcaa

/-- In order by key, each key once. -/
def Srt (l : List (List UInt8 × List UInt8)) : Prop := l.Pairwise (fun p q => p.1 < q.1)
/-- How many pairs stand before a key. -/
def pfind (k : List UInt8) : List (List UInt8 × List UInt8) → Nat
  | [] => 0
  | p :: r => if p.1 < k then pfind k r + 1 else 0
def pdo1 (l : List (List UInt8 × List UInt8)) (c : TChg) : List (List UInt8 × List UInt8) :=
  l.take (pfind c.key l) ++ (if c.gone then [] else [(c.key, c.val)]) ++ fdel c.key (l.drop (pfind c.key l))
theorem pfind_le (k : List UInt8) : ∀ l : List (List UInt8 × List UInt8), pfind k l ≤ l.length
  | [] => Nat.le_refl _
  | p :: r => by
    unfold pfind
    split
    · simpa using pfind_le k r
    · simp
theorem pfind_lt (k : List UInt8) : ∀ (l : List (List UInt8 × List UInt8)) (i : Nat) (p : List UInt8 × List UInt8), i < pfind k l → l[i]? = some p → p.1 < k
  | [], i, p, h, _ => by simp [pfind] at h
  | q :: r, i, p, h, hi => by
    unfold pfind at h
    split at h
    · rename_i hq
      cases i with
      | zero => simp at hi; subst hi; exact hq
      | succ i => exact pfind_lt k r i p (by omega) (by simpa using hi)
    · omega
theorem pfind_ge (k : List UInt8) : ∀ (l : List (List UInt8 × List UInt8)) (p : List UInt8 × List UInt8), l[pfind k l]? = some p → ¬ p.1 < k
  | [], p, h => by simp [pfind] at h
  | q :: r, p, h => by
    by_cases hq : q.1 < k
    · simp only [pfind, if_pos hq, List.getElem?_cons_succ] at h
      exact pfind_ge k r p h
    · simp only [pfind, if_neg hq, List.getElem?_cons_zero, Option.some.injEq] at h
      subst h; exact hq
theorem pfind_next {k : List UInt8} {l : List (List UInt8 × List UInt8)} {i : Nat} {p : List UInt8 × List UInt8} (h : i ≤ pfind k l) (hp : l[i]? = some p) (hlt : p.1 < k) : i + 1 ≤ pfind k l := by
  rcases Nat.lt_or_ge i (pfind k l) with h1 | h1
  · exact h1
  · obtain rfl : i = pfind k l := by omega
    exact absurd hlt (pfind_ge k l p hp)
theorem pfind_stop {k : List UInt8} {l : List (List UInt8 × List UInt8)} {i : Nat} {p : List UInt8 × List UInt8} (h : i ≤ pfind k l) (hp : l[i]? = some p) (hn : ¬ p.1 < k) : i = pfind k l := by
  rcases Nat.lt_or_ge i (pfind k l) with h1 | h1
  · exact absurd (pfind_lt k l i p h1 hp) hn
  · omega
theorem fins_head (q : List UInt8 × List UInt8) (l : List (List UInt8 × List UInt8)) (h : ∀ p ∈ l, q.1 < p.1) : fins q l = q :: l := by
  cases l with
  | nil => rfl
  | cons p r => unfold fins; rw [if_pos (h p (by simp))]
theorem fdel_mem {k : List UInt8} {l : List (List UInt8 × List UInt8)} {p : List UInt8 × List UInt8} (h : p ∈ fdel k l) : p ∈ l ∧ p.1 ≠ k := by
  rw [fdel_eq_filter, List.mem_filter] at h
  exact ⟨h.1, by simpa using h.2⟩
theorem Srt.fdel {l : List (List UInt8 × List UInt8)} (h : Srt l) (k : List UInt8) : Srt (fdel k l) := by
  unfold Srt; rw [fdel_eq_filter]; exact List.Pairwise.filter _ h
theorem Srt.fins {l : List (List UInt8 × List UInt8)} (h : Srt l) (q : List UInt8 × List UInt8) (hq : ∀ p ∈ l, p.1 ≠ q.1) : Srt (fins q l) := by
  induction l with
  | nil => simp [Go.Proofs.Ythfbfdkjgkkpcaa.fins, Srt]
  | cons p r ih =>
    unfold Srt at h
    rw [List.pairwise_cons] at h
    unfold Go.Proofs.Ythfbfdkjgkkpcaa.fins
    split
    · rename_i hlt
      refine List.pairwise_cons.2 ⟨?_, List.pairwise_cons.2 h⟩
      intro x hx
      rcases List.mem_cons.1 hx with rfl | hx
      · exact hlt
      · exact List.lt_trans hlt (h.1 x hx)
    · rename_i hlt
      refine List.pairwise_cons.2 ⟨?_, ih h.2 (fun x hx => hq x (by simp [hx]))⟩
      intro x hx
      rcases List.mem_cons.1 ((fins_perm q r).mem_iff.1 hx) with rfl | hx
      · rcases Decidable.em (p.1 < x.1) with h1 | h1
        · exact h1
        · exact absurd (List.le_antisymm (List.not_lt.1 hlt) (List.not_lt.1 h1)) (hq p (by simp))
      · exact h.1 x hx
theorem Srt.tdo1 {l : List (List UInt8 × List UInt8)} (h : Srt l) (c : TChg) : Srt (tdo1 l c) := by
  unfold Go.Proofs.Ythfbfdkjgkkpcaa.tdo1
  split
  · exact h.fdel _
  · exact (h.fdel _).fins _ (fun p hp => (fdel_mem hp).2)
theorem Srt.tdo {l : List (List UInt8 × List UInt8)} (h : Srt l) (cs : List TChg) : Srt (tdo l cs) := by
  unfold Go.Proofs.Ythfbfdkjgkkpcaa.tdo
  induction cs generalizing l with
  | nil => exact h
  | cons c r ih => exact ih (h.tdo1 c)
theorem Srt.nil : Srt [] := List.Pairwise.nil
theorem Srt.nodup {l : List (List UInt8 × List UInt8)} (h : Srt l) : (l.map (·.1)).Nodup := by
  rw [List.nodup_iff_pairwise_ne, List.pairwise_map]
  unfold Srt at h
  refine List.Pairwise.imp ?_ h
  intro p q hlt he
  rw [he] at hlt
  exact List.lt_irrefl _ hlt
theorem pdo1_eq {l : List (List UInt8 × List UInt8)} (h : Srt l) (c : TChg) : pdo1 l c = tdo1 l c := by
  induction l with
  | nil => unfold pdo1 tdo1; cases c.gone <;> rfl
  | cons p r ih =>
    unfold Srt at h
    rw [List.pairwise_cons] at h
    have ih := ih h.2
    unfold pdo1 tdo1 at ih ⊢
    by_cases hlt : p.1 < c.key
    · have hne : p.1 ≠ c.key := fun e => List.lt_irrefl _ (e ▸ hlt)
      simp only [pfind, if_pos hlt, List.take_succ_cons, List.drop_succ_cons, List.cons_append, ih]
      split
      · simp only [fdel, if_neg hne]
      · have hn : ¬ c.key < p.1 := fun h2 => List.lt_irrefl _ (List.lt_trans hlt h2)
        simp only [fput, fdel, if_neg hne]
        rw [fins, if_neg hn]
    · simp only [pfind, if_neg hlt, List.take_zero, List.nil_append, List.drop_zero]
      cases c.gone
      · simp only [Bool.false_eq_true, if_false, List.singleton_append]
        unfold fput
        rw [fins_head]
        intro q hq
        obtain ⟨hq1, hq2⟩ := fdel_mem hq
        have hle : c.key ≤ q.1 := by
          rcases List.mem_cons.1 hq1 with rfl | hm
          · exact List.not_lt.1 hlt
          · exact List.not_lt.1 (fun h2 => hlt (List.lt_trans (h.1 q hm) h2))
        rcases Decidable.em (c.key < q.1) with h1 | h1
        · exact h1
        · exact absurd (List.le_antisymm (List.not_lt.1 h1) hle) hq2
      · simp
/-- A key and its value are where Find says. -/
theorem pfind_aget {l : List (List UInt8 × List UInt8)} (h : Srt l) (k : List UInt8) : aget k l = (match l[pfind k l]? with | some p => if p.1 = k then some p.2 else none | none => none) := by
  induction l with
  | nil => rfl
  | cons p r ih =>
    unfold Srt at h
    rw [List.pairwise_cons] at h
    have ih := ih h.2
    by_cases hlt : p.1 < k
    · have hne : p.1 ≠ k := fun e => List.lt_irrefl _ (e ▸ hlt)
      simp only [pfind, if_pos hlt, List.getElem?_cons_succ, aget, if_neg hne, ih]
    · simp only [pfind, if_neg hlt, List.getElem?_cons_zero, aget]
      by_cases he : p.1 = k
      · simp [he]
      · simp only [if_neg he]
        rw [aget_none]
        intro hm
        obtain ⟨q, hq, rfl⟩ := List.mem_map.1 hm
        exact hlt (h.1 q hq)
theorem sortK_srt {l : List (List UInt8 × List UInt8)} (h : Srt l) : sortK l = l.map (·.1) := by
  unfold sortK
  refine List.mergeSort_of_pairwise ?_
  rw [List.pairwise_map]
  unfold Srt at h
  refine List.Pairwise.imp ?_ h
  intro p q hlt
  unfold leK
  rw [decide_eq_true_iff]
  exact List.not_lt.1 (fun h2 => List.lt_irrefl _ (List.lt_trans hlt h2))
/-- All keys. -/
theorem keysGo_all : ∀ (ks o : List (List UInt8)) (n : Nat), (∀ k ∈ ks, k ≠ []) → o.length + ks.length ≤ n → keysGo [] [] n o ks = o ++ ks
  | [], o, n, _, _ => by simp [keysGo]
  | k :: r, o, n, h, hn => by
    simp only [List.length_cons] at hn
    have hk : k ≠ [] := h k (by simp)
    have hok : okKey [] [] k = true := by
      unfold okKey
      cases k with
      | nil => exact absurd rfl hk
      | cons a b => simp [List.isPrefixOf]
    rw [keysGo, if_neg (by omega), hok, if_pos rfl, keysGo_all r (o ++ [k]) n (fun x hx => h x (by simp [hx])) (by simp; omega)]
    simp
/-- Keys that are not empty stay so. -/
theorem tdo_keys {l : List (List UInt8 × List UInt8)} {cs : List TChg} (Q : List UInt8 × List UInt8 → Prop) (h : ∀ p ∈ l, Q p) (hc : ∀ c ∈ cs, Q (c.key, c.val)) : ∀ p ∈ tdo l cs, Q p := by
  unfold tdo
  induction cs generalizing l with
  | nil => exact h
  | cons c r ih =>
    refine ih ?_ (fun c' hc' => hc c' (by simp [hc']))
    intro p hp
    unfold tdo1 at hp
    split at hp
    · exact h p (fdel_mem hp).1
    · rcases List.mem_cons.1 ((fput_perm _ _ _).mem_iff.1 hp) with rfl | hm
      · exact hc c (by simp)
      · exact h p (fdel_mem hm).1
theorem tdo_length (cs : List TChg) : ∀ l : List (List UInt8 × List UInt8), (tdo l cs).length ≤ l.length + cs.length := by
  unfold tdo
  induction cs with
  | nil => intro l; simp
  | cons c r ih =>
    intro l
    have := ih (tdo1 l c)
    have h1 : (tdo1 l c).length ≤ l.length + 1 := by
      have hf : (fdel c.key l).length ≤ l.length := by rw [fdel_eq_filter]; exact List.length_filter_le _ _
      unfold tdo1
      split
      · omega
      · rw [(fput_perm _ _ _).length_eq]; simpa using hf
    simp only [List.foldl_cons, List.length_cons]
    omega
/-- What a record refuses: no change of a record that is made has an empty key. -/
theorem encGo_keys : ∀ (l : List TChg) (pre : List UInt8), (encGo pre l).2 = 0 → ∀ c ∈ l, c.key ≠ []
  | [], _, _, c, hc => by cases hc
  | a :: r, pre, h, c, hc => by
    unfold encGo at h
    split at h
    · simp at h
    · rename_i hb
      split at h
      · simp at h
      · rcases List.mem_cons.1 hc with rfl | hc
        · intro he
          apply hb
          unfold badChg
          simp [he]
        · exact encGo_keys r _ h c hc
theorem encB_keys {l : List TChg} (h : (encB l).2 = 0) : ∀ c ∈ l, c.key ≠ [] := by
  unfold encB at h
  split at h
  · simp at h
  · exact encGo_keys l _ h
/-- A record of small changes is short. -/
theorem encGo_small : ∀ (l : List TChg) (pre : List UInt8), (∀ c ∈ l, c.key.length ≤ 400 ∧ c.val.length ≤ 500) → (encGo pre l).1.length ≤ pre.length + 930 * l.length
  | [], pre, _ => by simp [encGo]
  | a :: r, pre, h => by
    have ha := h a (by simp)
    have hs : (encStep a).length ≤ 930 := by
      have h1 := countB_len10 (n := a.key.length) ⟨by omega⟩
      have h2 := countB_len10 (n := a.val.length) ⟨by omega⟩
      unfold encStep textB
      split <;> simp <;> omega
    unfold encGo
    split
    · simp
    split
    · simp
    · have := encGo_small r (pre ++ encStep a) (fun c hc => h c (by simp [hc]))
      simp only [List.length_append, List.length_cons] at this ⊢
      omega
theorem encB_small {l : List TChg} (h0 : l.length ≤ 40) (h : ∀ c ∈ l, c.key.length ≤ 400 ∧ c.val.length ≤ 500) : (encB l).1.length ≤ 37210 := by
  have h1 := countB_len10 (n := l.length) ⟨by omega⟩
  unfold encB
  split
  · simp
  · have := encGo_small l (countB l.length) h
    omega
end Go.Proofs.Ythfbfdkjgkkpcaa

namespace Go.Proofs.Ythfbfdkjgkkpcaa
open Go Go.RowKit

def convV (W : World) (l : List UInt8) : Value := .slice (some ⟨W.heap.size, 0, none⟩) l.length (grownCap W l.length 0 5)
def convW (W : World) (l : List UInt8) : World :=
  W.drew.alloc (.cells (bytesRow ⟨l.toArray⟩ (grownCap W l.length 0 5)) 5 ((bytesRow ⟨l.toArray⟩ (grownCap W l.length 0 5)).size, (bytesRow ⟨l.toArray⟩ (grownCap W l.length 0 5)).size + 1))
theorem conv_run (l : List UInt8) (W : World) : (convert 9 41 (encS l)).run Try.prog W = .ok (convV W l) (convW W l) := by
  have := run_bytes_of_string (P := Try.prog) W 9 41 5 ⟨l.toArray⟩ (by kernel_rfl) (by kernel_rfl) (by kernel_rfl)
  exact this
theorem conv_upd (W : World) (l : List UInt8) : Upd [] W (convW W l) := (Upd.drew [] _).trans0 (Upd.alloc [] _ _)
theorem conv_by (W : World) (l : List UInt8) (hl : l.length ≤ 1073741824) : By (convW W l) (convV W l) l := by
  have hcap : l.length ≤ grownCap W l.length 0 5 := grownCap_ge W _ _ _
  have hmax : grownCap W l.length 0 5 ≤ maxLen := grownCap_le_maxLen W _ _ _ (by unfold maxLen; omega)
  unfold convV convW
  generalize grownCap W l.length 0 5 = cap at *
  have hrow : (bytesRow ⟨l.toArray⟩ cap) = (l.map enc).toArray ++ Array.replicate (cap - l.length) (.int .u8 0) := by
    unfold bytesRow
    congr 1
    simp
  refine ⟨by simp, Nat.le_trans hcap hmax, .inr ⟨W.heap.size, 0, cap, bytesRow ⟨l.toArray⟩ cap, _, rfl, hcap, hmax, heap_alloc_new W.drew _, ?_, ?_⟩⟩
  · rw [hrow]; simp
  · rw [hrow]; simp
end Go.Proofs.Ythfbfdkjgkkpcaa

namespace Go.Proofs.Ythfbfdkjgkkpcaa
open Go Go.RowKit

theorem app_by {P : Program} {T ty : Nat} {w0 w : World} {v y : Value} {l l2 : List UInt8} (hE : Elem P T 5 1 1) (hown : OwnBy w w0.heap.size v l) (hR : By w y l2) (hU : Upd [] w0 w) (hb : l.length + l2.length ≤ 1073741824) :
    ∃ v' w', (Builtin.append_ #[T, T] ty #[v, y]).run P w = .ok v' w' ∧ OwnBy w' w0.heap.size v' (l ++ l2) ∧ Upd v.ownBlock.toList w w' ∧ Upd [] w0 w' ∧ (v'.ownBlock = v.ownBlock ∨ v'.ownBlock = some w.heap.size) := by
  obtain ⟨v', w', hr, h1, h2, h3⟩ := run_append_rd (ty := ty) hE hown hR (enc_oneCell l2) (by unfold maxLen; omega) (by omega) hU.size
  rw [← List.map_append, ← List.length_append] at h1
  have hU' : Upd v.ownBlock.toList w w' := Upd.grown h2 (fun k hk => by rw [hk]; simp)
  exact ⟨v', w', hr, h1, hU', hU.own hown hU', h3⟩
theorem ex_conv {a : Act} {x : Operand} (k : List UInt8) (W : World) (hx : a.eval x = encS k) {dst : Option Tmp} : ∀ ty pos after, (execOp a.eval (opr dst (.convert 9 41 x) ty pos after)).run Try.prog W = .ok (.value (convV W k)) (convW W k) := fun ty pos after => by
  simp [execOp, hx, conv_run k W, Result.andThen]
theorem ne_own {wa W : World} {k : Nat} {v2 u4 : Value} (h : v2.ownBlock = u4.ownBlock ∨ v2.ownBlock = some W.heap.size) (h4 : k ∉ u4.ownBlock.toList) (hlt : k < wa.heap.size) (hU : Upd [] wa W) : k ∉ v2.ownBlock.toList := by
  have hs := hU.size
  rcases h with h | h
  · rw [h]; exact h4
  · rw [h]; simp; omega
theorem away_conv {wr W : World} {k : List UInt8} {v : Value} (h : ∀ g, v.ownBlock = some g → g < wr.heap.size) (hU : Upd [] wr W) : Away (convV W k) v.ownBlock.toList := by
  intro g hg hm
  simp only [convV, Value.ownBlock, Option.some.injEq] at hg
  have h1 := h g (by simpa using hm)
  have h2 := hU.size
  omega

def EncPost (w : World) (l : List TChg) (e : Ending) (w' : World) : Prop := ∃ v, e = .returned (.tuple #[v, .int .i64 (encB l).2]) ∧ OwnBy w' w.heap.size v (encB l).1 ∧ Upd [] w w'
def EncRel (w : World) (l : List TChg) (x out : Value) (wr : World) : Prop := ∃ (i : Nat) (pre : List UInt8), x = .int .i64 i ∧ i ≤ l.length ∧ Upd [] w wr ∧ OwnBy wr w.heap.size out pre ∧ pre.length ≤ 1048568 ∧ encB l = encGo pre (l.drop i)

theorem textB_len (p : List UInt8) (h : p.length ≤ 1073741000) : (textB p).length ≤ p.length + 10 := by
  unfold textB
  have := countB_len10 (n := p.length) ⟨by omega⟩
  simp; omega
theorem encGo_cons (pre : List UInt8) (l : List TChg) (i : Nat) (c : TChg) (h : l[i]? = some c) : encGo pre (l.drop i) = if badChg c then ([], 1) else if 1048568 < (pre ++ encStep c).length then ([], 8) else encGo (pre ++ encStep c) (l.drop (i + 1)) := by
  have hi : i < l.length := (List.getElem?_eq_some_iff.1 h).1
  have hc : l[i] = c := (List.getElem?_eq_some_iff.1 h).2
  rw [List.drop_eq_getElem_cons hi, hc]
  rfl

theorem enc_big {w w6 : World} {l : List TChg} {pre q : List UInt8} {i : Nat} {c : TChg} (hE : encB l = if badChg c then ([], 1) else if 1048568 < (pre ++ encStep c).length then ([], 8) else encGo (pre ++ encStep c) (l.drop (i + 1))) (hb : badChg c = false)
    (hq : q = pre ++ encStep c) (hbig : 1048568 < q.length) (hU : Upd [] w w6) : EncPost w l (.returned (.tuple #[.slice none 0 0, .int .i64 8])) w6 := by
  rw [hb, ← hq, if_pos hbig] at hE
  unfold EncPost
  rw [hE]
  exact ⟨_, rfl, World.ownsRow_nil _ _ _ _, hU⟩
theorem enc_ok {w w6 : World} {l : List TChg} {pre q : List UInt8} {i : Nat} {c : TChg} {v : Value} (hE : encB l = if badChg c then ([], 1) else if 1048568 < (pre ++ encStep c).length then ([], 8) else encGo (pre ++ encStep c) (l.drop (i + 1))) (hb : badChg c = false)
    (hq : q = pre ++ encStep c) (hbig : ¬ 1048568 < q.length) (hU : Upd [] w w6) (hi : i < l.length) (hown : OwnBy w6 w.heap.size v q) : EncRel w l (.int .i64 ((i : Int) + 1)) v w6 := by
  rw [hb, ← hq, if_neg hbig] at hE
  exact ⟨i + 1, q, by simp, hi, hU, hown, by omega, hE⟩

set_option maxRecDepth 100000 in
set_option maxHeartbeats 4000000 in
theorem table_encode (w : World) (lv : Value) (l : List TChg) (hc : Chgs w lv l) (hll : l.length ≤ 1000000000) :
    Calls Try.prog 19 #[lv] w (EncPost w l) := by
  obtain ⟨cells, hR, hT⟩ := hc
  obtain ⟨ao, cap, rfl, _⟩ := hR.shape
  have HT := Lib.hid hT; have HR := Lib.hid hR
  clear hT hR
  by_cases h256 : 256 < l.length
  · have h1 : decide ((256 : Int) < (l.length : Int)) = true := by simp; omega
    have HF := Lib.hid (show encB l = ([], 8) from by unfold encB; rw [if_pos h256])
    go_enter Try.func19, Try.ntmps19
    go_wp2_with fail
    go_ret2
    unfold EncPost
    rw [HF.out]
    exact ⟨_, rfl, World.ownsRow_nil _ _ _ _, Upd.refl _ _⟩
  have h1 : decide ((256 : Int) < (l.length : Int)) = false := by simp; omega
  have HF := Lib.hid (show encB l = encGo (countB l.length) l from by unfold encB; rw [if_neg h256])
  have hU64 : U64 l.length := ⟨by omega⟩
  have HC := Lib.hid (countB_len10 hU64)
  go_enter Try.func19, Try.ntmps19
  go_wp2_with (go_at_call 39; refine (octet_Count _ hU64 _).mono ?_; rintro e w1 ⟨v1, rfl, hv1, hU1⟩)
  go_loopw [16, 4] (fun x v wr => EncRel w l x v wr) (fun x _ _ => l.length - (intOf x).toNat)
  case atStart => exact ⟨0, _, rfl, Nat.zero_le _, hU1, hv1, by have := HC.out; omega, HF.out⟩
  case round =>
    obtain ⟨i, pre, rfl, hi, hU, hown, hpl, henc⟩ := hrel
    by_cases hlt : i < l.length
    · have htt : decide ((i : Int) < (l.length : Int)) = true := by simp; omega
      obtain ⟨c, hci⟩ : ∃ c, l[i]? = some c := ⟨_, List.getElem?_eq_getElem hlt⟩
      obtain ⟨pv, g0, g1, g2, hpv⟩ := HT.out.get hci
      have hpr : By wr pv c.val := hpv.upd0 hU
      have HPW := Lib.hid hpv
      obtain ⟨ap, cp, hsp⟩ := By.val hpr
      subst hsp
      have hRr : Rd wr 51 3 (.slice ao l.length cap) l.length cells := HR.out.upd0 hU
      have hE := encGo_cons pre l i c hci
      rw [← henc] at hE
      have HE := Lib.hid hE; have HPL := Lib.hid hpl; have HPR := Lib.hid hpr; have HO := Lib.hid hown
      have hbadp : badChg c = true → EncPost w l (.returned (.tuple #[.slice none 0 0, .int .i64 1])) (wr.alloc (Obj.cells #[encS c.key, .bool c.gone, Value.slice ap c.val.length cp] 51)) := by
        intro hb
        unfold EncPost
        rw [HE.out, if_pos hb]
        exact ⟨_, rfl, World.ownsRow_nil _ _ _ _, hU.trans0 (Upd.alloc [] _ _)⟩
      have HB := Lib.hid hbadp
      clear hpv hE hpl hpr hown henc hci hbadp hi
      cases hk : c.key.isEmpty with
      | true =>
        have HB' := Lib.hid (HB.out (by simp at hk; simp [badChg, hk]))
        go_wp2_with ((with_reducible show wpList _ _ _ (⟨_, .indexAddr _ _ _, _, _, _, _⟩ :: _) _ _); refine wpl_indexAddr elTChg rfl rfl hRr rfl rfl (by omega) (by omega) ?_; intro ad hcell hspot; (have k0 := hcell 0 (by omega)); (have k1 := hcell 1 (by omega)); (have k2 := hcell 2 (by omega)); rw [Int.toNat_natCast, g0] at k0; rw [Int.toNat_natCast, g1] at k1; rw [Int.toNat_natCast, g2] at k2; clear hcell; obtain ⟨gb, gof, gs⟩ := ad; cases hspot; simp only [Addr.add_lit, Nat.add_zero] at k0 k1 k2)
        go_ret2
        exact HB'.out
      | false =>
        have hk0 : c.key ≠ [] := by simpa using hk
        by_cases h320 : 320 < c.key.length
        · have h2 : decide ((320 : Int) < (c.key.length : Int)) = true := by simp; omega
          have HB' := Lib.hid (HB.out (by simp [badChg, h320]))
          clear h320 hk0
          go_wp2_with ((with_reducible show wpList _ _ _ (⟨_, .indexAddr _ _ _, _, _, _, _⟩ :: _) _ _); refine wpl_indexAddr elTChg rfl rfl hRr rfl rfl (by omega) (by omega) ?_; intro ad hcell hspot; (have k0 := hcell 0 (by omega)); (have k1 := hcell 1 (by omega)); (have k2 := hcell 2 (by omega)); rw [Int.toNat_natCast, g0] at k0; rw [Int.toNat_natCast, g1] at k1; rw [Int.toNat_natCast, g2] at k2; clear hcell; obtain ⟨gb, gof, gs⟩ := ad; cases hspot; simp only [Addr.add_lit, Nat.add_zero] at k0 k1 k2)
          go_ret2
          exact HB'.out
        · have h2 : decide ((320 : Int) < (c.key.length : Int)) = false := by simp; omega
          by_cases h262 : 262144 < c.val.length
          · have h3 : decide ((262144 : Int) < (c.val.length : Int)) = true := by simp; omega
            have HB' := Lib.hid (HB.out (by simp [badChg, h262]))
            clear h320 hk0 h262
            go_wp2_with ((with_reducible show wpList _ _ _ (⟨_, .indexAddr _ _ _, _, _, _, _⟩ :: _) _ _); refine wpl_indexAddr elTChg rfl rfl hRr rfl rfl (by omega) (by omega) ?_; intro ad hcell hspot; (have k0 := hcell 0 (by omega)); (have k1 := hcell 1 (by omega)); (have k2 := hcell 2 (by omega)); rw [Int.toNat_natCast, g0] at k0; rw [Int.toNat_natCast, g1] at k1; rw [Int.toNat_natCast, g2] at k2; clear hcell; obtain ⟨gb, gof, gs⟩ := ad; cases hspot; simp only [Addr.add_lit, Nat.add_zero] at k0 k1 k2)
            go_ret2
            exact HB'.out
          · have h3 : decide ((262144 : Int) < (c.val.length : Int)) = false := by simp; omega
            have hnb : badChg c = false := by simp [badChg, h262, h320, hk0]
            have hpl := HPL.out
            have hkl : (textB c.key).length ≤ 330 := by have := textB_len c.key (by omega); omega
            have hvl : (textB c.val).length ≤ 262154 := by have := textB_len c.val (by omega); omega
            have hby1 : By (wr.alloc (Obj.cells #[encS c.key, .bool c.gone, Value.slice ap c.val.length cp] 51)) (.slice ap c.val.length cp) c.val := HPR.out.upd0 (Upd.alloc [] _ _)
            have hUa : Upd [] w (wr.alloc (Obj.cells #[encS c.key, .bool c.gone, Value.slice ap c.val.length cp] 51)) := hU.trans0 (Upd.alloc [] _ _)
            have hoa : OwnBy (wr.alloc (Obj.cells #[encS c.key, .bool c.gone, Value.slice ap c.val.length cp] 51)) w.heap.size u4 pre := Own.upd0 HO.out (Upd.alloc [] _ _)
            have hba := heap_alloc_new wr (Obj.cells #[encS c.key, .bool c.gone, Value.slice ap c.val.length cp] 51)
            generalize hwa : wr.alloc (Obj.cells #[encS c.key, .bool c.gone, Value.slice ap c.val.length cp] 51) = wa at *
            have hUwa : Upd [] wr wa := by rw [← hwa]; exact Upd.alloc [] _ _
            have hlta : wr.heap.size < wa.heap.size := by rw [← hwa]; simp
            have hlt4 : ∀ g, u4.ownBlock = some g → g < wr.heap.size := fun g hg => (HO.out.lt g hg).2
            have hne4 : wr.heap.size ∉ u4.ownBlock.toList := by intro hm; have := hlt4 wr.heap.size (by simpa using hm); omega
            have HK30 := Lib.hid (show c.key.length ≤ 1073741000 from by omega); have HK31 := Lib.hid (show c.key.length ≤ 1073741824 from by omega); have HV30 := Lib.hid (show c.val.length ≤ 1073741000 from by omega)
            have HOA := Lib.hid hoa
            have keepS : ∀ {T : List Nat} {W W' : World}, Upd T W W' → wr.heap.size ∉ T → (W.cell? ⟨wr.heap.size, 0, none⟩ = some (encS c.key) ∧ W.cell? ⟨wr.heap.size, 2, none⟩ = some (Value.slice ap c.val.length cp)) → (W'.cell? ⟨wr.heap.size, 0, none⟩ = some (encS c.key) ∧ W'.cell? ⟨wr.heap.size, 2, none⟩ = some (Value.slice ap c.val.length cp)) := fun h hn hS => ⟨h.cell hS.1 hn, h.cell hS.2 hn⟩
            have hUd0 : Upd [] wa wa.drew := Upd.drew [] _
            have hS0' : (wa.cell? ⟨wr.heap.size, 0, none⟩ = some (encS c.key) ∧ wa.cell? ⟨wr.heap.size, 2, none⟩ = some (Value.slice ap c.val.length cp)) := ⟨by rw [cell_lit _ _ 0 _ _ _ hba]; rfl, by rw [cell_lit _ _ 2 _ _ _ hba]; rfl⟩
            have hS0 := keepS hUd0 (by simp) hS0'
            cases hg : c.gone with
            | true =>
              rw [hg] at g1 hwa hba
              have b0 : wa.cell? ⟨wr.heap.size, 0, none⟩ = some (encS c.key) := by rw [cell_lit _ _ 0 _ _ _ hba]; rfl
              have b1 : wa.cell? ⟨wr.heap.size, 1, none⟩ = some (.bool true) := by rw [cell_lit _ _ 1 _ _ _ hba]; rfl
              have b2 : wa.cell? ⟨wr.heap.size, 2, none⟩ = some (.slice ap c.val.length cp) := by rw [cell_lit _ _ 2 _ _ _ hba]; rfl
              clear hba
              have hb1 : pre.length + [(0 : UInt8)].length ≤ 1073741824 := by simp; omega
              have hb2 : (pre ++ [(0 : UInt8)]).length + (textB c.key).length ≤ 1073741824 := by simp; omega
              have hb3 : (pre ++ [(0 : UInt8)] ++ textB c.key).length + (textB c.val).length ≤ 1073741824 := by simp; omega
              have HB1 := Lib.hid hb1; have HB2 := Lib.hid hb2; have HB3 := Lib.hid hb3
              have E9 := Lib.hid (show encStep c = 0 :: textB c.key from by unfold encStep; rw [hg]; rfl)
              clear hb1 hb2 hb3 hkl hvl hpl hoa
              go_wp2_with ((with_reducible show wpList _ _ _ (⟨_, .indexAddr _ _ _, _, _, _, _⟩ :: _) _ _); refine wpl_indexAddr elTChg rfl rfl hRr rfl rfl (by omega) (by omega) ?_; intro ad hcell hspot; (have k0 := hcell 0 (by omega)); (have k1 := hcell 1 (by omega)); (have k2 := hcell 2 (by omega)); rw [Int.toNat_natCast, g0] at k0; rw [Int.toNat_natCast, g1] at k1; rw [Int.toNat_natCast, g2] at k2; clear hcell; obtain ⟨gb, gof, gs⟩ := ad; cases hspot; simp only [Addr.add_lit, Nat.add_zero] at k0 k1 k2)
              --REGION 10
              refine wp_region_noPanic ?_
              refine wp_region_M 8 (fun W => W.cell? ⟨wr.heap.size, 0, none⟩ = some (encS c.key) ∧ W.cell? ⟨wr.heap.size, 2, none⟩ = some (Value.slice ap c.val.length cp)) (by kernel_rfl) ?_
              (refine wpAnyM_takeO (i := 0) (dst := (some 37)) (op := (Go.Op.move (Go.Operand.tmp 4))) (v := ?_) (by rfl) (by kernel_rfl) (by kernel_rfl) (by kernel_rfl) (by kernel_rfl) (by rfl) (fun _ _ _ h => h) ?_ hS0 ?_; rotate_left; (focus (intro _ _ _ W HW; (try dsimp only at HW); go_simp; (try with_reducible rfl))); (try simp only [Act.put, List.setIfInBounds_toArray, List.set_cons_zero, List.set_cons_succ]))
              (refine wpAnyM_takeO (i := 3) (dst := (some 40)) (op := (Go.Op.fieldAddr 51 (Go.Operand.tmp 6) 0)) (v := ?_) (by rfl) (by kernel_rfl) (by kernel_rfl) (by kernel_rfl) (by kernel_rfl) (by rfl) (fun _ _ _ h => h) ?_ hS0 ?_; rotate_left; (focus (intro _ _ _ W HW; (try dsimp only at HW); go_simp; (try with_reducible rfl))); (try simp only [Act.put, List.setIfInBounds_toArray, List.set_cons_zero, List.set_cons_succ]))
              (refine wpAnyM_takeO (i := 4) (dst := (some 41)) (op := (Go.Op.load 9 (Go.Operand.tmp 40))) (v := ?_) (by rfl) (by kernel_rfl) (by kernel_rfl) (by kernel_rfl) (by kernel_rfl) (by rfl) (fun _ _ _ h => h) ?_ hS0 ?_; rotate_left; (focus (intro _ _ _ W HW; (try dsimp only at HW); go_simp; (try with_reducible rfl))); (try simp only [Act.put, List.setIfInBounds_toArray, List.set_cons_zero, List.set_cons_succ]))
              refine wpAnyM_two (i := 1) (k := 5) (by kernel_rfl) ?_ ?_
              · refine opM_val (i := 1) (dst := (some 38)) (op := (Go.Op.buildSlice 41 1 #[(0, (Go.Operand.const (Go.Value.int Go.IntKind.u8 0)))])) (by rfl) (ex_lit (run_lit (w := wa.drew) elU8 (.int .u8 0) rfl (by omega)) (by rfl)) (.inr (keepS (Upd.alloc [] wa.drew _) (by simp) hS0)) ?_
                (try simp only [Act.put, List.setIfInBounds_toArray, List.set_cons_zero, List.set_cons_succ])
                have hSlA := keepS (Upd.alloc [] wa.drew (.cells #[.int .u8 0] 5)) (by simp) hS0
                have hUlA : Upd [] wa (wa.drew.alloc (.cells #[.int .u8 0] 5)) := hUd0.trans0 (Upd.alloc [] _ _)
                have hylA : By (wa.drew.alloc (.cells #[.int .u8 0] 5)) (.slice (some ⟨wa.drew.heap.size, 0, none⟩) 1 1) [0] := Rd.new (w := wa.drew) (n := 1) (cap := 1) (xs := [enc 0]) rfl (Nat.le_refl _) (by decide) rfl rfl
                refine wpAnyM_two (i := 2) (k := 5) (by kernel_rfl) ?_ ?_
                · obtain ⟨v2, w2, hr2, hv2, hUap, hU2, hob2⟩ := app_by (ty := 0) (P := Try.prog) (T := 41) (w0 := w) (w := (wa.drew.alloc (.cells #[.int .u8 0] 5))) elU8 (Own.upd0 HOA.out hUlA) hylA (hUa.trans0 hUlA) HB1.out
                  have hne6 := ne_own hob2 hne4 hlta hUlA
                  refine opM_val (i := 2) (dst := (some 39)) (op := (Go.Op.call { callee := (Go.Callee.builtin Go.Builtin.append), args := #[(Go.Operand.tmp 37), (Go.Operand.tmp 38)], argTypes := #[41, 41] })) (by rfl) (ex_append hr2 (by rfl) (by rfl)) (.inr (keepS hUap hne4 hSlA)) ?_
                  (try simp only [Act.put, List.setIfInBounds_toArray, List.set_cons_zero, List.set_cons_succ])
                  have hS2 := keepS hUap hne4 hSlA
                  refine wpAnyM_one (i := 5) (by kernel_rfl) ?_
                  refine opM_val (i := 5) (dst := (some 42)) (op := (Go.Op.convert 9 41 (Go.Operand.tmp 41))) (by rfl) (ex_conv c.key w2 (by rfl)) (.inr (keepS (conv_upd w2 c.key) (by simp) hS2)) ?_
                  (try simp only [Act.put, List.setIfInBounds_toArray, List.set_cons_zero, List.set_cons_succ])
                  have hSc := keepS (conv_upd w2 c.key) (by simp) hS2
                  have hyc : By (convW w2 c.key) (convV w2 c.key) c.key := conv_by _ _ HK31.out
                  refine wpAnyM_one (i := 6) (by kernel_rfl) ?_
                  refine opM_call (i := 6) (dst := (some 43)) (op := (Go.Op.call { callee := (Go.Callee.value (Go.Operand.func 40)), args := #[(Go.Operand.tmp 42)], argTypes := #[41] })) (f := 40) (vs := #[convV w2 c.key]) (by rfl) (fun _ _ _ => by go_simp) ?_
                  refine (octet_Text _ c.key _ hyc HK30.out).mono ?_
                  rintro e w5 ⟨v5, rfl, hv5, hU5⟩
                  have hS5 := keepS hU5 (by simp) hSc
                  refine ⟨v5, rfl, .inr hS5, ?_⟩
                  (try simp only [Act.put, List.setIfInBounds_toArray, List.set_cons_zero, List.set_cons_succ])
                  obtain ⟨v6, w6, hr6, hv6, hU6, hU06, hob6⟩ := app_by (ty := 0) (P := Try.prog) (T := 41) (w0 := w) (w := w5) elU8 (Own.upd0 (Own.upd0 hv2 (conv_upd w2 c.key)) hU5) hv5.by ((hU2.trans0 (conv_upd w2 c.key)).trans0 hU5) HB2.out
                  have hS6 := keepS hU6 hne6 hS5
                  refine wpAnyM_one (i := 7) (by kernel_rfl) ?_
                  refine opM_val (i := 7) (dst := (some 44)) (op := (Go.Op.call { callee := (Go.Callee.builtin Go.Builtin.append), args := #[(Go.Operand.tmp 39), (Go.Operand.tmp 43)], argTypes := #[41, 41] })) (by rfl) (ex_append hr6 (by rfl) (by rfl)) (.inr hS6) ?_
                  (try simp only [Act.put, List.setIfInBounds_toArray, List.set_cons_zero, List.set_cons_succ])
                  refine wpAnyM_one (i := 8) (by kernel_rfl) ?_
                  refine opM_val (i := 8) (dst := (some 4)) (op := (Go.Op.assign (Go.Operand.tmp 44))) (by rfl) (fun _ _ _ => by go_simp; rfl) (.inr hS6) ?_
                  (try simp only [Act.put, List.setIfInBounds_toArray, List.set_cons_zero, List.set_cons_succ])
                  refine wpAnyM_done (by kernel_rfl) ?_ _
                  refine NoPanic.normal ?_
                  obtain ⟨ao6, cap6, hs6⟩ := By.val hv6.by
                  subst hs6
                  generalize hq6 : pre ++ [0] ++ textB c.key = q6 at hv6 ⊢
                  have HQ6 := Lib.hid hq6
                  have HV6 := Lib.hid hv6
                  have HU6 := Lib.hid hU06
                  clear hq6 hv6 hU06 hU6 hob6 hS6 hS5 hU5 hv5
                  by_cases hbig : 1048568 < q6.length
                  · have hbt : decide ((1048568 : Int) < (q6.length : Int)) = true := by simp; omega
                    have HB8 := Lib.hid (enc_big HE.out hnb (by rw [← HQ6.out, E9.out]; simp) hbig HU6.out)
                    clear hbig
                    go_wp2_with fail
                    go_ret2
                    exact HB8.out
                  · have hbt : decide ((1048568 : Int) < (q6.length : Int)) = false := by simp; omega
                    have HR8 := Lib.hid (enc_ok HE.out hnb (by rw [← HQ6.out, E9.out]; simp) hbig HU6.out hlt HV6.out)
                    clear hbig
                    go_wp2_with fail
                    go_roundw
                    case rel => exact HR8.out
                    case measure => simp [intOf]; omega
                · refine opM_val (i := 5) (dst := (some 42)) (op := (Go.Op.convert 9 41 (Go.Operand.tmp 41))) (by rfl) (ex_conv c.key (wa.drew.alloc (.cells #[.int .u8 0] 5)) (by rfl)) (.inr (keepS (conv_upd (wa.drew.alloc (.cells #[.int .u8 0] 5)) c.key) (by simp) hSlA)) ?_
                  (try simp only [Act.put, List.setIfInBounds_toArray, List.set_cons_zero, List.set_cons_succ])
                  have hScB := keepS (conv_upd (wa.drew.alloc (.cells #[.int .u8 0] 5)) c.key) (by simp) hSlA
                  have hUcB : Upd [] wa (convW (wa.drew.alloc (.cells #[.int .u8 0] 5)) c.key) := hUlA.trans0 (conv_upd _ _)
                  have hycB : By (convW (wa.drew.alloc (.cells #[.int .u8 0] 5)) c.key) (convV (wa.drew.alloc (.cells #[.int .u8 0] 5)) c.key) c.key := conv_by _ _ HK31.out
                  refine wpAnyM_one (i := 2) (by kernel_rfl) ?_
                  have hylB := hylA.upd0 (conv_upd _ c.key)
                  obtain ⟨v2, w2, hr2, hv2, hUap, hU2, hob2⟩ := app_by (ty := 0) (P := Try.prog) (T := 41) (w0 := w) (w := (convW (wa.drew.alloc (.cells #[.int .u8 0] 5)) c.key)) elU8 (Own.upd0 HOA.out hUcB) hylB (hUa.trans0 hUcB) HB1.out
                  have hne6 := ne_own hob2 hne4 hlta hUcB
                  refine opM_val (i := 2) (dst := (some 39)) (op := (Go.Op.call { callee := (Go.Callee.builtin Go.Builtin.append), args := #[(Go.Operand.tmp 37), (Go.Operand.tmp 38)], argTypes := #[41, 41] })) (by rfl) (ex_append hr2 (by rfl) (by rfl)) (.inr (keepS hUap hne4 hScB)) ?_
                  (try simp only [Act.put, List.setIfInBounds_toArray, List.set_cons_zero, List.set_cons_succ])
                  have hS2 := keepS hUap hne4 hScB
                  have hy6 := hycB.upd_away hUap (away_conv hlt4 (hUwa.trans0 hUlA))
                  refine wpAnyM_one (i := 6) (by kernel_rfl) ?_
                  refine opM_call (i := 6) (dst := (some 43)) (op := (Go.Op.call { callee := (Go.Callee.value (Go.Operand.func 40)), args := #[(Go.Operand.tmp 42)], argTypes := #[41] })) (f := 40) (vs := #[convV (wa.drew.alloc (.cells #[.int .u8 0] 5)) c.key]) (by rfl) (fun _ _ _ => by go_simp) ?_
                  refine (octet_Text _ c.key _ hy6 HK30.out).mono ?_
                  rintro e w5 ⟨v5, rfl, hv5, hU5⟩
                  have hS5 := keepS hU5 (by simp) hS2
                  refine ⟨v5, rfl, .inr hS5, ?_⟩
                  (try simp only [Act.put, List.setIfInBounds_toArray, List.set_cons_zero, List.set_cons_succ])
                  obtain ⟨v6, w6, hr6, hv6, hU6, hU06, hob6⟩ := app_by (ty := 0) (P := Try.prog) (T := 41) (w0 := w) (w := w5) elU8 (Own.upd0 hv2 hU5) hv5.by (hU2.trans0 hU5) HB2.out
                  have hS6 := keepS hU6 hne6 hS5
                  refine wpAnyM_one (i := 7) (by kernel_rfl) ?_
                  refine opM_val (i := 7) (dst := (some 44)) (op := (Go.Op.call { callee := (Go.Callee.builtin Go.Builtin.append), args := #[(Go.Operand.tmp 39), (Go.Operand.tmp 43)], argTypes := #[41, 41] })) (by rfl) (ex_append hr6 (by rfl) (by rfl)) (.inr hS6) ?_
                  (try simp only [Act.put, List.setIfInBounds_toArray, List.set_cons_zero, List.set_cons_succ])
                  refine wpAnyM_one (i := 8) (by kernel_rfl) ?_
                  refine opM_val (i := 8) (dst := (some 4)) (op := (Go.Op.assign (Go.Operand.tmp 44))) (by rfl) (fun _ _ _ => by go_simp; rfl) (.inr hS6) ?_
                  (try simp only [Act.put, List.setIfInBounds_toArray, List.set_cons_zero, List.set_cons_succ])
                  refine wpAnyM_done (by kernel_rfl) ?_ _
                  refine NoPanic.normal ?_
                  obtain ⟨ao6, cap6, hs6⟩ := By.val hv6.by
                  subst hs6
                  generalize hq6 : pre ++ [0] ++ textB c.key = q6 at hv6 ⊢
                  have HQ6 := Lib.hid hq6
                  have HV6 := Lib.hid hv6
                  have HU6 := Lib.hid hU06
                  clear hq6 hv6 hU06 hU6 hob6 hS6 hS5 hU5 hv5
                  by_cases hbig : 1048568 < q6.length
                  · have hbt : decide ((1048568 : Int) < (q6.length : Int)) = true := by simp; omega
                    have HB8 := Lib.hid (enc_big HE.out hnb (by rw [← HQ6.out, E9.out]; simp) hbig HU6.out)
                    clear hbig
                    go_wp2_with fail
                    go_ret2
                    exact HB8.out
                  · have hbt : decide ((1048568 : Int) < (q6.length : Int)) = false := by simp; omega
                    have HR8 := Lib.hid (enc_ok HE.out hnb (by rw [← HQ6.out, E9.out]; simp) hbig HU6.out hlt HV6.out)
                    clear hbig
                    go_wp2_with fail
                    go_roundw
                    case rel => exact HR8.out
                    case measure => simp [intOf]; omega
              · refine opM_val (i := 5) (dst := (some 42)) (op := (Go.Op.convert 9 41 (Go.Operand.tmp 41))) (by rfl) (ex_conv c.key wa.drew (by rfl)) (.inr (keepS (conv_upd wa.drew c.key) (by simp) hS0)) ?_
                (try simp only [Act.put, List.setIfInBounds_toArray, List.set_cons_zero, List.set_cons_succ])
                have hScC := keepS (conv_upd wa.drew c.key) (by simp) hS0
                have hUcC : Upd [] wa (convW wa.drew c.key) := hUd0.trans0 (conv_upd _ _)
                have hycC : By (convW wa.drew c.key) (convV wa.drew c.key) c.key := conv_by _ _ HK31.out
                refine wpAnyM_one (i := 1) (by kernel_rfl) ?_
                refine opM_val (i := 1) (dst := (some 38)) (op := (Go.Op.buildSlice 41 1 #[(0, (Go.Operand.const (Go.Value.int Go.IntKind.u8 0)))])) (by rfl) (ex_lit (run_lit (w := (convW wa.drew c.key)) elU8 (.int .u8 0) rfl (by omega)) (by rfl)) (.inr (keepS (Upd.alloc [] (convW wa.drew c.key) _) (by simp) hScC)) ?_
                (try simp only [Act.put, List.setIfInBounds_toArray, List.set_cons_zero, List.set_cons_succ])
                have hSlC := keepS (Upd.alloc [] (convW wa.drew c.key) (.cells #[.int .u8 0] 5)) (by simp) hScC
                have hUlC : Upd [] wa ((convW wa.drew c.key).alloc (.cells #[.int .u8 0] 5)) := hUcC.trans0 (Upd.alloc [] _ _)
                have hylC : By ((convW wa.drew c.key).alloc (.cells #[.int .u8 0] 5)) (.slice (some ⟨(convW wa.drew c.key).heap.size, 0, none⟩) 1 1) [0] := Rd.new (w := (convW wa.drew c.key)) (n := 1) (cap := 1) (xs := [enc 0]) rfl (Nat.le_refl _) (by decide) rfl rfl
                refine wpAnyM_one (i := 2) (by kernel_rfl) ?_
                obtain ⟨v2, w2, hr2, hv2, hUap, hU2, hob2⟩ := app_by (ty := 0) (P := Try.prog) (T := 41) (w0 := w) (w := ((convW wa.drew c.key).alloc (.cells #[.int .u8 0] 5))) elU8 (Own.upd0 HOA.out hUlC) hylC (hUa.trans0 hUlC) HB1.out
                have hne6 := ne_own hob2 hne4 hlta hUlC
                refine opM_val (i := 2) (dst := (some 39)) (op := (Go.Op.call { callee := (Go.Callee.builtin Go.Builtin.append), args := #[(Go.Operand.tmp 37), (Go.Operand.tmp 38)], argTypes := #[41, 41] })) (by rfl) (ex_append hr2 (by rfl) (by rfl)) (.inr (keepS hUap hne4 hSlC)) ?_
                (try simp only [Act.put, List.setIfInBounds_toArray, List.set_cons_zero, List.set_cons_succ])
                have hS2 := keepS hUap hne4 hSlC
                have hy6 := (hycC.upd0 (Upd.alloc [] _ _)).upd_away hUap (away_conv hlt4 (hUwa.trans0 hUd0))
                refine wpAnyM_one (i := 6) (by kernel_rfl) ?_
                refine opM_call (i := 6) (dst := (some 43)) (op := (Go.Op.call { callee := (Go.Callee.value (Go.Operand.func 40)), args := #[(Go.Operand.tmp 42)], argTypes := #[41] })) (f := 40) (vs := #[convV wa.drew c.key]) (by rfl) (fun _ _ _ => by go_simp) ?_
                refine (octet_Text _ c.key _ hy6 HK30.out).mono ?_
                rintro e w5 ⟨v5, rfl, hv5, hU5⟩
                have hS5 := keepS hU5 (by simp) hS2
                refine ⟨v5, rfl, .inr hS5, ?_⟩
                (try simp only [Act.put, List.setIfInBounds_toArray, List.set_cons_zero, List.set_cons_succ])
                obtain ⟨v6, w6, hr6, hv6, hU6, hU06, hob6⟩ := app_by (ty := 0) (P := Try.prog) (T := 41) (w0 := w) (w := w5) elU8 (Own.upd0 hv2 hU5) hv5.by (hU2.trans0 hU5) HB2.out
                have hS6 := keepS hU6 hne6 hS5
                refine wpAnyM_one (i := 7) (by kernel_rfl) ?_
                refine opM_val (i := 7) (dst := (some 44)) (op := (Go.Op.call { callee := (Go.Callee.builtin Go.Builtin.append), args := #[(Go.Operand.tmp 39), (Go.Operand.tmp 43)], argTypes := #[41, 41] })) (by rfl) (ex_append hr6 (by rfl) (by rfl)) (.inr hS6) ?_
                (try simp only [Act.put, List.setIfInBounds_toArray, List.set_cons_zero, List.set_cons_succ])
                refine wpAnyM_one (i := 8) (by kernel_rfl) ?_
                refine opM_val (i := 8) (dst := (some 4)) (op := (Go.Op.assign (Go.Operand.tmp 44))) (by rfl) (fun _ _ _ => by go_simp; rfl) (.inr hS6) ?_
                (try simp only [Act.put, List.setIfInBounds_toArray, List.set_cons_zero, List.set_cons_succ])
                refine wpAnyM_done (by kernel_rfl) ?_ _
                refine NoPanic.normal ?_
                obtain ⟨ao6, cap6, hs6⟩ := By.val hv6.by
                subst hs6
                generalize hq6 : pre ++ [0] ++ textB c.key = q6 at hv6 ⊢
                have HQ6 := Lib.hid hq6
                have HV6 := Lib.hid hv6
                have HU6 := Lib.hid hU06
                clear hq6 hv6 hU06 hU6 hob6 hS6 hS5 hU5 hv5
                by_cases hbig : 1048568 < q6.length
                · have hbt : decide ((1048568 : Int) < (q6.length : Int)) = true := by simp; omega
                  have HB8 := Lib.hid (enc_big HE.out hnb (by rw [← HQ6.out, E9.out]; simp) hbig HU6.out)
                  clear hbig
                  go_wp2_with fail
                  go_ret2
                  exact HB8.out
                · have hbt : decide ((1048568 : Int) < (q6.length : Int)) = false := by simp; omega
                  have HR8 := Lib.hid (enc_ok HE.out hnb (by rw [← HQ6.out, E9.out]; simp) hbig HU6.out hlt HV6.out)
                  clear hbig
                  go_wp2_with fail
                  go_roundw
                  case rel => exact HR8.out
                  case measure => simp [intOf]; omega
              --END 10
            | false =>
              rw [hg] at g1 hwa hba
              have b0 : wa.cell? ⟨wr.heap.size, 0, none⟩ = some (encS c.key) := by rw [cell_lit _ _ 0 _ _ _ hba]; rfl
              have b1 : wa.cell? ⟨wr.heap.size, 1, none⟩ = some (.bool false) := by rw [cell_lit _ _ 1 _ _ _ hba]; rfl
              have b2 : wa.cell? ⟨wr.heap.size, 2, none⟩ = some (.slice ap c.val.length cp) := by rw [cell_lit _ _ 2 _ _ _ hba]; rfl
              clear hba
              have hb1 : pre.length + [(1 : UInt8)].length ≤ 1073741824 := by simp; omega
              have hb2 : (pre ++ [(1 : UInt8)]).length + (textB c.key).length ≤ 1073741824 := by simp; omega
              have hb3 : (pre ++ [(1 : UInt8)] ++ textB c.key).length + (textB c.val).length ≤ 1073741824 := by simp; omega
              have HB1 := Lib.hid hb1; have HB2 := Lib.hid hb2; have HB3 := Lib.hid hb3
              have E9 := Lib.hid (show encStep c = 1 :: (textB c.key ++ textB c.val) from by unfold encStep; rw [hg]; rfl)
              clear hb1 hb2 hb3 hkl hvl hpl hoa
              go_wp2_with ((with_reducible show wpList _ _ _ (⟨_, .indexAddr _ _ _, _, _, _, _⟩ :: _) _ _); refine wpl_indexAddr elTChg rfl rfl hRr rfl rfl (by omega) (by omega) ?_; intro ad hcell hspot; (have k0 := hcell 0 (by omega)); (have k1 := hcell 1 (by omega)); (have k2 := hcell 2 (by omega)); rw [Int.toNat_natCast, g0] at k0; rw [Int.toNat_natCast, g1] at k1; rw [Int.toNat_natCast, g2] at k2; clear hcell; obtain ⟨gb, gof, gs⟩ := ad; cases hspot; simp only [Addr.add_lit, Nat.add_zero] at k0 k1 k2)
              --REGION 11
              refine wp_region_noPanic ?_
              refine wp_region_M 8 (fun W => W.cell? ⟨wr.heap.size, 0, none⟩ = some (encS c.key) ∧ W.cell? ⟨wr.heap.size, 2, none⟩ = some (Value.slice ap c.val.length cp)) (by kernel_rfl) ?_
              (refine wpAnyM_takeO (i := 0) (dst := (some 45)) (op := (Go.Op.move (Go.Operand.tmp 4))) (v := ?_) (by rfl) (by kernel_rfl) (by kernel_rfl) (by kernel_rfl) (by kernel_rfl) (by rfl) (fun _ _ _ h => h) ?_ hS0 ?_; rotate_left; (focus (intro _ _ _ W HW; (try dsimp only at HW); go_simp; (try with_reducible rfl))); (try simp only [Act.put, List.setIfInBounds_toArray, List.set_cons_zero, List.set_cons_succ]))
              (refine wpAnyM_takeO (i := 3) (dst := (some 48)) (op := (Go.Op.fieldAddr 51 (Go.Operand.tmp 6) 0)) (v := ?_) (by rfl) (by kernel_rfl) (by kernel_rfl) (by kernel_rfl) (by kernel_rfl) (by rfl) (fun _ _ _ h => h) ?_ hS0 ?_; rotate_left; (focus (intro _ _ _ W HW; (try dsimp only at HW); go_simp; (try with_reducible rfl))); (try simp only [Act.put, List.setIfInBounds_toArray, List.set_cons_zero, List.set_cons_succ]))
              (refine wpAnyM_takeO (i := 4) (dst := (some 49)) (op := (Go.Op.load 9 (Go.Operand.tmp 48))) (v := ?_) (by rfl) (by kernel_rfl) (by kernel_rfl) (by kernel_rfl) (by kernel_rfl) (by rfl) (fun _ _ _ h => h) ?_ hS0 ?_; rotate_left; (focus (intro _ _ _ W HW; (try dsimp only at HW); go_simp; (try with_reducible rfl))); (try simp only [Act.put, List.setIfInBounds_toArray, List.set_cons_zero, List.set_cons_succ]))
              refine wpAnyM_two (i := 1) (k := 5) (by kernel_rfl) ?_ ?_
              · refine opM_val (i := 1) (dst := (some 46)) (op := (Go.Op.buildSlice 41 1 #[(0, (Go.Operand.const (Go.Value.int Go.IntKind.u8 1)))])) (by rfl) (ex_lit (run_lit (w := wa.drew) elU8 (.int .u8 1) rfl (by omega)) (by rfl)) (.inr (keepS (Upd.alloc [] wa.drew _) (by simp) hS0)) ?_
                (try simp only [Act.put, List.setIfInBounds_toArray, List.set_cons_zero, List.set_cons_succ])
                have hSlA := keepS (Upd.alloc [] wa.drew (.cells #[.int .u8 1] 5)) (by simp) hS0
                have hUlA : Upd [] wa (wa.drew.alloc (.cells #[.int .u8 1] 5)) := hUd0.trans0 (Upd.alloc [] _ _)
                have hylA : By (wa.drew.alloc (.cells #[.int .u8 1] 5)) (.slice (some ⟨wa.drew.heap.size, 0, none⟩) 1 1) [1] := Rd.new (w := wa.drew) (n := 1) (cap := 1) (xs := [enc 1]) rfl (Nat.le_refl _) (by decide) rfl rfl
                refine wpAnyM_two (i := 2) (k := 5) (by kernel_rfl) ?_ ?_
                · obtain ⟨v2, w2, hr2, hv2, hUap, hU2, hob2⟩ := app_by (ty := 0) (P := Try.prog) (T := 41) (w0 := w) (w := (wa.drew.alloc (.cells #[.int .u8 1] 5))) elU8 (Own.upd0 HOA.out hUlA) hylA (hUa.trans0 hUlA) HB1.out
                  have hne6 := ne_own hob2 hne4 hlta hUlA
                  refine opM_val (i := 2) (dst := (some 47)) (op := (Go.Op.call { callee := (Go.Callee.builtin Go.Builtin.append), args := #[(Go.Operand.tmp 45), (Go.Operand.tmp 46)], argTypes := #[41, 41] })) (by rfl) (ex_append hr2 (by rfl) (by rfl)) (.inr (keepS hUap hne4 hSlA)) ?_
                  (try simp only [Act.put, List.setIfInBounds_toArray, List.set_cons_zero, List.set_cons_succ])
                  have hS2 := keepS hUap hne4 hSlA
                  refine wpAnyM_one (i := 5) (by kernel_rfl) ?_
                  refine opM_val (i := 5) (dst := (some 50)) (op := (Go.Op.convert 9 41 (Go.Operand.tmp 49))) (by rfl) (ex_conv c.key w2 (by rfl)) (.inr (keepS (conv_upd w2 c.key) (by simp) hS2)) ?_
                  (try simp only [Act.put, List.setIfInBounds_toArray, List.set_cons_zero, List.set_cons_succ])
                  have hSc := keepS (conv_upd w2 c.key) (by simp) hS2
                  have hyc : By (convW w2 c.key) (convV w2 c.key) c.key := conv_by _ _ HK31.out
                  refine wpAnyM_one (i := 6) (by kernel_rfl) ?_
                  refine opM_call (i := 6) (dst := (some 51)) (op := (Go.Op.call { callee := (Go.Callee.value (Go.Operand.func 40)), args := #[(Go.Operand.tmp 50)], argTypes := #[41] })) (f := 40) (vs := #[convV w2 c.key]) (by rfl) (fun _ _ _ => by go_simp) ?_
                  refine (octet_Text _ c.key _ hyc HK30.out).mono ?_
                  rintro e w5 ⟨v5, rfl, hv5, hU5⟩
                  have hS5 := keepS hU5 (by simp) hSc
                  refine ⟨v5, rfl, .inr hS5, ?_⟩
                  (try simp only [Act.put, List.setIfInBounds_toArray, List.set_cons_zero, List.set_cons_succ])
                  obtain ⟨v6, w6, hr6, hv6, hU6, hU06, hob6⟩ := app_by (ty := 0) (P := Try.prog) (T := 41) (w0 := w) (w := w5) elU8 (Own.upd0 (Own.upd0 hv2 (conv_upd w2 c.key)) hU5) hv5.by ((hU2.trans0 (conv_upd w2 c.key)).trans0 hU5) HB2.out
                  have hS6 := keepS hU6 hne6 hS5
                  refine wpAnyM_one (i := 7) (by kernel_rfl) ?_
                  refine opM_val (i := 7) (dst := (some 52)) (op := (Go.Op.call { callee := (Go.Callee.builtin Go.Builtin.append), args := #[(Go.Operand.tmp 47), (Go.Operand.tmp 51)], argTypes := #[41, 41] })) (by rfl) (ex_append hr6 (by rfl) (by rfl)) (.inr hS6) ?_
                  (try simp only [Act.put, List.setIfInBounds_toArray, List.set_cons_zero, List.set_cons_succ])
                  refine wpAnyM_one (i := 8) (by kernel_rfl) ?_
                  refine opM_val (i := 8) (dst := (some 4)) (op := (Go.Op.assign (Go.Operand.tmp 52))) (by rfl) (fun _ _ _ => by go_simp; rfl) (.inr hS6) ?_
                  (try simp only [Act.put, List.setIfInBounds_toArray, List.set_cons_zero, List.set_cons_succ])
                  refine wpAnyM_done (by kernel_rfl) ?_ _
                  refine NoPanic.normal ?_
                  have HV6 := Lib.hid hv6
                  have HU6 := Lib.hid hU06
                  have k2 := hS6.2
                  clear hv6 hU06 hU6 hob6 hS6 hS5 hU5 hv5
                  by_cases hbig : 1048568 < (pre ++ encStep c).length
                  · have D8 := Lib.hid (fun (q : List UInt8) (hq : pre ++ [1] ++ textB c.key ++ textB c.val = q) => show decide ((1048568 : Int) < (q.length : Int)) = true from by rw [← hq, show pre ++ [1] ++ textB c.key ++ textB c.val = pre ++ encStep c from by rw [E9.out]; simp]; simp only [decide_eq_true_eq]; omega)
                    have HBG := Lib.hid hbig
                    clear hbig
                    go_wp2_with (first | (go_at_call 40; refine (octet_Text _ c.val _ (HPW.out.upd0 HU6.out) HV30.out).mono ?_; rintro e w7 ⟨v7, rfl, hv7, hU7⟩) | ((with_reducible show wpList _ _ _ (⟨_, .call ⟨.builtin .append, _, _⟩, _, _, _, _⟩ :: _) _ _); refine wpl_append_by elU8 rfl rfl (HU6.out.trans0 hU7) (Own.upd0 HV6.out hU7) rfl hv7.by rfl HB3.out ?_; intro v8 w8 hv8 _ hU8 hb8; obtain ⟨ao8, cap8, hs8⟩ := By.val hv8.by; subst hs8; generalize hq8 : pre ++ [1] ++ textB c.key ++ textB c.val = q8 at hv8 ⊢; have hbt := D8.out q8 hq8; have HQ8 := Lib.hid hq8; have HV8 := Lib.hid hv8; have HU8 := Lib.hid hU8; clear hq8 hv8 hU8 hb8))
                    go_ret2
                    exact enc_big (q := q8) HE.out hnb (by rw [← HQ8.out, E9.out]; simp) (by rw [← HQ8.out, show pre ++ [1] ++ textB c.key ++ textB c.val = pre ++ encStep c from by rw [E9.out]; simp]; exact HBG.out) HU8.out
                  · have D8 := Lib.hid (fun (q : List UInt8) (hq : pre ++ [1] ++ textB c.key ++ textB c.val = q) => show decide ((1048568 : Int) < (q.length : Int)) = false from by rw [← hq, show pre ++ [1] ++ textB c.key ++ textB c.val = pre ++ encStep c from by rw [E9.out]; simp]; simp only [decide_eq_false_iff_not]; omega)
                    have HBG := Lib.hid hbig
                    clear hbig
                    go_wp2_with (first | (go_at_call 40; refine (octet_Text _ c.val _ (HPW.out.upd0 HU6.out) HV30.out).mono ?_; rintro e w7 ⟨v7, rfl, hv7, hU7⟩) | ((with_reducible show wpList _ _ _ (⟨_, .call ⟨.builtin .append, _, _⟩, _, _, _, _⟩ :: _) _ _); refine wpl_append_by elU8 rfl rfl (HU6.out.trans0 hU7) (Own.upd0 HV6.out hU7) rfl hv7.by rfl HB3.out ?_; intro v8 w8 hv8 _ hU8 hb8; obtain ⟨ao8, cap8, hs8⟩ := By.val hv8.by; subst hs8; generalize hq8 : pre ++ [1] ++ textB c.key ++ textB c.val = q8 at hv8 ⊢; have hbt := D8.out q8 hq8; have HQ8 := Lib.hid hq8; have HV8 := Lib.hid hv8; have HU8 := Lib.hid hU8; clear hq8 hv8 hU8 hb8))
                    go_roundw
                    case rel => exact enc_ok (q := q8) HE.out hnb (by rw [← HQ8.out, E9.out]; simp) (by rw [← HQ8.out, show pre ++ [1] ++ textB c.key ++ textB c.val = pre ++ encStep c from by rw [E9.out]; simp]; exact HBG.out) HU8.out hlt HV8.out
                    case measure => simp [intOf]; omega
                · refine opM_val (i := 5) (dst := (some 50)) (op := (Go.Op.convert 9 41 (Go.Operand.tmp 49))) (by rfl) (ex_conv c.key (wa.drew.alloc (.cells #[.int .u8 1] 5)) (by rfl)) (.inr (keepS (conv_upd (wa.drew.alloc (.cells #[.int .u8 1] 5)) c.key) (by simp) hSlA)) ?_
                  (try simp only [Act.put, List.setIfInBounds_toArray, List.set_cons_zero, List.set_cons_succ])
                  have hScB := keepS (conv_upd (wa.drew.alloc (.cells #[.int .u8 1] 5)) c.key) (by simp) hSlA
                  have hUcB : Upd [] wa (convW (wa.drew.alloc (.cells #[.int .u8 1] 5)) c.key) := hUlA.trans0 (conv_upd _ _)
                  have hycB : By (convW (wa.drew.alloc (.cells #[.int .u8 1] 5)) c.key) (convV (wa.drew.alloc (.cells #[.int .u8 1] 5)) c.key) c.key := conv_by _ _ HK31.out
                  refine wpAnyM_one (i := 2) (by kernel_rfl) ?_
                  have hylB := hylA.upd0 (conv_upd _ c.key)
                  obtain ⟨v2, w2, hr2, hv2, hUap, hU2, hob2⟩ := app_by (ty := 0) (P := Try.prog) (T := 41) (w0 := w) (w := (convW (wa.drew.alloc (.cells #[.int .u8 1] 5)) c.key)) elU8 (Own.upd0 HOA.out hUcB) hylB (hUa.trans0 hUcB) HB1.out
                  have hne6 := ne_own hob2 hne4 hlta hUcB
                  refine opM_val (i := 2) (dst := (some 47)) (op := (Go.Op.call { callee := (Go.Callee.builtin Go.Builtin.append), args := #[(Go.Operand.tmp 45), (Go.Operand.tmp 46)], argTypes := #[41, 41] })) (by rfl) (ex_append hr2 (by rfl) (by rfl)) (.inr (keepS hUap hne4 hScB)) ?_
                  (try simp only [Act.put, List.setIfInBounds_toArray, List.set_cons_zero, List.set_cons_succ])
                  have hS2 := keepS hUap hne4 hScB
                  have hy6 := hycB.upd_away hUap (away_conv hlt4 (hUwa.trans0 hUlA))
                  refine wpAnyM_one (i := 6) (by kernel_rfl) ?_
                  refine opM_call (i := 6) (dst := (some 51)) (op := (Go.Op.call { callee := (Go.Callee.value (Go.Operand.func 40)), args := #[(Go.Operand.tmp 50)], argTypes := #[41] })) (f := 40) (vs := #[convV (wa.drew.alloc (.cells #[.int .u8 1] 5)) c.key]) (by rfl) (fun _ _ _ => by go_simp) ?_
                  refine (octet_Text _ c.key _ hy6 HK30.out).mono ?_
                  rintro e w5 ⟨v5, rfl, hv5, hU5⟩
                  have hS5 := keepS hU5 (by simp) hS2
                  refine ⟨v5, rfl, .inr hS5, ?_⟩
                  (try simp only [Act.put, List.setIfInBounds_toArray, List.set_cons_zero, List.set_cons_succ])
                  obtain ⟨v6, w6, hr6, hv6, hU6, hU06, hob6⟩ := app_by (ty := 0) (P := Try.prog) (T := 41) (w0 := w) (w := w5) elU8 (Own.upd0 hv2 hU5) hv5.by (hU2.trans0 hU5) HB2.out
                  have hS6 := keepS hU6 hne6 hS5
                  refine wpAnyM_one (i := 7) (by kernel_rfl) ?_
                  refine opM_val (i := 7) (dst := (some 52)) (op := (Go.Op.call { callee := (Go.Callee.builtin Go.Builtin.append), args := #[(Go.Operand.tmp 47), (Go.Operand.tmp 51)], argTypes := #[41, 41] })) (by rfl) (ex_append hr6 (by rfl) (by rfl)) (.inr hS6) ?_
                  (try simp only [Act.put, List.setIfInBounds_toArray, List.set_cons_zero, List.set_cons_succ])
                  refine wpAnyM_one (i := 8) (by kernel_rfl) ?_
                  refine opM_val (i := 8) (dst := (some 4)) (op := (Go.Op.assign (Go.Operand.tmp 52))) (by rfl) (fun _ _ _ => by go_simp; rfl) (.inr hS6) ?_
                  (try simp only [Act.put, List.setIfInBounds_toArray, List.set_cons_zero, List.set_cons_succ])
                  refine wpAnyM_done (by kernel_rfl) ?_ _
                  refine NoPanic.normal ?_
                  have HV6 := Lib.hid hv6
                  have HU6 := Lib.hid hU06
                  have k2 := hS6.2
                  clear hv6 hU06 hU6 hob6 hS6 hS5 hU5 hv5
                  by_cases hbig : 1048568 < (pre ++ encStep c).length
                  · have D8 := Lib.hid (fun (q : List UInt8) (hq : pre ++ [1] ++ textB c.key ++ textB c.val = q) => show decide ((1048568 : Int) < (q.length : Int)) = true from by rw [← hq, show pre ++ [1] ++ textB c.key ++ textB c.val = pre ++ encStep c from by rw [E9.out]; simp]; simp only [decide_eq_true_eq]; omega)
                    have HBG := Lib.hid hbig
                    clear hbig
                    go_wp2_with (first | (go_at_call 40; refine (octet_Text _ c.val _ (HPW.out.upd0 HU6.out) HV30.out).mono ?_; rintro e w7 ⟨v7, rfl, hv7, hU7⟩) | ((with_reducible show wpList _ _ _ (⟨_, .call ⟨.builtin .append, _, _⟩, _, _, _, _⟩ :: _) _ _); refine wpl_append_by elU8 rfl rfl (HU6.out.trans0 hU7) (Own.upd0 HV6.out hU7) rfl hv7.by rfl HB3.out ?_; intro v8 w8 hv8 _ hU8 hb8; obtain ⟨ao8, cap8, hs8⟩ := By.val hv8.by; subst hs8; generalize hq8 : pre ++ [1] ++ textB c.key ++ textB c.val = q8 at hv8 ⊢; have hbt := D8.out q8 hq8; have HQ8 := Lib.hid hq8; have HV8 := Lib.hid hv8; have HU8 := Lib.hid hU8; clear hq8 hv8 hU8 hb8))
                    go_ret2
                    exact enc_big (q := q8) HE.out hnb (by rw [← HQ8.out, E9.out]; simp) (by rw [← HQ8.out, show pre ++ [1] ++ textB c.key ++ textB c.val = pre ++ encStep c from by rw [E9.out]; simp]; exact HBG.out) HU8.out
                  · have D8 := Lib.hid (fun (q : List UInt8) (hq : pre ++ [1] ++ textB c.key ++ textB c.val = q) => show decide ((1048568 : Int) < (q.length : Int)) = false from by rw [← hq, show pre ++ [1] ++ textB c.key ++ textB c.val = pre ++ encStep c from by rw [E9.out]; simp]; simp only [decide_eq_false_iff_not]; omega)
                    have HBG := Lib.hid hbig
                    clear hbig
                    go_wp2_with (first | (go_at_call 40; refine (octet_Text _ c.val _ (HPW.out.upd0 HU6.out) HV30.out).mono ?_; rintro e w7 ⟨v7, rfl, hv7, hU7⟩) | ((with_reducible show wpList _ _ _ (⟨_, .call ⟨.builtin .append, _, _⟩, _, _, _, _⟩ :: _) _ _); refine wpl_append_by elU8 rfl rfl (HU6.out.trans0 hU7) (Own.upd0 HV6.out hU7) rfl hv7.by rfl HB3.out ?_; intro v8 w8 hv8 _ hU8 hb8; obtain ⟨ao8, cap8, hs8⟩ := By.val hv8.by; subst hs8; generalize hq8 : pre ++ [1] ++ textB c.key ++ textB c.val = q8 at hv8 ⊢; have hbt := D8.out q8 hq8; have HQ8 := Lib.hid hq8; have HV8 := Lib.hid hv8; have HU8 := Lib.hid hU8; clear hq8 hv8 hU8 hb8))
                    go_roundw
                    case rel => exact enc_ok (q := q8) HE.out hnb (by rw [← HQ8.out, E9.out]; simp) (by rw [← HQ8.out, show pre ++ [1] ++ textB c.key ++ textB c.val = pre ++ encStep c from by rw [E9.out]; simp]; exact HBG.out) HU8.out hlt HV8.out
                    case measure => simp [intOf]; omega
              · refine opM_val (i := 5) (dst := (some 50)) (op := (Go.Op.convert 9 41 (Go.Operand.tmp 49))) (by rfl) (ex_conv c.key wa.drew (by rfl)) (.inr (keepS (conv_upd wa.drew c.key) (by simp) hS0)) ?_
                (try simp only [Act.put, List.setIfInBounds_toArray, List.set_cons_zero, List.set_cons_succ])
                have hScC := keepS (conv_upd wa.drew c.key) (by simp) hS0
                have hUcC : Upd [] wa (convW wa.drew c.key) := hUd0.trans0 (conv_upd _ _)
                have hycC : By (convW wa.drew c.key) (convV wa.drew c.key) c.key := conv_by _ _ HK31.out
                refine wpAnyM_one (i := 1) (by kernel_rfl) ?_
                refine opM_val (i := 1) (dst := (some 46)) (op := (Go.Op.buildSlice 41 1 #[(0, (Go.Operand.const (Go.Value.int Go.IntKind.u8 1)))])) (by rfl) (ex_lit (run_lit (w := (convW wa.drew c.key)) elU8 (.int .u8 1) rfl (by omega)) (by rfl)) (.inr (keepS (Upd.alloc [] (convW wa.drew c.key) _) (by simp) hScC)) ?_
                (try simp only [Act.put, List.setIfInBounds_toArray, List.set_cons_zero, List.set_cons_succ])
                have hSlC := keepS (Upd.alloc [] (convW wa.drew c.key) (.cells #[.int .u8 1] 5)) (by simp) hScC
                have hUlC : Upd [] wa ((convW wa.drew c.key).alloc (.cells #[.int .u8 1] 5)) := hUcC.trans0 (Upd.alloc [] _ _)
                have hylC : By ((convW wa.drew c.key).alloc (.cells #[.int .u8 1] 5)) (.slice (some ⟨(convW wa.drew c.key).heap.size, 0, none⟩) 1 1) [1] := Rd.new (w := (convW wa.drew c.key)) (n := 1) (cap := 1) (xs := [enc 1]) rfl (Nat.le_refl _) (by decide) rfl rfl
                refine wpAnyM_one (i := 2) (by kernel_rfl) ?_
                obtain ⟨v2, w2, hr2, hv2, hUap, hU2, hob2⟩ := app_by (ty := 0) (P := Try.prog) (T := 41) (w0 := w) (w := ((convW wa.drew c.key).alloc (.cells #[.int .u8 1] 5))) elU8 (Own.upd0 HOA.out hUlC) hylC (hUa.trans0 hUlC) HB1.out
                have hne6 := ne_own hob2 hne4 hlta hUlC
                refine opM_val (i := 2) (dst := (some 47)) (op := (Go.Op.call { callee := (Go.Callee.builtin Go.Builtin.append), args := #[(Go.Operand.tmp 45), (Go.Operand.tmp 46)], argTypes := #[41, 41] })) (by rfl) (ex_append hr2 (by rfl) (by rfl)) (.inr (keepS hUap hne4 hSlC)) ?_
                (try simp only [Act.put, List.setIfInBounds_toArray, List.set_cons_zero, List.set_cons_succ])
                have hS2 := keepS hUap hne4 hSlC
                have hy6 := (hycC.upd0 (Upd.alloc [] _ _)).upd_away hUap (away_conv hlt4 (hUwa.trans0 hUd0))
                refine wpAnyM_one (i := 6) (by kernel_rfl) ?_
                refine opM_call (i := 6) (dst := (some 51)) (op := (Go.Op.call { callee := (Go.Callee.value (Go.Operand.func 40)), args := #[(Go.Operand.tmp 50)], argTypes := #[41] })) (f := 40) (vs := #[convV wa.drew c.key]) (by rfl) (fun _ _ _ => by go_simp) ?_
                refine (octet_Text _ c.key _ hy6 HK30.out).mono ?_
                rintro e w5 ⟨v5, rfl, hv5, hU5⟩
                have hS5 := keepS hU5 (by simp) hS2
                refine ⟨v5, rfl, .inr hS5, ?_⟩
                (try simp only [Act.put, List.setIfInBounds_toArray, List.set_cons_zero, List.set_cons_succ])
                obtain ⟨v6, w6, hr6, hv6, hU6, hU06, hob6⟩ := app_by (ty := 0) (P := Try.prog) (T := 41) (w0 := w) (w := w5) elU8 (Own.upd0 hv2 hU5) hv5.by (hU2.trans0 hU5) HB2.out
                have hS6 := keepS hU6 hne6 hS5
                refine wpAnyM_one (i := 7) (by kernel_rfl) ?_
                refine opM_val (i := 7) (dst := (some 52)) (op := (Go.Op.call { callee := (Go.Callee.builtin Go.Builtin.append), args := #[(Go.Operand.tmp 47), (Go.Operand.tmp 51)], argTypes := #[41, 41] })) (by rfl) (ex_append hr6 (by rfl) (by rfl)) (.inr hS6) ?_
                (try simp only [Act.put, List.setIfInBounds_toArray, List.set_cons_zero, List.set_cons_succ])
                refine wpAnyM_one (i := 8) (by kernel_rfl) ?_
                refine opM_val (i := 8) (dst := (some 4)) (op := (Go.Op.assign (Go.Operand.tmp 52))) (by rfl) (fun _ _ _ => by go_simp; rfl) (.inr hS6) ?_
                (try simp only [Act.put, List.setIfInBounds_toArray, List.set_cons_zero, List.set_cons_succ])
                refine wpAnyM_done (by kernel_rfl) ?_ _
                refine NoPanic.normal ?_
                have HV6 := Lib.hid hv6
                have HU6 := Lib.hid hU06
                have k2 := hS6.2
                clear hv6 hU06 hU6 hob6 hS6 hS5 hU5 hv5
                by_cases hbig : 1048568 < (pre ++ encStep c).length
                · have D8 := Lib.hid (fun (q : List UInt8) (hq : pre ++ [1] ++ textB c.key ++ textB c.val = q) => show decide ((1048568 : Int) < (q.length : Int)) = true from by rw [← hq, show pre ++ [1] ++ textB c.key ++ textB c.val = pre ++ encStep c from by rw [E9.out]; simp]; simp only [decide_eq_true_eq]; omega)
                  have HBG := Lib.hid hbig
                  clear hbig
                  go_wp2_with (first | (go_at_call 40; refine (octet_Text _ c.val _ (HPW.out.upd0 HU6.out) HV30.out).mono ?_; rintro e w7 ⟨v7, rfl, hv7, hU7⟩) | ((with_reducible show wpList _ _ _ (⟨_, .call ⟨.builtin .append, _, _⟩, _, _, _, _⟩ :: _) _ _); refine wpl_append_by elU8 rfl rfl (HU6.out.trans0 hU7) (Own.upd0 HV6.out hU7) rfl hv7.by rfl HB3.out ?_; intro v8 w8 hv8 _ hU8 hb8; obtain ⟨ao8, cap8, hs8⟩ := By.val hv8.by; subst hs8; generalize hq8 : pre ++ [1] ++ textB c.key ++ textB c.val = q8 at hv8 ⊢; have hbt := D8.out q8 hq8; have HQ8 := Lib.hid hq8; have HV8 := Lib.hid hv8; have HU8 := Lib.hid hU8; clear hq8 hv8 hU8 hb8))
                  go_ret2
                  exact enc_big (q := q8) HE.out hnb (by rw [← HQ8.out, E9.out]; simp) (by rw [← HQ8.out, show pre ++ [1] ++ textB c.key ++ textB c.val = pre ++ encStep c from by rw [E9.out]; simp]; exact HBG.out) HU8.out
                · have D8 := Lib.hid (fun (q : List UInt8) (hq : pre ++ [1] ++ textB c.key ++ textB c.val = q) => show decide ((1048568 : Int) < (q.length : Int)) = false from by rw [← hq, show pre ++ [1] ++ textB c.key ++ textB c.val = pre ++ encStep c from by rw [E9.out]; simp]; simp only [decide_eq_false_iff_not]; omega)
                  have HBG := Lib.hid hbig
                  clear hbig
                  go_wp2_with (first | (go_at_call 40; refine (octet_Text _ c.val _ (HPW.out.upd0 HU6.out) HV30.out).mono ?_; rintro e w7 ⟨v7, rfl, hv7, hU7⟩) | ((with_reducible show wpList _ _ _ (⟨_, .call ⟨.builtin .append, _, _⟩, _, _, _, _⟩ :: _) _ _); refine wpl_append_by elU8 rfl rfl (HU6.out.trans0 hU7) (Own.upd0 HV6.out hU7) rfl hv7.by rfl HB3.out ?_; intro v8 w8 hv8 _ hU8 hb8; obtain ⟨ao8, cap8, hs8⟩ := By.val hv8.by; subst hs8; generalize hq8 : pre ++ [1] ++ textB c.key ++ textB c.val = q8 at hv8 ⊢; have hbt := D8.out q8 hq8; have HQ8 := Lib.hid hq8; have HV8 := Lib.hid hv8; have HU8 := Lib.hid hU8; clear hq8 hv8 hU8 hb8))
                  go_roundw
                  case rel => exact enc_ok (q := q8) HE.out hnb (by rw [← HQ8.out, E9.out]; simp) (by rw [← HQ8.out, show pre ++ [1] ++ textB c.key ++ textB c.val = pre ++ encStep c from by rw [E9.out]; simp]; exact HBG.out) HU8.out hlt HV8.out
                  case measure => simp [intOf]; omega
              --END 11
    · have htt : decide ((i : Int) < (l.length : Int)) = false := by simp; omega
      have hie : i = l.length := by omega
      have HFIN := Lib.hid (show EncPost w l (.returned (.tuple #[u4, .int .i64 0])) wr from by
        unfold EncPost
        rw [henc, hie, List.drop_length]
        exact ⟨_, rfl, hown, hU⟩)
      clear henc hpl hown
      go_wp2_with fail
      go_ret2
      exact HFIN.out
end Go.Proofs.Ythfbfdkjgkkpcaa

namespace Go.Proofs.Ythfbfdkjgkkpcaa
open Go Go.RowKit

def TSt.apply (T : TSt) (l : List TChg) : TSt × Nat :=
  if T.down then (T, 5)
  else if (encB l).2 ≠ 0 then ({ T with down := decide ((encB l).2 = 5) }, (encB l).2)
  else if (T.J.append (encB l).1).2 ≠ 0 then ({ T with J := (T.J.append (encB l).1).1, down := decide ((T.J.append (encB l).1).2 = 5) }, (T.J.append (encB l).1).2)
  else if (T.J.append (encB l).1).1.sync.2 ≠ 0 then ({ T with J := (T.J.append (encB l).1).1.sync.1, down := decide ((T.J.append (encB l).1).1.sync.2 = 5) }, (T.J.append (encB l).1).1.sync.2)
  else (⟨(T.J.append (encB l).1).1.sync.1, tdo T.m l, false⟩, 0)
def TPost (w : World) (d tb : Nat) (S : List Nat) (r : TSt × Nat) (e : Ending) (w' : World) : Prop :=
  e = .returned (.int .i64 r.2) ∧ ∃ S', TAt w' d tb S' r.1 ∧ Upd S w w' ∧ Sub w S S'

theorem table_shut {w w3 : World} {d tb jb mb k : Nat} {S S0 S0' : List Nat} {J : JSt} {m : List (List UInt8 × List UInt8)} {b : Bool} {q : Value} (hS : S = tb :: mb :: S0) (hmb : mb ∉ S0) (hlt : mb < w.heap.size) (hJ : JAt w3 d jb S0' J) (hM : MapB w3 mb m)
    (ht : w3.heap[tb]? = some (.cells #[.pointer (some ⟨jb, 0, none⟩), .map (some mb), q] 78 (0, 0))) (hU : Upd S w w3) (hsub : Sub w S0 S0') : TPost w d tb S (⟨J, m, b⟩, k) (.returned (.int .i64 k)) (w3.setCell ⟨tb, 2, none⟩ (.bool b)) := by
  have hUs : Upd [tb] w3 (w3.setCell ⟨tb, 2, none⟩ (.bool b)) := Upd.setCell _ _ _ (by simp)
  have off8 : Off w3 5 [tb] := Off.cons_cells ht (by decide) (Off.nil _ _)
  have hn : tb ∉ S0' := not_mem_off (hJ.off (e := 78) (by decide) (by decide) (by decide)) ht
  refine ⟨rfl, tb :: mb :: S0', ⟨jb, mb, S0', rfl, hsub.not_mem hlt hmb, hJ.upd hUs off8 (fun j hj => by simp; rintro rfl; exact hn hj), hM.upd hUs off8 (by simp; exact hM.ne_cells ht), ?_⟩, ?_, ?_⟩
  · rw [setCell_get ht]; rfl
  · exact hU.trans hUs (fun i hi _ => by simp at hi; subst hi; rw [hS]; simp)
  · intro j hj
    rw [hS]
    simp only [List.mem_cons] at hj ⊢
    rcases hj with rfl | rfl | hj
    · simp
    · simp
    · rcases hsub j hj with h | h
      · left; right; right; exact h
      · right; exact h
theorem JAt.off8 {w : World} {d j : Nat} {S : List Nat} {J : JSt} (h : JAt w d j S J) : Off w 5 S := h.off (by decide) (by decide) (by decide)
theorem encGo_err : ∀ (l : List TChg) (pre : List UInt8), (encGo pre l).2 ≠ 5
  | [], pre => by simp [encGo]
  | c :: r, pre => by
    unfold encGo
    split
    · simp
    split
    · simp
    · exact encGo_err r _
theorem encB_err (l : List TChg) : (encB l).2 ≠ 5 := by
  unfold encB
  split
  · simp
  · exact encGo_err _ _
theorem encGo_len : ∀ (l : List TChg) (pre : List UInt8), pre.length ≤ 1048568 → (encGo pre l).1.length ≤ 1048568
  | [], pre, h => h
  | c :: r, pre, h => by
    unfold encGo
    split
    · simp
    split
    · simp
    · rename_i h1; exact encGo_len r _ (by omega)
theorem encB_len (l : List TChg) : (encB l).1.length ≤ 1048568 := by
  unfold encB
  split
  · simp
  · rename_i h
    have := countB_len10 (n := l.length) ⟨by omega⟩
    exact encGo_len _ _ (by omega)
theorem append_loose (J : JSt) (p : List UInt8) : (J.append p).1.D.loose.length ≤ J.D.loose.length + 1 := by
  have hd : ∀ n q, (J.D.append n q).1.loose.length ≤ J.D.loose.length + 1 := by
    intro n q
    unfold DSt.append
    repeat' split
    all_goals first | (simp; done) | exact does_loose _ _
  unfold JSt.append
  repeat' split
  · simp
  · exact hd _ _
  · exact hd _ _

set_option maxRecDepth 100000 in
set_option maxHeartbeats 2000000 in
theorem table_apply (w : World) (d tb : Nat) (S : List Nat) (T : TSt) (h : TAt w d tb S T) (lv : Value) (l : List TChg) (hc : Chgs w lv l) (hll : l.length ≤ 1000000000) (hvl : ∀ c ∈ l, c.val.length ≤ 1073741824)
    (hlo : T.J.D.loose.length ≤ 999999999) (hsz : T.J.size ≤ 4611686018427387904) :
    Calls Try.prog 10 #[.pointer (some ⟨tb, 0, none⟩), lv] w (TPost w d tb S (T.apply l)) := by
  have hup := table_up w d tb S T h
  obtain ⟨jb, mb, S0, hS, hmb, hJ, hM, ht⟩ := h.ex
  have henc := table_encode w lv l hc hll
  by_cases hdn : T.down = true
  · rw [hdn] at hup
    have HP := Lib.hid (show TPost w d tb S (T.apply l) (.returned (.int .i64 (5 : Nat))) w from by
      have : T.apply l = (T, 5) := by unfold TSt.apply; rw [if_pos hdn]
      rw [this]
      exact ⟨rfl, S, h, Upd.refl _ _, Sub.refl _ _⟩)
    clear henc h hJ hM ht hc hll hvl hlo hsz
    go_enter Try.func10, Try.ntmps10
    go_wp2_with (go_at_call 30; refine hup.mono ?_; rintro e w1 ⟨rfl, rfl⟩)
    go_ret
    exact HP.out
  have hdn' : T.down = false := by simpa using hdn
  rw [hdn'] at hup ht
  have hne5 := encB_err l
  have hlen := encB_len l
  have hF : T.apply l = if (encB l).2 ≠ 0 then ({ T with down := decide ((encB l).2 = 5) }, (encB l).2)
      else if (T.J.append (encB l).1).2 ≠ 0 then ({ T with J := (T.J.append (encB l).1).1, down := decide ((T.J.append (encB l).1).2 = 5) }, (T.J.append (encB l).1).2)
      else if (T.J.append (encB l).1).1.sync.2 ≠ 0 then ({ T with J := (T.J.append (encB l).1).1.sync.1, down := decide ((T.J.append (encB l).1).1.sync.2 = 5) }, (T.J.append (encB l).1).1.sync.2)
      else (⟨(T.J.append (encB l).1).1.sync.1, tdo T.m l, false⟩, 0) := by unfold TSt.apply; rw [if_neg hdn]
  unfold EncPost at henc
  generalize hr : encB l = r at *
  obtain ⟨rec, k⟩ := r
  have c0 : w.cell? ⟨tb, 0, none⟩ = some (.pointer (some ⟨jb, 0, none⟩)) := by rw [cell_lit w tb 0 _ _ _ ht]; rfl
  have c2 : w.cell? ⟨tb, 2, none⟩ = some (.bool false) := by rw [cell_lit w tb 2 _ _ _ ht]; rfl
  have f2 := frozen_lit w tb 2 _ _ ht
  have hn0 : tb ∉ S0 := not_mem_off (hJ.off (e := 78) (by decide) (by decide) (by decide)) ht
  have hmlt := hM.lt
  have HS := Lib.hid hS; have HMB := Lib.hid hmb; have HJ := Lib.hid hJ; have HM := Lib.hid hM; have HT := Lib.hid ht
  by_cases hk : k ≠ 0
  · have h1 : ((k : Int) == 0) = false := by simp; omega
    have h2 : ((k : Int) = 0) = False := by simp; omega
    have h3 : decide ((k : Int) = 5) = false := by simp; omega
    have h4 : ((k : Int) == 5) = false := by simp; omega
    have HP := Lib.hid (show ∀ w3, Upd [] w w3 → TPost w d tb S (T.apply l) (.returned (.int .i64 k)) (w3.setCell ⟨tb, 2, none⟩ (.bool false)) from by
      intro w3 hU
      rw [hF, if_pos hk, show decide (k = 5) = false from by simpa using hne5]
      exact table_shut HS.out HMB.out hmlt (HJ.out.upd0 hU) (HM.out.upd hU (Off.nil _ _) (by simp)) (hU.get HT.out (by simp)) (hU.mono (by simp)) (Sub.refl _ _))
    clear hr hlen hvl hlo hsz hll hc h hF hJ hM ht hS
    go_enter Try.func10, Try.ntmps10
    go_wp2_with (first
      | (go_at_call 30; refine hup.mono ?_; rintro e w1 ⟨rfl, rfl⟩)
      | (go_at_call 19; refine henc.mono ?_; rintro e w1 ⟨v1, rfl, hv1, hU1⟩; (have c2' := hU1.cell c2 (by simp)); (have f2' := frozen_lit w1 tb 2 _ _ (hU1.get HT.out (by simp)))))
    go_ret
    exact HP.out w1 hU1
  have hk : k = 0 := Classical.not_not.1 hk
  subst hk
  rw [if_neg (by simp)] at hF
  have hap := fun (w1 : World) (v1 : Value) (hU : Upd [] w w1) (hv : By w1 v1 rec) => journal_append w1 d jb S0 T.J (hJ.upd0 hU) v1 rec hv (by dsimp only at hlen; omega) (by omega) hsz
  have hal := append_loose T.J rec
  have HAP := Lib.hid hap
  clear hap
  dsimp only at hF
  generalize hr2 : T.J.append rec = r2 at *
  obtain ⟨J2, k2⟩ := r2
  by_cases hk2 : k2 ≠ 0
  · have h1 : ((k2 : Int) == 0) = false := by simp; omega
    have h2 : ((k2 : Int) = 0) = False := by simp; omega
    generalize hq : decide (k2 = 5) = q at hF
    have h3 : ((k2 : Int) == 5) = q := by rw [← hq]; by_cases h5 : k2 = 5 <;> simp [h5]; omega
    have h4 : decide ((k2 : Int) = 5) = q := by rw [← hq]; by_cases h5 : k2 = 5 <;> simp [h5]; omega
    have HP := Lib.hid (show ∀ w3 S0', JAt w3 d jb S0' J2 → Upd S0 w w3 → Sub w S0 S0' → TPost w d tb S (T.apply l) (.returned (.int .i64 k2)) (w3.setCell ⟨tb, 2, none⟩ (.bool q)) from by
      intro w3 S0' hJ3 hU hsub
      rw [hF, if_pos hk2]
      exact table_shut HS.out HMB.out hmlt hJ3 (HM.out.upd hU HJ.out.off8 HMB.out) (hU.get HT.out hn0) (hU.mono (fun i hi _ => by rw [HS.out]; simp [hi])) hsub)
    have HH4 := Lib.hid h4
    clear hr hlen hvl hlo hsz hll hc h hF hJ hM ht hS hr2 hal hk2 hq
    go_enter Try.func10, Try.ntmps10
    go_wp2_with (first
      | (go_at_call 30; refine hup.mono ?_; rintro e w1 ⟨rfl, rfl⟩)
      | (go_at_call 19; refine henc.mono ?_; rintro e w1 ⟨v1, rfl, hv1, hU1⟩; (have c0' := hU1.cell c0 (by simp)))
      | (go_at_call 31; refine (HAP.out w1 v1 hU1 hv1.by).mono ?_; rintro e w2 ⟨rfl, S2, hJ2, hU2, hS2⟩; (have hU12 : Upd S0 w w2 := (hU1.mono (T := S0) (by simp)).trans hU2 (fun i hi _ => hi)); (have c2' := hU12.cell c2 hn0); (have f2' := frozen_lit w2 tb 2 _ _ (hU12.get HT.out hn0))))
    go_ret
    have hsub : Sub w S0 S2 := fun j hj => (hS2 j hj).imp_right (fun h => Nat.le_trans hU1.size h)
    first | exact HP.out w2 S2 hJ2 hU12 hsub | (rw [HH4.out]; exact HP.out w2 S2 hJ2 hU12 hsub)
  have hk2 : k2 = 0 := Classical.not_not.1 hk2
  subst hk2
  rw [if_neg (by simp)] at hF
  dsimp only at hF
  have hsy := fun (w2 : World) (S2 : List Nat) (hJ2 : JAt w2 d jb S2 J2) => journal_sync w2 d jb S2 J2 hJ2 (by dsimp only at hal; omega)
  have HSY := Lib.hid hsy
  clear hsy
  generalize hr3 : J2.sync = r3 at *
  obtain ⟨J3, k3⟩ := r3
  by_cases hk3 : k3 ≠ 0
  · have h1 : ((k3 : Int) == 0) = false := by simp; omega
    have h2 : ((k3 : Int) = 0) = False := by simp; omega
    generalize hq : decide (k3 = 5) = q at hF
    have h3 : ((k3 : Int) == 5) = q := by rw [← hq]; by_cases h5 : k3 = 5 <;> simp [h5]; omega
    have h4 : decide ((k3 : Int) = 5) = q := by rw [← hq]; by_cases h5 : k3 = 5 <;> simp [h5]; omega
    have HP := Lib.hid (show ∀ w3 S0', JAt w3 d jb S0' J3 → Upd S0 w w3 → Sub w S0 S0' → TPost w d tb S (T.apply l) (.returned (.int .i64 k3)) (w3.setCell ⟨tb, 2, none⟩ (.bool q)) from by
      intro w3 S0' hJ3 hU hsub
      rw [hF, if_pos hk3]
      exact table_shut HS.out HMB.out hmlt hJ3 (HM.out.upd hU HJ.out.off8 HMB.out) (hU.get HT.out hn0) (hU.mono (fun i hi _ => by rw [HS.out]; simp [hi])) hsub)
    have HH4 := Lib.hid h4
    clear hr hlen hvl hlo hsz hll hc h hF hJ hM ht hS hr2 hal hk3 hq hr3
    go_enter Try.func10, Try.ntmps10
    go_wp2_with (first
      | (go_at_call 30; refine hup.mono ?_; rintro e w1 ⟨rfl, rfl⟩)
      | (go_at_call 19; refine henc.mono ?_; rintro e w1 ⟨v1, rfl, hv1, hU1⟩; (have c0' := hU1.cell c0 (by simp)))
      | (go_at_call 31; refine (HAP.out w1 v1 hU1 hv1.by).mono ?_; rintro e w2 ⟨rfl, S2, hJ2, hU2, hS2⟩; (have hU12 : Upd S0 w w2 := (hU1.mono (T := S0) (by simp)).trans hU2 (fun i hi _ => hi)); (have hsub : Sub w S0 S2 := fun j hj => (hS2 j hj).imp_right (fun h => Nat.le_trans hU1.size h)); (have c0'' := hU12.cell c0 hn0))
      | (go_at_call 32; refine (HSY.out w2 S2 hJ2).mono ?_; rintro e w3 ⟨rfl, S3, hJ3, hU3, hS3⟩; (have hU13 := hU12.sub hsub hU3); (have hsub3 := hsub.trans hS3 hU12.size); (have c2' := hU13.cell c2 hn0); (have f2' := frozen_lit w3 tb 2 _ _ (hU13.get HT.out hn0))))
    go_ret
    first | exact HP.out w3 S3 hJ3 hU13 hsub3 | (rw [HH4.out]; exact HP.out w3 S3 hJ3 hU13 hsub3)
  have hk3 : k3 = 0 := Classical.not_not.1 hk3
  subst hk3
  rw [if_neg (by simp)] at hF
  dsimp only at hF
  have hdo := fun (w3 : World) (hU : Upd S0 w w3) => table_do w3 tb jb mb T.m (.bool false) (hM.upd hU hJ.off8 hmb) (hU.get ht hn0) lv l (hc.upd hU hJ.off8 (hJ.off (by decide) (by decide) (by decide))) hll hvl
  have HDO := Lib.hid hdo
  have HP := Lib.hid (show ∀ w3 w4 S0', JAt w3 d jb S0' J3 → Upd S0 w w3 → Sub w S0 S0' → Upd [mb] w3 w4 → MapB w4 mb (tdo T.m l) → TPost w d tb S (T.apply l) (.returned (.int .i64 (0 : Nat))) (w4.setCell ⟨tb, 2, none⟩ (.bool false)) from by
    intro w3 w4 S0' hJ3 hU hsub hU4 hM4
    rw [hF]
    have hm3 := HM.out.upd hU HJ.out.off8 HMB.out
    have htm : tb ∉ [mb] := by simp; exact (hm3.ne_cells (hU.get HT.out hn0)).symm
    exact table_shut HS.out HMB.out hmlt (hJ3.upd hU4 (hm3.off (Off.nil _ _)) (fun j hj => by simp; rintro rfl; exact hsub.not_mem hmlt HMB.out hj)) hM4 (hU4.get (hU.get HT.out hn0) htm) ((hU.mono (fun i hi _ => by rw [HS.out]; simp [hi])).trans hU4 (fun i hi _ => by simp at hi; subst hi; rw [HS.out]; simp)) hsub)
  have hmt : tb ≠ mb := (hM.ne_cells ht).symm
  clear hr hlen hvl hlo hsz hll hc h hF hJ hM ht hS hr2 hal hr3 hdo
  go_enter Try.func10, Try.ntmps10
  go_wp2_with (first
    | (go_at_call 30; refine hup.mono ?_; rintro e w1 ⟨rfl, rfl⟩)
    | (go_at_call 19; refine henc.mono ?_; rintro e w1 ⟨v1, rfl, hv1, hU1⟩; (have c0' := hU1.cell c0 (by simp)))
    | (go_at_call 31; refine (HAP.out w1 v1 hU1 hv1.by).mono ?_; rintro e w2 ⟨rfl, S2, hJ2, hU2, hS2⟩; (have hU12 : Upd S0 w w2 := (hU1.mono (T := S0) (by simp)).trans hU2 (fun i hi _ => hi)); (have hsub : Sub w S0 S2 := fun j hj => (hS2 j hj).imp_right (fun h => Nat.le_trans hU1.size h)); (have c0'' := hU12.cell c0 hn0))
    | (go_at_call 32; refine (HSY.out w2 S2 hJ2).mono ?_; rintro e w3 ⟨rfl, S3, hJ3, hU3, hS3⟩; (have hU13 := hU12.sub hsub hU3); (have hsub3 := hsub.trans hS3 hU12.size))
    | (go_at_call 29; refine (HDO.out w3 hU13).mono ?_; rintro e w4 ⟨rfl, hU4, hM4⟩; (have hg4 := hU4.get (hU13.get HT.out hn0) (by simp; exact hmt)); (have c2' : w4.cell? ⟨tb, 2, none⟩ = some (.bool false) := by rw [cell_lit w4 tb 2 _ _ _ hg4]; rfl); (have f2' := frozen_lit w4 tb 2 _ _ hg4)))
  go_ret
  exact HP.out w3 w4 S3 hJ3 hU13 hsub3 hU4 hM4
end Go.Proofs.Ythfbfdkjgkkpcaa

namespace Go.Proofs.Ythfbfdkjgkkpcaa
open Go Go.RowKit

theorem Own.off {w : World} {B e sz : Nat} {v : Value} {n : Nat} {xs : List Value} (h : w.ownsRow B e sz v n xs) {e' : TypeId} (hne : e ≠ e') : Off w e' v.ownBlock.toList := by
  rcases h.2 with ⟨rfl, _⟩ | ⟨g, cap, cur, rfl, _, hg, _⟩
  · exact Off.nil _ _
  · exact Off.cons_cells hg hne (Off.nil _ _)
/-- The cells of pairs. -/
def PCells (w : World) : List Value → List (List UInt8 × List UInt8) → Prop
  | [], [] => True
  | k :: v :: r, p :: l => k = encS p.1 ∧ By w v p.2 ∧ PCells w r l
  | _, _ => False
theorem PCells.upd {S : List Nat} {w w' : World} (hU : Upd S w w') (hS : Off w 5 S) : ∀ {cs : List Value} {l : List (List UInt8 × List UInt8)}, PCells w cs l → PCells w' cs l
  | [], [], _ => trivial
  | _ :: _ :: _, _ :: _, h => ⟨h.1, h.2.1.upd hU hS, PCells.upd hU hS h.2.2⟩
theorem PCells.len {w : World} : ∀ {cs : List Value} {l : List (List UInt8 × List UInt8)}, PCells w cs l → cs.length = l.length * 2
  | [], [], _ => rfl
  | _ :: _ :: _, _ :: _, h => by have := PCells.len h.2.2; simp only [List.length_cons]; omega
theorem PCells.append {w : World} {ds : List Value} {m : List (List UInt8 × List UInt8)} (hd : PCells w ds m) : ∀ {cs : List Value} {l : List (List UInt8 × List UInt8)}, PCells w cs l → PCells w (cs ++ ds) (l ++ m)
  | [], [], _ => hd
  | _ :: _ :: _, _ :: _, h => ⟨h.1, h.2.1, PCells.append hd h.2.2⟩
theorem PCells.get {w : World} : ∀ {cs : List Value} {l : List (List UInt8 × List UInt8)}, PCells w cs l → ∀ {i : Nat} {p : List UInt8 × List UInt8}, l[i]? = some p →
    ∃ pv, cs[i * 2 + 0]? = some (encS p.1) ∧ cs[i * 2 + 1]? = some pv ∧ By w pv p.2
  | [], [], _, _, _, h => by simp at h
  | k :: a :: r, p0 :: l, hc, 0, c, h => by
    simp only [List.getElem?_cons_zero, Option.some.injEq] at h
    subst h
    obtain ⟨rfl, hp, _⟩ := hc
    exact ⟨a, rfl, rfl, hp⟩
  | k :: a :: r, p0 :: l, hc, i + 1, c, h => by
    simp only [List.getElem?_cons_succ] at h
    obtain ⟨pv, h0, h1, h4⟩ := PCells.get hc.2.2 h
    refine ⟨pv, ?_, ?_, h4⟩
    · rw [show (i + 1) * 2 + 0 = (i * 2 + 0) + 2 by omega]; simpa using h0
    · rw [show (i + 1) * 2 + 1 = (i * 2 + 1) + 2 by omega]; simpa using h1
theorem PCells.take {w : World} : ∀ {cs : List Value} {l : List (List UInt8 × List UInt8)}, PCells w cs l → ∀ (i : Nat), PCells w (cs.take (i * 2)) (l.take i)
  | [], [], _, i => by simp; trivial
  | k :: a :: r, p0 :: l, hc, 0 => by simp; trivial
  | k :: a :: r, p0 :: l, hc, i + 1 => by
    rw [show (i + 1) * 2 = i * 2 + 1 + 1 from by omega]
    exact ⟨hc.1, hc.2.1, PCells.take hc.2.2 i⟩
theorem TCells.append {w : World} {ds : List Value} {m : List TChg} (hd : TCells w ds m) : ∀ {cs : List Value} {l : List TChg}, TCells w cs l → TCells w (cs ++ ds) (l ++ m)
  | [], [], _ => hd
  | _ :: _ :: _ :: _, _ :: _, h => ⟨h.1, h.2.1, h.2.2.1, TCells.append hd h.2.2.2⟩
/-- A slice that reads as pairs; the call's own one. -/
def Prs (w : World) (v : Value) (l : List (List UInt8 × List UInt8)) : Prop := ∃ cells, Rd w 46 2 v l.length cells ∧ PCells w cells l
def OwnPrs (w : World) (B : Nat) (v : Value) (l : List (List UInt8 × List UInt8)) : Prop := ∃ cells, w.ownsRow B 46 2 v l.length cells ∧ PCells w cells l
theorem OwnPrs.prs {w : World} {B : Nat} {v : Value} {l : List (List UInt8 × List UInt8)} (h : OwnPrs w B v l) : Prs w v l := by
  obtain ⟨cells, h1, h2⟩ := h
  exact ⟨cells, Rd.of_own h1, h2⟩
theorem OwnPrs.upd0 {w w' : World} {B : Nat} {v : Value} {l : List (List UInt8 × List UInt8)} (h : OwnPrs w B v l) (hU : Upd [] w w') : OwnPrs w' B v l := by
  obtain ⟨cells, h1, h2⟩ := h
  exact ⟨cells, Own.upd0 h1 hU, h2.upd hU (Off.nil _ _)⟩
theorem OwnPrs.mono {w : World} {B B' : Nat} {v : Value} {l : List (List UInt8 × List UInt8)} (h : OwnPrs w B v l) (hB : B' ≤ B) : OwnPrs w B' v l := by
  obtain ⟨cells, h1, h2⟩ := h
  exact ⟨cells, Own.mono h1 hB, h2⟩
theorem OwnPrs.nil (w : World) (B : Nat) : OwnPrs w B (.slice none 0 0) [] := ⟨[], World.ownsRow_nil _ _ _ _, trivial⟩
theorem Prs.upd {S : List Nat} {w w' : World} {v : Value} {l : List (List UInt8 × List UInt8)} (h : Prs w v l) (hU : Upd S w w') (h1 : Off w 5 S) (h2 : Off w 46 S) : Prs w' v l := by
  obtain ⟨cells, ha, hb⟩ := h
  exact ⟨cells, ha.upd hU h2, hb.upd hU h1⟩
theorem Prs.upd0 {w w' : World} {v : Value} {l : List (List UInt8 × List UInt8)} (h : Prs w v l) (hU : Upd [] w w') : Prs w' v l := h.upd hU (Off.nil _ _) (Off.nil _ _)
theorem Prs.nil (w : World) : Prs w (.slice none 0 0) [] := ⟨[], Rd.nil _ _ _, trivial⟩
theorem Prs.shape {w : World} {v : Value} {l : List (List UInt8 × List UInt8)} (h : Prs w v l) : ∃ ao cap, v = .slice ao l.length cap := by
  obtain ⟨cells, h1, _⟩ := h
  obtain ⟨ao, cap, h2, _⟩ := h1.shape
  exact ⟨ao, cap, h2⟩
/-- The slice value v reads as n elements of sz cells each, whose cells are xs, whatever the row behind it: an argument. -/
def Rdx (w : World) (sz : Nat) (v : Value) (n : Nat) (xs : List Value) : Prop :=
  xs.length = n * sz ∧ n ≤ maxLen ∧ ((v = .slice none 0 0 ∧ n = 0) ∨ ∃ a cap, v = .slice (some a) n cap ∧ n ≤ cap ∧ ∀ j u, xs[j]? = some u → w.cell? (a.add j) = some u)
theorem Rd.x {w : World} {e sz : Nat} {v : Value} {n : Nat} {xs : List Value} (h : Rd w e sz v n xs) : Rdx w sz v n xs := by
  refine ⟨h.1, h.2.1, ?_⟩
  rcases h.2.2 with hn | ⟨b, off, cap, cur, fz, rfl, h1, h2, h3, h4⟩
  · exact .inl hn
  · refine .inr ⟨_, cap, rfl, h1, fun j u hj => ?_⟩
    have hlt : j < n * sz := by rw [← h.1]; exact (List.getElem?_eq_some_iff.1 hj).1
    rw [Addr.add_lit, h.cell j hlt, hj]
theorem Rdx.upd0 {w w' : World} {sz : Nat} {v : Value} {n : Nat} {xs : List Value} (h : Rdx w sz v n xs) (hU : Upd [] w w') : Rdx w' sz v n xs := by
  refine ⟨h.1, h.2.1, ?_⟩
  rcases h.2.2 with hn | ⟨a, cap, rfl, h1, h2⟩
  · exact .inl hn
  · exact .inr ⟨a, cap, rfl, h1, fun j u hj => hU.cell (h2 j u hj) (by simp)⟩
theorem Rdx.shape {w : World} {sz : Nat} {v : Value} {n : Nat} {xs : List Value} (hR : Rdx w sz v n xs) : ∃ ao cap, v = .slice ao n cap ∧ n ≤ cap := by
  rcases hR.2.2 with ⟨rfl, h2⟩ | ⟨a, cap, rfl, h2, _⟩
  · exact ⟨none, 0, by rw [h2], by omega⟩
  · exact ⟨_, cap, rfl, h2⟩
abbrev ByX (w : World) (v : Value) (l : List UInt8) : Prop := Rdx w 1 v l.length (l.map enc)
section
variable {P : Program} {ops : Array Oper} {Q : Exit → Act → World → Prop} {a : Act} {w : World} {rest : List Oper} {o : Oper}
theorem addr_none {w : World} {ad : Addr} {u : Value} (h : w.cell? ad = some u) : ad.spot = none := by
  unfold World.cell? at h
  split at h
  · split at h
    · cases h
    · rename_i hs; simpa using hs
  · cases h
theorem Rdx.at {sz n cap : Nat} {ao : Option Addr} {xs : List Value} (hR : Rdx w sz (.slice ao n cap) n xs) (h0 : 0 < xs.length) : ∃ b off, ao = some ⟨b, off, none⟩ ∧ ∀ j u, xs[j]? = some u → w.cell? ⟨b, off + j, none⟩ = some u := by
  rcases hR.2.2 with ⟨hv, hn⟩ | ⟨ad, cap', hv, h2, h3⟩
  · rw [hR.1, hn] at h0; simp at h0
  · cases hv
    have h4 := h3 0 _ (List.getElem?_eq_getElem h0)
    rw [show ad.add 0 = ad from by simp [Addr.add]] at h4
    have hnone := addr_none h4
    obtain ⟨bl, off, sp⟩ := ad
    cases hnone
    exact ⟨bl, off, rfl, fun j u hj => by have := h3 j u hj; rwa [Addr.add_lit] at this⟩
theorem run_indexAtX {T e sz b : Nat} (hE : Elem P T e sz b) {v : Value} {n : Nat} {xs : List Value} (hR : Rdx w sz v n xs) (k : IntKind) (i : Int) (h0 : 0 ≤ i) (h1 : i < n) :
    ∃ ad, (Instr.indexAt T v (.int k i)).run P w = .ok (.pointer (some ad)) w ∧ (∀ j, j < sz → w.cell? (ad.add j) = xs[i.toNat * sz + j]?) ∧ ad.spot = none := by
  rcases hR.2.2 with ⟨rfl, h2⟩ | ⟨ad, cap, rfl, h2, h3⟩
  · omega
  · have hlt : ∀ j, j < sz → i.toNat * sz + j < xs.length := by
      intro j hj
      have hn : i.toNat + 1 ≤ n := by omega
      have := Nat.mul_le_mul_right sz hn
      rw [Nat.add_mul, Nat.one_mul] at this
      rw [hR.1]; omega
    have hp := hE.pos
    have hnone : ad.spot = none := by
      have hx0 : 0 < xs.length := by have := hlt 0 hp; omega
      have h4 : xs[0]? = some xs[0] := List.getElem?_eq_getElem hx0
      have := h3 0 _ h4
      rw [show ad.add 0 = ad from by simp [Addr.add]] at this
      exact addr_none this
    obtain ⟨bl, off, sp⟩ := ad
    cases hnone
    refine ⟨⟨bl, off + i.toNat * sz, none⟩, ?_, ?_, rfl⟩
    · have hs := sizeOf_run hE w
      simp only [Instr.indexAt, asIntOf, Sem.run_bind, Sem.run_pure, Result.andThen_ok, run_underlying hE.und]
      simp only [h0, h1, and_self, if_true, Sem.run_bind, hs, Result.andThen_ok, Sem.run_pure, Addr.add_lit]
    · intro j hj
      have h5 := List.getElem?_eq_getElem (hlt j hj)
      have := h3 _ _ h5
      rw [Addr.add_lit] at this ⊢
      rw [Nat.add_assoc, this, h5]
theorem wpl_indexAddrX {T e sz b : Nat} (hE : Elem P T e sz b) (hw : Region.wanted o (yielded ops a.tmps) = true) {x ix : Operand} (ho : o.op = .indexAddr T x ix)
    {v : Value} {n : Nat} {xs : List Value} (hR : Rdx w sz v n xs) (hx : a.eval x = v) {k : IntKind} {i : Int} (hi : a.eval ix = .int k i) (h0 : 0 ≤ i) (h1 : i < n)
    (h : ∀ ad, (∀ j, j < sz → w.cell? (ad.add j) = xs[i.toNat * sz + j]?) → ad.spot = none → wpList P ops Q rest (a.put o.dst (.pointer (some ad))) w) : wpList P ops Q (o :: rest) a w := by
  obtain ⟨ad, hr, hc, hs⟩ := run_indexAtX (w := w) hE hR k i h0 h1
  refine wpl_run hw (v := .pointer (some ad)) (w' := w) ?_ (h ad hc hs)
  simp [execOp, ho, hx, hi, hr, Sem.run_bind, Result.andThen]
theorem wpl_indexAddr1X {T e b : Nat} (hE : Elem P T e 1 b) (hw : Region.wanted o (yielded ops a.tmps) = true) {x ix : Operand} (ho : o.op = .indexAddr T x ix)
    {v : Value} {n : Nat} {xs : List Value} (hR : Rdx w 1 v n xs) (hx : a.eval x = v) {k : IntKind} {i : Int} (hi : a.eval ix = .int k i) (h0 : 0 ≤ i) (h1 : i < n) (u : Value) (hu : xs[i.toNat]? = some u)
    (h : ∀ ad, w.cell? ad = some u → wpList P ops Q rest (a.put o.dst (.pointer (some ad))) w) : wpList P ops Q (o :: rest) a w := by
  refine wpl_indexAddrX hE hw ho hR hx hi h0 h1 fun ad hc hs => h ad ?_
  have := hc 0 (by omega)
  rw [Nat.mul_one, Nat.add_zero, hu] at this
  simpa [Addr.add] using this
end
/-- The document's changes: the cells, and a slice of them. -/
def XCells (w : World) : List Value → List TChg → Prop
  | [], [] => True
  | k :: g :: v :: r, c :: l => k = encS c.key ∧ g = .bool c.gone ∧ ByX w v c.val ∧ XCells w r l
  | _, _ => False
theorem XCells.upd0 {w w' : World} (hU : Upd [] w w') : ∀ {cs : List Value} {l : List TChg}, XCells w cs l → XCells w' cs l
  | [], [], _ => trivial
  | _ :: _ :: _ :: _, _ :: _, h => ⟨h.1, h.2.1, h.2.2.1.upd0 hU, XCells.upd0 hU h.2.2.2⟩
theorem XCells.get {w : World} : ∀ {cs : List Value} {l : List TChg}, XCells w cs l → ∀ {i : Nat} {c : TChg}, l[i]? = some c →
    ∃ pv, cs[i * 3 + 0]? = some (encS c.key) ∧ cs[i * 3 + 1]? = some (.bool c.gone) ∧ cs[i * 3 + 2]? = some pv ∧ ByX w pv c.val
  | [], [], _, _, _, h => by simp at h
  | k :: a :: b :: r, c0 :: l, hc, 0, c, h => by
    simp only [List.getElem?_cons_zero, Option.some.injEq] at h
    subst h
    obtain ⟨rfl, rfl, hp, _⟩ := hc
    exact ⟨b, rfl, rfl, rfl, hp⟩
  | k :: a :: b :: r, c0 :: l, hc, i + 1, c, h => by
    simp only [List.getElem?_cons_succ] at h
    obtain ⟨pv, h0, h1, h2, h4⟩ := XCells.get hc.2.2.2 h
    refine ⟨pv, ?_, ?_, ?_, h4⟩
    · rw [show (i + 1) * 3 + 0 = (i * 3 + 0) + 3 by omega]; simpa using h0
    · rw [show (i + 1) * 3 + 1 = (i * 3 + 1) + 3 by omega]; simpa using h1
    · rw [show (i + 1) * 3 + 2 = (i * 3 + 2) + 3 by omega]; simpa using h2
def RChgs (w : World) (v : Value) (l : List TChg) : Prop := ∃ cells, Rdx w 3 v l.length cells ∧ XCells w cells l
theorem RChgs.upd0 {w w' : World} {v : Value} {l : List TChg} (h : RChgs w v l) (hU : Upd [] w w') : RChgs w' v l := by
  obtain ⟨cells, ha, hb⟩ := h
  exact ⟨cells, ha.upd0 hU, hb.upd0 hU⟩
theorem RChgs.shape {w : World} {v : Value} {l : List TChg} (h : RChgs w v l) : ∃ ao cap, v = .slice ao l.length cap := by
  obtain ⟨cells, h1, _⟩ := h
  obtain ⟨ao, cap, h2, _⟩ := h1.shape
  exact ⟨ao, cap, h2⟩
theorem elPair : Elem Try.prog 33 46 2 40 := ⟨by kernel_rfl, by omega, by
  obtain ⟨i, h1, h2, h3, h4⟩ := info_parts (P := Try.prog) (e := 46) (z := .agg #[.string ⟨#[]⟩, .slice none 0 0]) (size := 2) (bytes := 40) (by kernel_rfl)
  exact ⟨i, _, h1, h2, h3, h4, rfl⟩⟩
theorem elRChg : Elem Try.prog 22 82 3 48 := ⟨by kernel_rfl, by omega, by
  obtain ⟨i, h1, h2, h3, h4⟩ := info_parts (P := Try.prog) (e := 82) (z := .agg #[.string ⟨#[]⟩, .bool false, .slice none 0 0]) (size := 3) (bytes := 48) (by kernel_rfl)
  exact ⟨i, _, h1, h2, h3, h4, rfl⟩⟩
end Go.Proofs.Ythfbfdkjgkkpcaa

namespace Go.Proofs.Ythfbfdkjgkkpcaa
open Go Go.RowKit

def TwinRel (w : World) (l : List UInt8) (x v : Value) (wr : World) : Prop := ∃ i : Nat, x = .int .i64 i ∧ i ≤ l.length ∧ OwnBy wr w.heap.size v (l.take i) ∧ Upd [] w wr
theorem ref_Twin (w : World) (p : Value) (l : List UInt8) (hp : ByX w p l) (hl : l.length ≤ 1000000000) :
    Calls Try.prog 33 #[p] w (RetBy w l) := by
  obtain ⟨ao, cap, rfl, _⟩ := hp.shape
  have HL := Lib.hid hl; clear hl
  go_enter Try.func33, Try.ntmps33
  go_wp2_with fail
  go_loopw [4, 3] (fun x v wr => TwinRel w l x v wr) (fun x _ _ => l.length - (intOf x).toNat)
  case atStart => exact ⟨0, rfl, Nat.zero_le _, World.ownsRow_nil _ _ _ _, Upd.refl _ _⟩
  case round =>
    obtain ⟨i, rfl, hi, hown, hU⟩ := hrel
    have hll := HL.out
    by_cases hlt : i < l.length
    · have htt : decide ((i : Int) < (l.length : Int)) = true := by simp; omega
      obtain ⟨b, hb⟩ : ∃ b, l[i]? = some b := ⟨_, List.getElem?_eq_getElem hlt⟩
      have hR : ByX wr (.slice ao l.length cap) l := hp.upd0 hU
      have hu : (l.map enc)[(i : Int).toNat]? = some (enc b) := by simp [hb]
      have htk : l.take (i + 1) = l.take i ++ [b] := by rw [List.take_add_one, hb]; rfl
      have HTK := Lib.hid htk
      clear htk
      go_wp2_with (first
        | ((with_reducible show wpList _ _ _ (⟨_, .indexAddr _ _ _, _, _, _, _⟩ :: _) _ _); refine wpl_indexAddr1X elU8 rfl rfl hR rfl rfl (by omega) (by omega) _ hu ?_; intro ad hcell)
        | ((with_reducible show wpList _ _ _ (⟨_, .buildSlice _ _ _, _, _, _, _⟩ :: _) _ _); refine wpl_lit_byte b elU8 rfl rfl rfl ?_; intro v1 w1 hv1 hU1 hb1)
        | ((with_reducible show wpList _ _ _ (⟨_, .call ⟨.builtin .append, _, _⟩, _, _, _, _⟩ :: _) _ _); refine wpl_append_by elU8 rfl rfl (hU.trans0 hU1) (Own.upd0 hown hU1) rfl hv1.by rfl (by have := HL.out; simp; omega) ?_; intro v2 w2 hv2 _ hU2 hb2))
      exact ⟨⟨i + 1, by simp, hlt, by rw [HTK.out]; exact hv2, hU2⟩, by simp [intOf]; omega⟩
    · have htt : decide ((i : Int) < (l.length : Int)) = false := by simp; omega
      have hie : i = l.length := by omega
      subst hie
      rw [List.take_length] at hown
      go_wp2_with fail
      go_ret
      exact ⟨_, rfl, hown, hU⟩

def SameRel (n : Nat) (a b : List UInt8) (w : World) (x : Value) (wr : World) : Prop := ∃ i : Nat, x = .int .i64 i ∧ i ≤ n ∧ Upd [] w wr ∧ a.take i = b.take i
theorem enc_ne (x y : UInt8) : ((x.toNat : Int) != (y.toNat : Int)) = decide (x ≠ y) := by
  rw [Bool.eq_iff_iff, bne_iff_ne, decide_eq_true_iff, ne_eq, ne_eq]
  constructor
  · intro h e; exact h (by rw [e])
  · intro h e; exact h (UInt8.toNat_inj.1 (by omega))
theorem ref_Same (w : World) (p q : Value) (a b : List UInt8) (hp : ByX w p a) (hq : ByX w q b) (hl : a.length ≤ 1000000000) :
    Calls Try.prog 17 #[p, q] w fun e w' => e = .returned (.bool (decide (a = b))) ∧ Upd [] w w' := by
  obtain ⟨ao, cap, rfl, _⟩ := hp.shape
  obtain ⟨bo, cap2, rfl, _⟩ := hq.shape
  by_cases hlen : a.length = b.length
  · go_enter Try.func17, Try.ntmps17
    have h1 : ((a.length : Int) != (b.length : Int)) = false := by simp [hlen]
    have HL := Lib.hid hl
    have HLE := Lib.hid hlen
    clear hlen hl
    go_wp2_with fail
    go_loopw [5] (fun x wr => SameRel a.length a b w x wr) (fun x _ => a.length - (intOf x).toNat)
    case atStart => exact ⟨0, rfl, Nat.zero_le _, Upd.refl _ _, by simp⟩
    case round =>
      obtain ⟨i, rfl, hi, hU, htk⟩ := hrel
      have hp := hp.upd0 hU
      have hq := hq.upd0 hU
      have hlen := HLE.out
      have hll := HL.out
      by_cases hlt : i < a.length
      · have htt : decide ((i : Int) < (a.length : Int)) = true := by simp; omega
        obtain ⟨x, hx⟩ : ∃ x, a[i]? = some x := ⟨_, List.getElem?_eq_getElem hlt⟩
        obtain ⟨y, hy⟩ : ∃ y, b[i]? = some y := ⟨_, List.getElem?_eq_getElem (by omega)⟩
        obtain ⟨b1, o1, rfl, hc1⟩ := hp.at (by simp; omega)
        obtain ⟨b2, o2, rfl, hc2⟩ := hq.at (by simp; omega)
        have k1 := hc1 i (enc x) (by simp [hx])
        have k2 := hc2 i (enc y) (by simp [hy])
        have i0 : (0 : Int) ≤ (i : Int) := by omega
        have i1 : (i : Int) < (a.length : Int) := by omega
        have i2 : (i : Int) < (b.length : Int) := by omega
        have HTK := Lib.hid htk
        clear hlen hc1 hc2 htk
        by_cases hxy : x = y
        · have hne : ((x.toNat : Int) != (y.toNat : Int)) = false := by rw [enc_ne]; simpa using hxy
          have HR := Lib.hid (show SameRel a.length a b w (.int .i64 ((i : Int) + 1)) wr.drew from ⟨i + 1, by simp, hlt, hU.trans0 (Upd.drew [] _), by rw [List.take_add_one, List.take_add_one, HTK.out, hx, hy, hxy]⟩)
          clear hxy hx hy
          go_wp2_with fail
          go_region_held3 (fun W => W.cell? ⟨b1, o1 + i, none⟩ = some (enc x) ∧ W.cell? ⟨b2, o2 + i, none⟩ = some (enc y)) (first | exact ⟨k1, k2⟩ | go_keep) (fail)
          go_wp2_with fail
          exact ⟨HR.out, by simp [intOf]; omega⟩
        · have hne : ((x.toNat : Int) != (y.toNat : Int)) = true := by rw [enc_ne]; simpa using hxy
          have hab : decide (a = b) = false := by simp; intro e; subst e; rw [hx] at hy; exact hxy (by injection hy)
          clear hxy hx hy
          go_wp2_with fail
          go_region_held3 (fun W => W.cell? ⟨b1, o1 + i, none⟩ = some (enc x) ∧ W.cell? ⟨b2, o2 + i, none⟩ = some (enc y)) (first | exact ⟨k1, k2⟩ | go_keep) (fail)
          go_wp2_with fail
          go_ret
          exact ⟨by rw [hab]; rfl, hU.trans0 (Upd.drew [] _)⟩
      · have htt : decide ((i : Int) < (a.length : Int)) = false := by simp; omega
        have hie : i = a.length := by omega
        go_wp2_with fail
        go_ret
        rw [hie, List.take_length, hlen, List.take_length] at htk
        exact ⟨by rw [decide_eq_true htk]; rfl, hU⟩
  · have h1 : ((a.length : Int) != (b.length : Int)) = true := by simp; omega
    have h2 : decide (a = b) = false := by simp; intro h; exact hlen (by rw [h])
    go_enter Try.func17, Try.ntmps17
    go_wp2_with fail
    go_ret
    exact ⟨by rw [h2]; rfl, Upd.refl _ _⟩

theorem ext_yes {head k : List UInt8} (h1 : head.length ≤ k.length) (h2 : ((⟨k.toArray⟩ : ByteArray).extract 0 head.length).toList = head) : head.isPrefixOf k = true := prefix_take.2 ⟨h1, by rw [← ext_take]; exact h2⟩
theorem ext_no {head k : List UInt8} (h2 : ¬ ((⟨k.toArray⟩ : ByteArray).extract 0 head.length).toList = head) : head.isPrefixOf k = false := by
  cases hc : head.isPrefixOf k with
  | false => rfl
  | true => exact absurd (by rw [ext_take]; exact (prefix_take.1 hc).2) h2
theorem ext_no1 {head k : List UInt8} (h2 : ¬ head.length ≤ k.length) : head.isPrefixOf k = false := by
  cases hc : head.isPrefixOf k with
  | false => rfl
  | true => exact absurd (prefix_take.1 hc).1 h2
theorem ext_beq {head k : List UInt8} (h1 : head.length ≤ k.length) : ((((⟨k.toArray⟩ : ByteArray).extract 0 head.length).toList) == head) = head.isPrefixOf k := by
  by_cases h : ((⟨k.toArray⟩ : ByteArray).extract 0 head.length).toList = head
  · rw [ext_yes h1 h, beq_iff_eq]; exact h
  · rw [ext_no h, beq_eq_false_iff_ne]; exact h
theorem ref_Begins (w : World) (k head : List UInt8) : Calls Try.prog 36 #[encS k, encS head] w fun e w' => e = .returned (.bool (head.isPrefixOf k)) ∧ w = w' := by
  by_cases h1 : head.length ≤ k.length
  · have ht : decide ((head.length : Int) ≤ (k.length : Int)) = true := by simpa using h1
    have HE1 := Lib.hid (ext_beq h1)
    go_enter Try.func36, Try.ntmps36
    go_wp2_with fail
    go_ret
    exact ⟨congrArg (fun b => Ending.returned (.bool b)) HE1.out, rfl⟩
  · have ht : decide ((head.length : Int) ≤ (k.length : Int)) = false := by simpa using h1
    rw [ext_no1 h1]
    go_enter Try.func36, Try.ntmps36
    go_wp2_with fail
    go_ret
    exact ⟨rfl, rfl⟩
def FindRel (w : World) (k : List UInt8) (l : List (List UInt8 × List UInt8)) (x : Value) (wr : World) : Prop := ∃ i : Nat, x = .int .i64 i ∧ i ≤ pfind k l ∧ wr = w
theorem ref_Find (w : World) (v : Value) (l : List (List UInt8 × List UInt8)) (hl : Prs w v l) (k : List UInt8) (hn : l.length ≤ 1000000000) : Calls Try.prog 16 #[v, encS k] w fun e w' => e = .returned (.int .i64 (pfind k l)) ∧ w = w' := by
  obtain ⟨cells, hR, hC⟩ := hl
  obtain ⟨ao, cap, rfl, _⟩ := hR.shape
  have HP := Lib.hid (pfind_le k l)
  have HN9 := Lib.hid hn; clear hn
  go_enter Try.func16, Try.ntmps16
  go_wp2_with fail
  go_loopw [5] (fun x wr => FindRel w k l x wr) (fun x _ => l.length - (intOf x).toNat)
  case atStart => exact ⟨0, rfl, Nat.zero_le _, rfl⟩
  case round =>
    obtain ⟨i, rfl, hi, rfl⟩ := hrel
    have hle := HP.out
    have hll := HN9.out
    by_cases hlt : i < l.length
    · have htt : decide ((i : Int) < (l.length : Int)) = true := by simp; omega
      obtain ⟨p, hp⟩ : ∃ p, l[i]? = some p := ⟨_, List.getElem?_eq_getElem hlt⟩
      obtain ⟨pv, g0, g1, hpv⟩ := hC.get hp
      by_cases hk : p.1 < k
      · have hb : Op.bytesLess p.1 k = true := by rw [bytesLess_eq]; simpa using hk
        have HN := Lib.hid (pfind_next hi hp hk)
        clear hk hle hi hp
        go_wp2_with ((with_reducible show wpList _ _ _ (⟨_, .indexAddr _ _ _, _, _, _, _⟩ :: _) _ _); refine wpl_indexAddr elPair rfl rfl hR rfl rfl (by omega) (by omega) ?_; intro ad hcell hspot; (have k0 := hcell 0 (by omega)); (have k1 := hcell 1 (by omega)); rw [Int.toNat_natCast, g0] at k0; rw [Int.toNat_natCast, g1] at k1; clear hcell; obtain ⟨gb, gof, gs⟩ := ad; cases hspot; simp only [Addr.add_lit, Nat.add_zero] at k0 k1)
        exact ⟨⟨i + 1, by simp, HN.out, rfl⟩, by simp [intOf]; omega⟩
      · have hb : Op.bytesLess p.1 k = false := by rw [bytesLess_eq]; simpa using hk
        have HN := Lib.hid (pfind_stop hi hp hk)
        clear hk hle hi hp
        go_wp2_with ((with_reducible show wpList _ _ _ (⟨_, .indexAddr _ _ _, _, _, _, _⟩ :: _) _ _); refine wpl_indexAddr elPair rfl rfl hR rfl rfl (by omega) (by omega) ?_; intro ad hcell hspot; (have k0 := hcell 0 (by omega)); (have k1 := hcell 1 (by omega)); rw [Int.toNat_natCast, g0] at k0; rw [Int.toNat_natCast, g1] at k1; clear hcell; obtain ⟨gb, gof, gs⟩ := ad; cases hspot; simp only [Addr.add_lit, Nat.add_zero] at k0 k1)
        go_ret
        exact ⟨by rw [← HN.out]; rfl, rfl⟩
    · have htt : decide ((i : Int) < (l.length : Int)) = false := by simp; omega
      have hie : i = pfind k l := by omega
      clear hle hi
      go_wp2_with fail
      go_ret
      exact ⟨by rw [← hie]; rfl, rfl⟩
end Go.Proofs.Ythfbfdkjgkkpcaa

namespace Go.Proofs.Ythfbfdkjgkkpcaa
open Go Go.RowKit

theorem app_row {T e sz b : Nat} {P : Program} (hE : Elem P T e sz b) {w0 w : World} (hU : Upd [] w0 w) {v : Value} {n : Nat} {xs : List Value} (hown : w.ownsRow w0.heap.size e sz v n xs) {y : Value} {m : Nat} {ys : List Value} (hR : Rd w e sz y m ys)
    (h1 : ∀ u ∈ ys, u.oneCell' = true) (h63 : n + m ≤ maxLen) (hb : (n + m) * b ≤ 140737488355328) (ty : Nat) :
    ∃ v' w', (Builtin.append_ #[T, T] ty #[v, y]).run P w = .ok v' w' ∧ w'.ownsRow w0.heap.size e sz v' (n + m) (xs ++ ys) ∧ Upd v.ownBlock.toList w w' ∧ Upd [] w0 w' := by
  obtain ⟨v', w', r1, r2, r3, _⟩ := run_append_rd (P := P) (ty := ty) hE hown hR h1 h63 hb hU.size
  have hg : Upd v.ownBlock.toList w w' := Upd.grown r3 (fun k hk => by rw [hk]; simp)
  exact ⟨v', w', r1, r2, hg, hU.own hown hg⟩
theorem app_pr {w0 w : World} (hU : Upd [] w0 w) {v y pv : Value} {l : List (List UInt8 × List UInt8)} {p : List UInt8 × List UInt8} (hown : OwnPrs w w0.heap.size v l) (hR : Rd w 46 2 y 1 [encS p.1, pv]) (hpv : By w pv p.2) (hb : l.length + 1 ≤ 1000000001) (ty : Nat) :
    ∃ v' w', (Builtin.append_ #[33, 33] ty #[v, y]).run Try.prog w = .ok v' w' ∧ OwnPrs w' w0.heap.size v' (l ++ [p]) ∧ Upd v.ownBlock.toList w w' ∧ Upd [] w0 w' := by
  obtain ⟨cells, ho, hC⟩ := hown
  obtain ⟨ao, cap, rfl⟩ := By.val hpv
  obtain ⟨v', w', r1, r2, r3, r4⟩ := app_row (P := Try.prog) elPair hU ho hR (by intro u hu; simp at hu; rcases hu with rfl | rfl <;> rfl) (by unfold maxLen; omega) (by omega) ty
  have hoff : Off w 5 v.ownBlock.toList := Own.off ho (by decide)
  have hd : PCells w' [encS p.1, .slice ao p.2.length cap] [p] := ⟨rfl, hpv.upd r3 hoff, trivial⟩
  exact ⟨v', w', r1, ⟨cells ++ [encS p.1, .slice ao p.2.length cap], by rw [List.length_append]; exact r2, hd.append (hC.upd r3 hoff)⟩, r3, r4⟩
def OwnChgs (w : World) (B : Nat) (v : Value) (l : List TChg) : Prop := ∃ cells, w.ownsRow B 51 3 v l.length cells ∧ TCells w cells l
theorem OwnChgs.chgs {w : World} {B : Nat} {v : Value} {l : List TChg} (h : OwnChgs w B v l) : Chgs w v l := by
  obtain ⟨cells, h1, h2⟩ := h
  exact ⟨cells, Rd.of_own h1, h2⟩
theorem OwnChgs.upd0 {w w' : World} {B : Nat} {v : Value} {l : List TChg} (h : OwnChgs w B v l) (hU : Upd [] w w') : OwnChgs w' B v l := by
  obtain ⟨cells, h1, h2⟩ := h
  exact ⟨cells, Own.upd0 h1 hU, h2.upd hU (Off.nil _ _)⟩
theorem app_chg {w0 w : World} (hU : Upd [] w0 w) {v y pv : Value} {l : List TChg} {c : TChg} (hown : OwnChgs w w0.heap.size v l) (hR : Rd w 51 3 y 1 [encS c.key, .bool c.gone, pv]) (hpv : By w pv c.val) (hb : l.length + 1 ≤ 1000000001) (ty : Nat) :
    ∃ v' w', (Builtin.append_ #[35, 35] ty #[v, y]).run Try.prog w = .ok v' w' ∧ OwnChgs w' w0.heap.size v' (l ++ [c]) ∧ Upd v.ownBlock.toList w w' ∧ Upd [] w0 w' := by
  obtain ⟨cells, ho, hC⟩ := hown
  obtain ⟨ao, cap, rfl⟩ := By.val hpv
  obtain ⟨v', w', r1, r2, r3, r4⟩ := app_row (P := Try.prog) elTChg hU ho hR (by intro u hu; simp at hu; rcases hu with rfl | rfl | rfl <;> rfl) (by unfold maxLen; omega) (by omega) ty
  have hoff : Off w 5 v.ownBlock.toList := Own.off ho (by decide)
  have hd : TCells w' [encS c.key, .bool c.gone, .slice ao c.val.length cap] [c] := ⟨rfl, rfl, hpv.upd r3 hoff, trivial⟩
  exact ⟨v', w', r1, ⟨cells ++ [encS c.key, .bool c.gone, .slice ao c.val.length cap], by rw [List.length_append]; exact r2, hd.append (hC.upd r3 hoff)⟩, r3, r4⟩
theorem not_mem_own {w : World} {B e sz n : Nat} {v : Value} {xs : List Value} (h : w.ownsRow B e sz v n xs) {k : Nat} (hk : w.heap.size ≤ k ∨ k < B) : k ∉ v.ownBlock.toList := by
  intro hm
  cases hv : v.ownBlock with
  | none => rw [hv] at hm; cases hm
  | some g =>
    rw [hv] at hm
    simp at hm
    have := h.lt g hv
    omega
theorem OwnChgs.not_mem {w : World} {B : Nat} {v : Value} {l : List TChg} (h : OwnChgs w B v l) {k : Nat} (hk : w.heap.size ≤ k ∨ k < B) : k ∉ v.ownBlock.toList := by
  obtain ⟨cells, h1, _⟩ := h
  exact not_mem_own h1 hk
theorem lit_row {T e sz b : Nat} {P : Program} (hE : Elem P T e sz b) (w : World) (u : Value) {cs : List Value} (hc : u.cells = cs.toArray) (hn : cs.length = sz) (hs : sz ≤ 16777216) :
    ∃ v w', (Instr.buildSlice T 1 #[(0, u)]).run P w = .ok v w' ∧ Rd w' e sz v 1 cs ∧ Upd [] w w' := by
  have hr := run_lit (P := P) (w := w) hE u (by rw [hc]; simpa using hn) hs
  refine ⟨_, _, hr, ?_, Upd.alloc [] _ _⟩
  rw [hc]
  exact Rd.new (by simpa using hn) (Nat.le_refl _) (by decide) (by simp [← hn]) (by simpa using hn)

def ToRel (w : World) (l : List TChg) (x v : Value) (wr : World) : Prop := ∃ i : Nat, x = .int .i64 i ∧ i ≤ l.length ∧ OwnChgs wr w.heap.size v (l.take i) ∧ Upd [] w wr
set_option maxRecDepth 100000 in
set_option maxHeartbeats 1000000 in
theorem law_to (w : World) (lv : Value) (l : List TChg) (hl : RChgs w lv l) (hn : l.length ≤ 1000000000) (hv : ∀ c ∈ l, c.val.length ≤ 1000000000) :
    Calls Try.prog 11 #[lv] w fun e w' => ∃ v, e = .returned v ∧ OwnChgs w' w.heap.size v l ∧ Upd [] w w' := by
  obtain ⟨cells, hR, hC⟩ := hl
  obtain ⟨ao, cap, rfl, _⟩ := hR.shape
  have HV := Lib.hid hv; have HN := Lib.hid hn
  clear hv hn
  go_enter Try.func11, Try.ntmps11
  go_wp2_with fail
  go_loopw [8, 3] (fun x v wr => ToRel w l x v wr) (fun x _ _ => l.length - (intOf x).toNat)
  case atStart => exact ⟨0, rfl, Nat.zero_le _, ⟨[], World.ownsRow_nil _ _ _ _, trivial⟩, Upd.refl _ _⟩
  case round =>
    obtain ⟨i, rfl, hi, hown, hU⟩ := hrel
    by_cases hlt : i < l.length
    · have htt : decide ((i : Int) < (l.length : Int)) = true := by simp; omega
      obtain ⟨c, hc⟩ : ∃ c, l[i]? = some c := ⟨_, List.getElem?_eq_getElem hlt⟩
      obtain ⟨pv, c0, c1, c2, hpv⟩ := hC.get hc
      have hRr : Rdx wr 3 (.slice ao l.length cap) l.length cells := hR.upd0 hU
      have hpr : ByX wr pv c.val := hpv.upd0 hU
      have hcv := HV.out c (List.mem_of_getElem? hc)
      have htk : l.take (i + 1) = l.take i ++ [c] := by rw [List.take_add_one, hc]; rfl
      obtain ⟨ap, cp, hsp, _⟩ := hpr.shape
      subst hsp
      have hUa : Upd [] wr (wr.alloc (Obj.cells #[encS c.key, .bool c.gone, Value.slice ap c.val.length cp] 82)) := Upd.alloc [] _ _
      have hba := heap_alloc_new wr (Obj.cells #[encS c.key, .bool c.gone, Value.slice ap c.val.length cp] 82)
      generalize hwa : wr.alloc (Obj.cells #[encS c.key, .bool c.gone, Value.slice ap c.val.length cp] 82) = wa at hUa hba
      have HWA := Lib.hid hwa
      have hUd : Upd [] wr wa.drew := hUa.trans0 (Upd.drew [] _)
      have hnm := hown.not_mem (k := wr.heap.size) (.inl (Nat.le_refl _))
      have q0 : ∀ W : World, W.heap[wr.heap.size]? = some (Obj.cells #[encS c.key, .bool c.gone, Value.slice ap c.val.length cp] 82) →
          W.cell? ⟨wr.heap.size, 0, none⟩ = some (encS c.key) ∧ W.cell? ⟨wr.heap.size, 1, none⟩ = some (.bool c.gone) ∧ W.cell? ⟨wr.heap.size, 2, none⟩ = some (.slice ap c.val.length cp) := by
        intro W hW
        refine ⟨?_, ?_, ?_⟩
        all_goals
          rw [cell_lit W _ _ _ _ _ hW]
          rfl
      have hS0 := q0 wa.drew hba
      have hlt2 : (l.take i).length + 1 ≤ 1000000001 := by have := HN.out; simp; omega
      have HTK := Lib.hid htk; have HL2 := Lib.hid hlt2; have HB := Lib.hid hba; have HQ := Lib.hid q0
      clear htk hlt2 hba hwa hi q0
      go_wp2_with ((with_reducible show wpList _ _ _ (⟨_, .indexAddr _ _ _, _, _, _, _⟩ :: _) _ _); refine wpl_indexAddrX elRChg rfl rfl hRr rfl rfl (by omega) (by omega) ?_; intro ad hcell hspot; (have k0 := hcell 0 (by omega)); (have k1 := hcell 1 (by omega)); (have k2 := hcell 2 (by omega)); rw [Int.toNat_natCast, c0] at k0; rw [Int.toNat_natCast, c1] at k1; rw [Int.toNat_natCast, c2] at k2; clear hcell; obtain ⟨gb, gof, gs⟩ := ad; cases hspot; simp only [Addr.add_lit, Nat.add_zero] at k0 k1 k2)
      rw [HWA.out]
      refine wp_region_noPanic ?_
      refine wp_region_M 11 (fun W => W.cell? ⟨wr.heap.size, 0, none⟩ = some (encS c.key) ∧ W.cell? ⟨wr.heap.size, 1, none⟩ = some (.bool c.gone) ∧ W.cell? ⟨wr.heap.size, 2, none⟩ = some (.slice ap c.val.length cp)) (by kernel_rfl) ?_
      (refine wpAnyM_takeO (i := 0) (dst := (some 12)) (op := (Go.Op.move (Go.Operand.tmp 3))) (v := ?_) (by rfl) (by kernel_rfl) (by kernel_rfl) (by kernel_rfl) (by kernel_rfl) (by rfl) (fun _ _ _ h => h) ?_ hS0 ?_; rotate_left; (focus (intro _ _ _ W HW; (try dsimp only at HW); go_simp; (try with_reducible rfl))); (try simp only [Act.put, List.setIfInBounds_toArray, List.set_cons_zero, List.set_cons_succ]))
      (refine wpAnyM_takeO (i := 1) (dst := (some 13)) (op := (Go.Op.fieldAddr 82 (Go.Operand.tmp 5) 0)) (v := ?_) (by rfl) (by kernel_rfl) (by kernel_rfl) (by kernel_rfl) (by kernel_rfl) (by rfl) (fun _ _ _ h => h) ?_ hS0 ?_; rotate_left; (focus (intro _ _ _ W HW; (try dsimp only at HW); go_simp; (try with_reducible rfl))); (try simp only [Act.put, List.setIfInBounds_toArray, List.set_cons_zero, List.set_cons_succ]))
      (refine wpAnyM_takeO (i := 2) (dst := (some 14)) (op := (Go.Op.load 9 (Go.Operand.tmp 13))) (v := ?_) (by rfl) (by kernel_rfl) (by kernel_rfl) (by kernel_rfl) (by kernel_rfl) (by rfl) (fun _ _ _ h => h) ?_ hS0 ?_; rotate_left; (focus (intro _ _ _ W HW; (try dsimp only at HW); go_simp; (try with_reducible rfl))); (try simp only [Act.put, List.setIfInBounds_toArray, List.set_cons_zero, List.set_cons_succ]))
      (refine wpAnyM_takeO (i := 3) (dst := (some 15)) (op := (Go.Op.fieldAddr 82 (Go.Operand.tmp 5) 1)) (v := ?_) (by rfl) (by kernel_rfl) (by kernel_rfl) (by kernel_rfl) (by kernel_rfl) (by rfl) (fun _ _ _ h => h) ?_ hS0 ?_; rotate_left; (focus (intro _ _ _ W HW; (try dsimp only at HW); go_simp; (try with_reducible rfl))); (try simp only [Act.put, List.setIfInBounds_toArray, List.set_cons_zero, List.set_cons_succ]))
      (refine wpAnyM_takeO (i := 4) (dst := (some 16)) (op := (Go.Op.load 4 (Go.Operand.tmp 15))) (v := ?_) (by rfl) (by kernel_rfl) (by kernel_rfl) (by kernel_rfl) (by kernel_rfl) (by rfl) (fun _ _ _ h => h) ?_ hS0 ?_; rotate_left; (focus (intro _ _ _ W HW; (try dsimp only at HW); go_simp; (try with_reducible rfl))); (try simp only [Act.put, List.setIfInBounds_toArray, List.set_cons_zero, List.set_cons_succ]))
      (refine wpAnyM_takeO (i := 5) (dst := (some 17)) (op := (Go.Op.fieldAddr 82 (Go.Operand.tmp 5) 2)) (v := ?_) (by rfl) (by kernel_rfl) (by kernel_rfl) (by kernel_rfl) (by kernel_rfl) (by rfl) (fun _ _ _ h => h) ?_ hS0 ?_; rotate_left; (focus (intro _ _ _ W HW; (try dsimp only at HW); go_simp; (try with_reducible rfl))); (try simp only [Act.put, List.setIfInBounds_toArray, List.set_cons_zero, List.set_cons_succ]))
      (refine wpAnyM_takeO (i := 6) (dst := (some 18)) (op := (Go.Op.load 41 (Go.Operand.tmp 17))) (v := ?_) (by rfl) (by kernel_rfl) (by kernel_rfl) (by kernel_rfl) (by kernel_rfl) (by rfl) (fun _ _ _ h => h) ?_ hS0 ?_; rotate_left; (focus (intro _ _ _ W HW; (try dsimp only at HW); go_simp; (try with_reducible rfl))); (try simp only [Act.put, List.setIfInBounds_toArray, List.set_cons_zero, List.set_cons_succ]))
      refine wpAnyM_one (i := 7) (by kernel_rfl) ?_
      refine opM_call (i := 7) (dst := (some 19)) (op := (Go.Op.call { callee := (Go.Callee.value (Go.Operand.func 33)), args := #[(Go.Operand.tmp 18)], argTypes := #[41] })) (f := 33) (vs := #[.slice ap c.val.length cp]) (by rfl) (fun _ _ _ => by go_simp) ?_
      refine (ref_Twin _ _ c.val (hpr.upd0 hUd) hcv).mono ?_
      rintro e w2 ⟨v2, rfl, hv2, hU2⟩
      have hB2 := hU2.get (show wa.drew.heap[wr.heap.size]? = some _ from HB.out) (by simp)
      have hS2 := HQ.out w2 hB2
      refine ⟨v2, rfl, .inr hS2, ?_⟩
      (try simp only [Act.put, List.setIfInBounds_toArray, List.set_cons_zero, List.set_cons_succ])
      obtain ⟨ao2, cap2, hs2⟩ := By.val hv2.by
      subst hs2
      obtain ⟨v3, w3, hr3, hv3, hU3⟩ := lit_row (P := Try.prog) elTChg w2 (.agg #[encS c.key, .bool c.gone, .slice ao2 c.val.length cap2]) (cs := [encS c.key, .bool c.gone, .slice ao2 c.val.length cap2]) rfl rfl (by omega)
      have hB3 := hU3.get hB2 (by simp)
      have hS3 := HQ.out w3 hB3
      have hU03 := ((hU.trans0 hUd).trans0 hU2).trans0 hU3
      have hown3 := hown.upd0 ((hUd.trans0 hU2).trans0 hU3)
      obtain ⟨v4, w4, hr4, hv4, hU4, hU04⟩ := app_chg hU03 hown3 hv3 (hv2.by.upd0 hU3) HL2.out 0
      have hS4 := HQ.out w4 (hU4.get hB3 hnm)
      (refine wpAnyM_val (i := 8) (dst := (some 20)) (op := (Go.Op.build 51 #[(0, (Go.Operand.tmp 14)), (1, (Go.Operand.tmp 16)), (2, (Go.Operand.tmp 19))])) (by rfl) (by kernel_rfl) (fun _ _ _ => by go_simp; rfl) (.inr hS2) ?_; (try simp only [Act.put, List.setIfInBounds_toArray, List.set_cons_zero, List.set_cons_succ]))
      (refine wpAnyM_val (i := 9) (dst := (some 21)) (op := (Go.Op.buildSlice 35 1 #[(0, (Go.Operand.tmp 20))])) (by rfl) (by kernel_rfl) (ex_lit hr3 (by rfl)) (.inr hS3) ?_; (try simp only [Act.put, List.setIfInBounds_toArray, List.set_cons_zero, List.set_cons_succ]))
      (refine wpAnyM_val (i := 10) (dst := (some 22)) (op := (Go.Op.call { callee := (Go.Callee.builtin Go.Builtin.append), args := #[(Go.Operand.tmp 12), (Go.Operand.tmp 21)], argTypes := #[35, 35] })) (by rfl) (by kernel_rfl) (ex_append hr4 (by rfl) (by rfl)) (.inr hS4) ?_; (try simp only [Act.put, List.setIfInBounds_toArray, List.set_cons_zero, List.set_cons_succ]))
      (refine wpAnyM_val (i := 11) (dst := (some 3)) (op := (Go.Op.assign (Go.Operand.tmp 22))) (by rfl) (by kernel_rfl) (fun _ _ _ => by go_simp; rfl) (.inr hS4) ?_; (try simp only [Act.put, List.setIfInBounds_toArray, List.set_cons_zero, List.set_cons_succ]))
      refine wpAnyM_done (by kernel_rfl) ?_ _
      refine NoPanic.normal ?_
      have hll := HN.out
      go_wp2_with fail
      exact ⟨⟨i + 1, by simp, hlt, by rw [HTK.out]; exact hv4, hU04⟩, by simp [intOf]; omega⟩
    · have htt : decide ((i : Int) < (l.length : Int)) = false := by simp; omega
      have hie : i = l.length := by omega
      subst hie
      rw [List.take_length] at hown
      go_wp2_with fail
      go_ret
      exact ⟨_, rfl, hown, hU⟩
end Go.Proofs.Ythfbfdkjgkkpcaa

namespace Go.Proofs.Ythfbfdkjgkkpcaa
open Go Go.RowKit

/-- The record that bytes begin with, if its sum is right. -/
def frame1 (b : List UInt8) : Option (List UInt8) :=
  match wordB b 0, wordB b 4 with
  | some n, some s => if n ≤ 1048576 ∧ n ≤ b.length - 8 ∧ crcB (putB n 4 ++ (b.drop 8).take n) = s then some ((b.drop 8).take n) else none
  | _, _ => none
theorem frame1_len {b p : List UInt8} (h : frame1 b = some p) : 8 + p.length ≤ b.length ∧ p.length ≤ 1048576 := by
  unfold frame1 at h
  split at h
  · rename_i n s h0 h4
    split at h
    · rename_i hc
      cases h
      have : 4 + 4 ≤ b.length := by
        unfold wordB at h4
        split at h4
        · assumption
        · cases h4
      simp
      omega
    · cases h
  · cases h
/-- The records of a journal's bytes, and how far they reach. -/
def scanB (b : List UInt8) : List (List UInt8) × Nat :=
  match h : frame1 b with
  | none => ([], 0)
  | some p => (p :: (scanB (b.drop (8 + p.length))).1, 8 + p.length + (scanB (b.drop (8 + p.length))).2)
termination_by b.length
decreasing_by
  all_goals
    have := frame1_len h
    simp
    omega
theorem scanB_none {b : List UInt8} (h : frame1 b = none) : scanB b = ([], 0) := by
  rw [scanB]
  split
  · rfl
  · rename_i p hp; rw [h] at hp; cases hp
theorem scanB_some {b p : List UInt8} (h : frame1 b = some p) : scanB b = (p :: (scanB (b.drop (8 + p.length))).1, 8 + p.length + (scanB (b.drop (8 + p.length))).2) := by
  rw [scanB]
  split
  · rename_i hp; rw [h] at hp; cases hp
  · rename_i q hp; rw [h] at hp; cases hp; rfl
theorem wordB_drop (b : List UInt8) (i k : Nat) (h : i ≤ b.length) : wordB (b.drop i) k = wordB b (i + k) := by
  unfold wordB
  rw [List.length_drop, List.drop_drop]
  by_cases hc : i + k + 4 ≤ b.length
  · rw [if_pos hc, if_pos (by omega)]
  · rw [if_neg hc, if_neg (by omega)]

/-- The cells of rows of bytes; a slice of them, and the call's own one. -/
def BCells (w : World) : List Value → List (List UInt8) → Prop
  | [], [] => True
  | v :: r, p :: l => By w v p ∧ BCells w r l
  | _, _ => False
theorem BCells.upd {S : List Nat} {w w' : World} (hU : Upd S w w') (hS : Off w 5 S) : ∀ {cs : List Value} {l : List (List UInt8)}, BCells w cs l → BCells w' cs l
  | [], [], _ => trivial
  | _ :: _, _ :: _, h => ⟨h.1.upd hU hS, BCells.upd hU hS h.2⟩
theorem BCells.append {w : World} {ds : List Value} {m : List (List UInt8)} (hd : BCells w ds m) : ∀ {cs : List Value} {l : List (List UInt8)}, BCells w cs l → BCells w (cs ++ ds) (l ++ m)
  | [], [], _ => hd
  | _ :: _, _ :: _, h => ⟨h.1, BCells.append hd h.2⟩
theorem BCells.get {w : World} : ∀ {cs : List Value} {l : List (List UInt8)}, BCells w cs l → ∀ {i : Nat} {p : List UInt8}, l[i]? = some p → ∃ pv, cs[i]? = some pv ∧ By w pv p
  | [], [], _, _, _, h => by simp at h
  | a :: r, p0 :: l, hc, 0, c, h => by
    simp only [List.getElem?_cons_zero, Option.some.injEq] at h
    subst h
    exact ⟨a, rfl, hc.1⟩
  | a :: r, p0 :: l, hc, i + 1, c, h => by
    simp only [List.getElem?_cons_succ] at h ⊢
    exact BCells.get hc.2 h
def Recs (w : World) (v : Value) (l : List (List UInt8)) : Prop := ∃ cells, Rd w 41 1 v l.length cells ∧ BCells w cells l
def OwnRecs (w : World) (B : Nat) (v : Value) (l : List (List UInt8)) : Prop := ∃ cells, w.ownsRow B 41 1 v l.length cells ∧ BCells w cells l
theorem OwnRecs.recs {w : World} {B : Nat} {v : Value} {l : List (List UInt8)} (h : OwnRecs w B v l) : Recs w v l := by
  obtain ⟨cells, h1, h2⟩ := h
  exact ⟨cells, Rd.of_own h1, h2⟩
theorem OwnRecs.upd0 {w w' : World} {B : Nat} {v : Value} {l : List (List UInt8)} (h : OwnRecs w B v l) (hU : Upd [] w w') : OwnRecs w' B v l := by
  obtain ⟨cells, h1, h2⟩ := h
  exact ⟨cells, Own.upd0 h1 hU, h2.upd hU (Off.nil _ _)⟩
theorem OwnRecs.mono {w : World} {B B' : Nat} {v : Value} {l : List (List UInt8)} (h : OwnRecs w B v l) (hB : B' ≤ B) : OwnRecs w B' v l := by
  obtain ⟨cells, h1, h2⟩ := h
  exact ⟨cells, Own.mono h1 hB, h2⟩
theorem OwnRecs.nil (w : World) (B : Nat) : OwnRecs w B (.slice none 0 0) [] := ⟨[], World.ownsRow_nil _ _ _ _, trivial⟩
theorem Recs.upd {S : List Nat} {w w' : World} {v : Value} {l : List (List UInt8)} (h : Recs w v l) (hU : Upd S w w') (h1 : Off w 5 S) (h2 : Off w 41 S) : Recs w' v l := by
  obtain ⟨cells, ha, hb⟩ := h
  exact ⟨cells, ha.upd hU h2, hb.upd hU h1⟩
theorem Recs.upd0 {w w' : World} {v : Value} {l : List (List UInt8)} (h : Recs w v l) (hU : Upd [] w w') : Recs w' v l := h.upd hU (Off.nil _ _) (Off.nil _ _)
theorem Recs.nil (w : World) : Recs w (.slice none 0 0) [] := ⟨[], Rd.nil _ _ _, trivial⟩
theorem Recs.shape {w : World} {v : Value} {l : List (List UInt8)} (h : Recs w v l) : ∃ ao cap, v = .slice ao l.length cap := by
  obtain ⟨cells, h1, _⟩ := h
  obtain ⟨ao, cap, h2, _⟩ := h1.shape
  exact ⟨ao, cap, h2⟩
theorem elRec : Elem Try.prog 74 41 1 24 := ⟨by kernel_rfl, by omega, by
  obtain ⟨i, h1, h2, h3, h4⟩ := info_parts (P := Try.prog) (e := 41) (z := .slice none 0 0) (size := 1) (bytes := 24) (by kernel_rfl)
  exact ⟨i, _, h1, h2, h3, h4, rfl⟩⟩
section
variable {ops : Array Oper} {Q : Exit → Act → World → Prop} {a : Act} {w : World} {rest : List Oper} {o : Oper}
theorem wpl_append_rec (hw : Region.wanted o (yielded ops a.tmps) = true) {s x : Operand} (ho : o.op = .call { callee := .builtin .append, args := #[s, x], argTypes := #[74, 74] })
    {w0 : World} (hU : Upd [] w0 w) {v y pv : Value} {l : List (List UInt8)} {p : List UInt8} (hown : OwnRecs w w0.heap.size v l) (hs : a.eval s = v) (hR : Rd w 41 1 y 1 [pv]) (hx : a.eval x = y) (hpv : By w pv p) (hb : l.length + 1 ≤ 1000000001)
    (hK : ∀ v' w', OwnRecs w' w0.heap.size v' (l ++ [p]) → Upd [] w0 w' → wpList Try.prog ops Q rest (a.put o.dst v') w') : wpList Try.prog ops Q (o :: rest) a w := by
  obtain ⟨cells, ho1, hC⟩ := hown
  obtain ⟨ao, cap, rfl⟩ := By.val hpv
  obtain ⟨v', w', r1, r2, r3, r4⟩ := app_row (P := Try.prog) elRec hU ho1 hR (by intro u hu; simp at hu; subst hu; rfl) (by unfold maxLen; omega) (by omega) o.type
  have hoff : Off w 5 v.ownBlock.toList := Own.off ho1 (by decide)
  have hd : BCells w' [.slice ao p.length cap] [p] := ⟨hpv.upd r3 hoff, trivial⟩
  exact wpl_run hw (v := v') (w' := w') (by simp [execOp, ho, resolve, invoke, builtin, hs, hx, r1, Result.andThen]) (hK v' w' ⟨cells ++ [.slice ao p.length cap], by rw [List.length_append]; exact r2, hd.append (hC.upd r3 hoff)⟩ r4)
end

def ScanRel (w : World) (b : List UInt8) (x v : Value) (wr : World) : Prop :=
  ∃ (i : Nat) (o : List (List UInt8)), x = .int .i64 i ∧ i ≤ b.length ∧ o.length ≤ i ∧ OwnRecs wr w.heap.size v o ∧ Upd [] w wr ∧ scanB b = (o ++ (scanB (b.drop i)).1, i + (scanB (b.drop i)).2)
def ScanPost (w : World) (r : List (List UInt8) × Nat) (e : Ending) (w' : World) : Prop := ∃ v, e = .returned (.tuple #[v, .int .i64 r.2]) ∧ OwnRecs w' w.heap.size v r.1 ∧ Upd [] w w'
set_option maxRecDepth 100000 in
set_option maxHeartbeats 2000000 in
theorem journal_Scan (w : World) (p : Value) (b : List UInt8) (hp : By w p b) (hl : b.length ≤ 100000000) :
    Calls Try.prog 56 #[p] w (ScanPost w (scanB b)) := by
  obtain ⟨ao, cap, rfl⟩ := By.val hp
  have HL := Lib.hid hl; clear hl
  go_enter Try.func56, Try.ntmps56
  go_wp2_with fail
  go_loopw [5, 4] (fun x v wr => ScanRel w b x v wr) (fun x _ _ => b.length - (intOf x).toNat)
  case atStart => exact ⟨0, [], rfl, Nat.zero_le _, Nat.zero_le _, OwnRecs.nil _ _, Upd.refl _ _, by simp⟩
  case round =>
    obtain ⟨i, o, rfl, hi, hoi, hown, hU, hsc⟩ := hrel
    have hll := HL.out
    have hbr := hp.upd0 hU
    have hw1 := octet_Word wr _ b hbr i (by omega) (by omega)
    have hw2 := octet_Word wr _ b hbr (i + 4) (by omega) (by omega)
    obtain ⟨ao4, cap4, hs4⟩ := hown.recs.shape
    subst hs4
    have hF : frame1 (b.drop i) = match wordB b i, wordB b (i + 4) with
      | some n, some s => if n ≤ 1048576 ∧ n ≤ (b.drop i).length - 8 ∧ crcB (putB n 4 ++ ((b.drop i).drop 8).take n) = s then some (((b.drop i).drop 8).take n) else none
      | _, _ => none := by
      unfold frame1
      rw [wordB_drop b i 0 hi, wordB_drop b i 4 hi, Nat.add_zero]
    rw [show ((i + 4 : Nat) : Int) = (i : Int) + 4 from by omega] at hw2
    have HSC := Lib.hid hsc; have HOWN := Lib.hid hown
    have HSTOP := Lib.hid (fun (hn : frame1 (b.drop i) = none) => show ScanPost w (scanB b) (.returned (.tuple #[.slice ao4 o.length cap4, .int .i64 i])) wr from by
      rw [HSC.out, scanB_none hn]
      exact ⟨_, rfl, by simpa using HOWN.out, hU⟩)
    clear hsc
    cases hq1 : wordB b i with
    | none =>
      have HR := Lib.hid (HSTOP.out (by rw [hF, hq1]))
      rw [hq1] at hw1
      clear hF hq1
      go_wp2_with (first
        | (go_at_call 69; (have hgo := hdone); refine hw2.mono ?_; rintro e w9 ⟨rfl, rfl⟩)
        | (go_at_call 69; refine hw1.mono ?_; rintro e w9 ⟨rfl, rfl⟩; (have hdone := True.intro)))
      go_ret2
      exact HR.out
    | some n =>
      rw [hq1] at hw1
      cases hq2 : wordB b (i + 4) with
      | none =>
        have HR := Lib.hid (HSTOP.out (by rw [hF, hq1, hq2]))
        rw [hq2] at hw2
        clear hF hq1 hq2
        go_wp2_with (first
          | (go_at_call 69; (have hgo := hdone); refine hw2.mono ?_; rintro e w9 ⟨rfl, rfl⟩)
          | (go_at_call 69; refine hw1.mono ?_; rintro e w9 ⟨rfl, rfl⟩; (have hdone := True.intro)))
        go_ret2
        exact HR.out
      | some s =>
        rw [hq2] at hw2
        rw [hq1, hq2] at hF
        dsimp only at hF
        have HN32 := Lib.hid (wordB_lt hq1)
        have h8 : i + 8 ≤ b.length := by
          unfold wordB at hq2
          split at hq2
          · omega
          · cases hq2
        clear hq1 hq2
        by_cases hn : n ≤ 1048576
        · have c1 : decide ((1048576 : Int) < (n : Int)) = false := by simp; omega
          by_cases hnl : n ≤ (b.drop i).length - 8
          · have hle : i + 8 + n ≤ b.length := by simp at hnl; omega
            have c2 : decide ((b.length : Int) - (i : Int) - 8 < (n : Int)) = false := by simp; omega
            have hcut : ((b.drop i).drop 8).take n = (b.drop (i + 8)).take n := by rw [List.drop_drop]
            rw [hcut] at hF
            have hpl : ((b.drop (i + 8)).take n).length = n := by simp; omega
            obtain ⟨q, hq⟩ : ∃ q, q = (b.drop (i + 8)).take n := ⟨_, rfl⟩
            rw [← hq] at hF hpl
            have HQ := Lib.hid hq
            clear hq hcut
            have hput := octet_Put n 4 ⟨by have := HN32.out; omega⟩ (by omega)
            have HPL := Lib.hid (putB_length n 4)
            have hql : (putB n 4).length + q.length ≤ 1073741824 := by rw [putB_length, hpl]; omega
            have HQL := Lib.hid hql
            have HPQ := Lib.hid hpl
            generalize putB n 4 = pb at *
            generalize hcr : crcB (pb ++ q) = cr at *
            have hcrc := fun (v : Value) (w4 : World) (h : By w4 v (pb ++ q)) => octet_Crc v (pb ++ q) w4 h
            rw [hcr] at hcrc
            clear hql hcr hpl
            by_cases hs : cr = s
            · have c3 : ((cr : Int) != (s : Int)) = false := by rw [hs]; simp
              have hfr : frame1 (b.drop i) = some q := by rw [hF, if_pos ⟨hn, hnl, hs⟩]
              have hstep : scanB b = ((o ++ [q]) ++ (scanB (b.drop (i + (8 + n)))).1, (i + (8 + n)) + (scanB (b.drop (i + (8 + n)))).2) := by
                rw [HSC.out, scanB_some hfr, HPQ.out, List.drop_drop]
                simp [Nat.add_assoc]
              have HREL := Lib.hid (fun (v7 : Value) (w7 : World) (h7 : OwnRecs w7 w.heap.size v7 (o ++ [q])) (hU7 : Upd [] w w7) => show ScanRel w b (.int .i64 ((i : Int) + (8 + (n : Int)))) v7 w7 from
                ⟨i + (8 + n), o ++ [q], by simp, by omega, by simp; omega, h7, hU7, hstep⟩)
              have hol : o.length + 1 ≤ 1000000001 := by omega
              have HOL := Lib.hid hol
              have hq0 : ([] : List UInt8).length + q.length ≤ 1073741824 := by rw [List.length_nil, HPQ.out]; omega
              have HQ0 := Lib.hid hq0
              clear hF hs hfr hstep hnl hol hq0
              go_wp2_with (first
                | ((with_reducible show wpList _ _ _ (⟨_, .call ⟨.builtin .append, _, _⟩, _, _, _, _⟩ :: _) _ _); (have hgo := hU9); refine wpl_append_rec rfl rfl (hU09.trans0 hU9) (hown09.upd0 hU9) rfl (Rd.of_own hv9) rfl (hb8.upd0 hU9) HOL.out ?_; intro v7 w7 hv7 hU7)
                | ((with_reducible show wpList _ _ _ (⟨_, .buildSlice _ _ _, _, _, _, _⟩ :: _) _ _); (have hgo := hb8); refine wpl_lit elRec rfl rfl rfl (cs := [.slice ao8 q.length cap8]) rfl rfl (by omega) ?_; intro v9 w9 hv9 hU9 _)
                | ((with_reducible show wpList _ _ _ (⟨_, .call ⟨.builtin .append, _, _⟩, _, _, _, _⟩ :: _) _ _); (have hgo := hU6); refine wpl_append_by (l := []) elU8 rfl rfl hU6 hv6 rfl hb6 rfl HQ0.out ?_; intro v8 w8 hv8 _ hU8 _; (have hb8 : By w8 v8 q := by have := hv8.by; simpa using this); obtain ⟨ao8, cap8, hs8⟩ := By.val hb8; subst hs8; (have hU09 := hU.trans0 (hU04.trans0 hU8)); (have hown09 := HOWN.out.upd0 (hU04.trans0 hU8)))
                | (with_reducible show wpList _ _ _ (⟨_, .buildSlice _ _ _, _, _, _, _⟩ :: _) _ _; refine wpl_lit0 elU8 rfl rfl ?_; intro v6 w6 hv6 hU6 _; obtain ⟨ao6, cap6, hs6, _⟩ := (Rd.of_own hv6).shape; subst hs6; (have hU06 := hU04.trans0 hU6); (have hb6 := hb3.upd0 hU6))
                | (go_at_call 70; refine (hcrc v4 w4 hv4.by).mono ?_; rintro e w5 ⟨rfl, rfl⟩)
                | ((with_reducible show wpList _ _ _ (⟨_, .call ⟨.builtin .append, _, _⟩, _, _, _, _⟩ :: _) _ _); (have hgo := hU2); refine wpl_append_by elU8 rfl rfl hU2 hv2 rfl hb2 rfl HQL.out ?_; intro v4 w4 hv4 _ hU04 _; (have hb3 := hb1.upd0 hU04))
                | (go_at_call 71; refine (hput _).mono ?_; rintro e w2 ⟨v2, rfl, hv2, hU2⟩; obtain ⟨ao2, cap2, hs2⟩ := By.val hv2.by; subst hs2; (have hb2 := hb1.upd0 hU2))
                | ((with_reducible show wpList _ _ _ (⟨_, .slice _ _ _ _ _, _, _, _, _⟩ :: _) _ _); refine wpl_cut_by (n := i + 8) (m := n) elU8 rfl rfl hbr rfl rfl rfl (by omega) (by omega) hle ?_; intro v1 hb1 _; rw [← HQ.out] at hb1; obtain ⟨ao1, cap1, hs1⟩ := By.val hb1; subst hs1)
                | (go_at_call 69; (have hgo := hdone); refine hw2.mono ?_; rintro e w9 ⟨rfl, rfl⟩)
                | (go_at_call 69; refine hw1.mono ?_; rintro e w9 ⟨rfl, rfl⟩; (have hdone := True.intro)))
              exact ⟨HREL.out v7 w7 hv7 hU7, by simp [intOf]; omega⟩
            · have c3 : ((cr : Int) != (s : Int)) = true := by simp; omega
              have HSB := Lib.hid (show scanB b = (o, i) from by rw [HSC.out, scanB_none (by rw [hF, if_neg (fun h => hs h.2.2)])]; simp)
              clear hF hs hnl
              go_wp2_with (first
                | (go_at_call 70; refine (hcrc v4 w4 hv4.by).mono ?_; rintro e w5 ⟨rfl, rfl⟩)
                | ((with_reducible show wpList _ _ _ (⟨_, .call ⟨.builtin .append, _, _⟩, _, _, _, _⟩ :: _) _ _); (have hgo := hU2); refine wpl_append_by elU8 rfl rfl hU2 hv2 rfl hb2 rfl HQL.out ?_; intro v4 w4 hv4 _ hU04 _; (have hb3 := hb1.upd0 hU04))
                | (go_at_call 71; refine (hput _).mono ?_; rintro e w2 ⟨v2, rfl, hv2, hU2⟩; obtain ⟨ao2, cap2, hs2⟩ := By.val hv2.by; subst hs2; (have hb2 := hb1.upd0 hU2))
                | ((with_reducible show wpList _ _ _ (⟨_, .slice _ _ _ _ _, _, _, _, _⟩ :: _) _ _); refine wpl_cut_by (n := i + 8) (m := n) elU8 rfl rfl hbr rfl rfl rfl (by omega) (by omega) hle ?_; intro v1 hb1 _; rw [← HQ.out] at hb1; obtain ⟨ao1, cap1, hs1⟩ := By.val hb1; subst hs1)
                | (go_at_call 69; (have hgo := hdone); refine hw2.mono ?_; rintro e w9 ⟨rfl, rfl⟩)
                | (go_at_call 69; refine hw1.mono ?_; rintro e w9 ⟨rfl, rfl⟩; (have hdone := True.intro)))
              go_ret2
              rw [HSB.out]
              exact ⟨_, rfl, HOWN.out.upd0 hU04, hU.trans0 hU04⟩
          · have c2 : decide ((b.length : Int) - (i : Int) - 8 < (n : Int)) = true := by simp at hnl; simp; omega
            have HR := Lib.hid (HSTOP.out (by rw [hF, if_neg (fun h => hnl h.2.1)]))
            clear hF hnl
            go_wp2_with (first
              | (go_at_call 69; (have hgo := hdone); refine hw2.mono ?_; rintro e w9 ⟨rfl, rfl⟩)
              | (go_at_call 69; refine hw1.mono ?_; rintro e w9 ⟨rfl, rfl⟩; (have hdone := True.intro)))
            go_ret2
            exact HR.out
        · have c1 : decide ((1048576 : Int) < (n : Int)) = true := by simp; omega
          have HR := Lib.hid (HSTOP.out (by rw [hF, if_neg (fun h => hn h.1)]))
          clear hF
          go_wp2_with (first
            | (go_at_call 69; (have hgo := hdone); refine hw2.mono ?_; rintro e w9 ⟨rfl, rfl⟩)
            | (go_at_call 69; refine hw1.mono ?_; rintro e w9 ⟨rfl, rfl⟩; (have hdone := True.intro)))
          go_ret2
          exact HR.out
end Go.Proofs.Ythfbfdkjgkkpcaa
