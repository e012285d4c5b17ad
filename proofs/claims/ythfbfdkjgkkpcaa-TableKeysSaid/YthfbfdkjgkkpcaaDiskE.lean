/-
  The disk's Sync; a new disk.
-/
import Derived.Test.YthfbfdkjgkkpcaaDiskD
namespace Go.Proofs.Ythfbfdkjgkkpcaa
open Go Go.RowKit

theorem ChgCells.get {w : World} : ∀ {cs : List Value} {l : List Chg}, ChgCells w cs l → ∀ {i : Nat} {c : Chg}, l[i]? = some c →
    ∃ pv, cs[i * 4 + 0]? = some (.int .i64 c.kind) ∧ cs[i * 4 + 1]? = some (encS c.a) ∧ cs[i * 4 + 2]? = some (encS c.b) ∧ cs[i * 4 + 3]? = some pv ∧ By w pv c.p
  | [], [], _, _, _, h => by simp at h
  | k :: a :: b :: p :: r, c0 :: l, hc, 0, c, h => by
    simp only [List.getElem?_cons_zero, Option.some.injEq] at h
    subst h
    obtain ⟨rfl, rfl, rfl, hp, _⟩ := hc
    exact ⟨p, rfl, rfl, rfl, rfl, hp⟩
  | k :: a :: b :: p :: r, c0 :: l, hc, i + 1, c, h => by
    simp only [List.getElem?_cons_succ] at h
    obtain ⟨pv, h0, h1, h2, h3, h4⟩ := ChgCells.get hc.2.2.2.2 h
    refine ⟨pv, ?_, ?_, ?_, ?_, h4⟩
    · rw [show (i + 1) * 4 + 0 = (i * 4 + 0) + 4 by omega]; simpa using h0
    · rw [show (i + 1) * 4 + 1 = (i * 4 + 1) + 4 by omega]; simpa using h1
    · rw [show (i + 1) * 4 + 2 = (i * 4 + 2) + 4 by omega]; simpa using h2
    · rw [show (i + 1) * 4 + 3 = (i * 4 + 3) + 4 by omega]; simpa using h3
theorem DSt.mid_succ (D : DSt) (i : Nat) (c : Chg) (h : D.loose[i]? = some c) : D.mid (i + 1) = fdo (D.mid i) c := by
  unfold DSt.mid
  rw [List.take_add_one, h, List.foldl_append]
  rfl

def SyncRel (w1 : World) (sb : Nat) (D : DSt) (x : Value) (wr : World) : Prop := ∃ i : Nat, x = .int .i64 i ∧ i ≤ D.loose.length ∧ Upd [sb] w1 wr ∧ MapB wr sb (D.mid i)

set_option maxRecDepth 100000 in
set_option maxHeartbeats 1000000 in
theorem disk_sync_yes (w : World) (d : Nat) (S : List Nat) (D : DSt) (h : DiskAt w d S D) (hl : D.loose.length ≤ 1000000000) (hdn : D.down = false) (h0 : D.fuse ≠ 0) :
    Calls Try.prog 54 #[.pointer (some ⟨d, 0, none⟩)] w (DPost w d S D.sync) := by
  have hup := disk_up w d S D h
  rw [hdn] at hup
  have hsp := disk_spend_yes w d S D h h0
  have HF := Lib.hid (show D.sync = ({ D with fuse := burn D.fuse, sure := D.now, loose := [] }, 0) from by simp [DSt.sync, hdn, h0])
  have hdS : d ∈ S := by obtain ⟨nb, sb, lv, cells, rfl, _⟩ := h.ex; simp
  have HL := Lib.hid hl
  clear hl hdn h0 h
  go_enter Try.func54, Try.ntmps54
  go_wp2_with (first
    | (go_at_call 45; refine hup.mono ?_; rintro e w1 ⟨rfl, rfl⟩)
    | (go_at_call 68; refine hsp.mono ?_; rintro e w1 ⟨rfl, hD1, hU1⟩; obtain ⟨nb, sb, lv, cells, hS, hd1, hnb, hsb, hne, hown, hcc⟩ := hD1.ex; obtain ⟨ao, cap, hlv, _⟩ := (Rd.of_own hown).shape; subst hlv; (have c2 : w1.cell? ⟨d, 2, none⟩ = some (.map (some sb)) := by rw [cell_lit w1 d 2 _ _ _ hd1]; rfl); (have c3 : w1.cell? ⟨d, 3, none⟩ = some (.slice ao D.loose.length cap) := by rw [cell_lit w1 d 3 _ _ _ hd1]; rfl)))
  have hlt : sb < w1.heap.size := hsb.lt
  have hbd : ∀ (i : Nat) (c : Chg), D.loose[i]? = some c → used (D.mid i) + c.p.length ≤ 1073741824 := by
    intro i c hc
    have e1 := hD1.inv.fits i
    have e2 := hD1.inv.room
    have e3 := (hD1.inv.kinds c (List.mem_of_getElem? hc)).2
    have e4 : used (D.mid i) ≤ D.room := e1
    have e5 : D.room ≤ 67108864 := e2
    omega
  have hkd : ∀ (i : Nat) (c : Chg), D.loose[i]? = some c → c.kind ≤ 3 := fun i c hc => (hD1.inv.kinds c (List.mem_of_getElem? hc)).1
  have HB := Lib.hid hbd; have HK := Lib.hid hkd; have HD1 := Lib.hid hD1; have HC := Lib.hid hcc; have HO := Lib.hid hown; have Hd1 := Lib.hid hd1; have HS := Lib.hid hS
  have hdsb : d ∉ [sb] := by simp; exact (hsb.ne_cells hd1).symm
  clear hbd hkd hD1 hcc hown hd1 hS
  go_loopw [20] (fun x wr => SyncRel w1 sb D x wr) (fun x _ => D.loose.length - (intOf x).toNat)
  case atStart => exact ⟨0, rfl, Nat.zero_le _, Upd.refl _ _, hsb⟩
  case round =>
    obtain ⟨i, rfl, hi, hU, hM⟩ := hrel
    by_cases hlt : i < D.loose.length
    · have ht : decide ((i : Int) < (D.loose.length : Int)) = true := by simp; omega
      obtain ⟨c, hc⟩ : ∃ c, D.loose[i]? = some c := ⟨_, List.getElem?_eq_getElem hlt⟩
      obtain ⟨pv, g0, g1, g2, g3, hpv⟩ := HC.out.get hc
      have off8 : Off w1 5 [sb] := hsb.off (Off.nil _ _)
      have offc : Off w1 95 [sb] := hsb.off (Off.nil _ _)
      have hpr : By wr pv c.p := hpv.upd hU off8
      obtain ⟨ap, cp, hsp⟩ := By.val hpr
      subst hsp
      have hR : Rd wr 95 4 (.slice ao D.loose.length cap) D.loose.length cells := (Rd.of_own HO.out).upd hU offc
      go_wp2_with ((with_reducible show wpList _ _ _ (⟨_, .indexAddr _ _ _, _, _, _, _⟩ :: _) _ _); refine wpl_indexAddr elChange rfl rfl hR rfl rfl (by omega) (by omega) ?_; intro ad hcell hspot; (have k0 := hcell 0 (by omega)); (have k1 := hcell 1 (by omega)); (have k2 := hcell 2 (by omega)); (have k3 := hcell 3 (by omega)); rw [Int.toNat_natCast, g0] at k0; rw [Int.toNat_natCast, g1] at k1; rw [Int.toNat_natCast, g2] at k2; rw [Int.toNat_natCast, g3] at k3; clear hcell; obtain ⟨gb, gof, gs⟩ := ad; cases hspot; simp only [Addr.add_lit, Nat.add_zero] at k0 k1 k2 k3)
      have hUa : Upd [] wr (wr.alloc (Obj.cells #[Value.int IntKind.i64 c.kind, encS c.a, encS c.b, Value.slice ap c.p.length cp] 95)) := Upd.alloc [] _ _
      have hba := heap_alloc_new wr (Obj.cells #[Value.int IntKind.i64 c.kind, encS c.a, encS c.b, Value.slice ap c.p.length cp] 95)
      have b0 : (wr.alloc (Obj.cells #[Value.int IntKind.i64 c.kind, encS c.a, encS c.b, Value.slice ap c.p.length cp] 95)).cell? ⟨wr.heap.size, 0, none⟩ = some (.int .i64 c.kind) := by rw [cell_lit _ _ 0 _ _ _ hba]; rfl
      have b1 : (wr.alloc (Obj.cells #[Value.int IntKind.i64 c.kind, encS c.a, encS c.b, Value.slice ap c.p.length cp] 95)).cell? ⟨wr.heap.size, 1, none⟩ = some (encS c.a) := by rw [cell_lit _ _ 1 _ _ _ hba]; rfl
      have b2 : (wr.alloc (Obj.cells #[Value.int IntKind.i64 c.kind, encS c.a, encS c.b, Value.slice ap c.p.length cp] 95)).cell? ⟨wr.heap.size, 2, none⟩ = some (encS c.b) := by rw [cell_lit _ _ 2 _ _ _ hba]; rfl
      have b3 : (wr.alloc (Obj.cells #[Value.int IntKind.i64 c.kind, encS c.a, encS c.b, Value.slice ap c.p.length cp] 95)).cell? ⟨wr.heap.size, 3, none⟩ = some (Value.slice ap c.p.length cp) := by rw [cell_lit _ _ 3 _ _ _ hba]; rfl
      have d2 := hUa.cell (hU.cell c2 hdsb) (by simp)
      have hwn : wr.heap.size ∉ [sb] := by have := hM.lt; simp; omega
      have hUd : Upd [] wr (wr.alloc (Obj.cells #[Value.int IntKind.i64 c.kind, encS c.a, encS c.b, Value.slice ap c.p.length cp] 95)).drew := hUa.trans0 (Upd.drew [] _)
      have hdo := files_do (wr.alloc (Obj.cells #[Value.int IntKind.i64 c.kind, encS c.a, encS c.b, Value.slice ap c.p.length cp] 95)).drew sb (D.mid i) (hM.upd hUd (Off.nil _ _) (by simp)) c (HK.out i c hc) _ (hpr.upd0 hUd) (HB.out i c hc)
      have HDO := Lib.hid hdo
      have HMS := Lib.hid (D.mid_succ i c hc)
      clear hdo k0 k1 k2 k3 g0 g1 g2 g3 hpv hba hc
      go_region_held3 (fun W => W.cell? ⟨wr.heap.size, 0, none⟩ = some (.int .i64 c.kind) ∧ W.cell? ⟨wr.heap.size, 1, none⟩ = some (encS c.a) ∧ W.cell? ⟨wr.heap.size, 2, none⟩ = some (encS c.b) ∧ W.cell? ⟨wr.heap.size, 3, none⟩ = some (Value.slice ap c.p.length cp) ∧ W.cell? ⟨d, 2, none⟩ = some (.map (some sb)))
        (first | go_keep | exact ⟨hU2.cell b0 hwn, hU2.cell b1 hwn, hU2.cell b2 hwn, hU2.cell b3 hwn, hU2.cell d2 hdsb⟩)
        ((go_at_call 46; refine HDO.out.mono ?_; rintro e w2 ⟨rfl, hM2, hU2⟩))
      have hll := HL.out
      go_wp2_with fail
      go_roundw
      case rel =>
        refine ⟨i + 1, by go_num, hlt, hU.trans ((hUd.mono (T := [sb]) (by simp)).trans hU2 (fun j hj _ => hj)) (fun j hj _ => hj), ?_⟩
        rw [HMS.out]; exact hM2
      case measure => simp [intOf]; omega
    · have ht : decide ((i : Int) < (D.loose.length : Int)) = false := by simp; omega
      have hie : i = D.loose.length := by omega
      have e3 : wr.cell? ⟨d, 3, none⟩ = some (.slice ao D.loose.length cap) := hU.cell c3 hdsb
      have hdr := hU.get Hd1.out hdsb
      have f3 := frozen_lit wr d 3 _ _ hdr
      have HDR := Lib.hid hdr
      clear hdr
      go_wp2_with fail
      go_ret
      rw [HF.out]
      have hmid : D.mid i = D.now := by
        unfold DSt.mid
        rw [hie, List.take_length]
        exact HD1.out.inv.now
      rw [hmid] at hM
      have off8 : Off w1 5 [sb] := hsb.off (Off.nil _ _)
      have hUs : Upd [d] wr (wr.setCell ⟨d, 3, none⟩ (.slice none 0 0)) := Upd.setCell _ _ _ (by simp)
      have offd : Off wr 5 [d] := Off.cons_cells HDR.out (by decide) (Off.nil _ _)
      have hnb' := hnb.upd hU off8 (by simp; exact hne)
      refine ⟨rfl, [d, nb, sb], ⟨⟨nb, sb, .slice none 0 0, [], rfl, ?_, hnb'.upd hUs offd (by simp; exact hnb'.ne_cells HDR.out), hM.upd hUs offd (by simp; exact hM.ne_cells HDR.out), hne, World.ownsRow_nil _ _ _ _, trivial⟩, ?_, HD1.out.most⟩, ?_, ?_⟩
      · rw [setCell_get HDR.out]; rfl
      · have h1 := HD1.out.inv
        refine ⟨h1.room, h1.nodupNow, rfl, ?_, h1.fuse, by intro c hc; cases hc⟩
        intro j
        simp only [DSt.mid, List.take_nil, List.foldl_nil]
        exact h1.usedNow
      · have q : Upd S w wr := (hU1.mono (T := S) (fun j hj _ => by simp at hj; subst hj; exact hdS)).trans hU (fun j hj _ => by simp at hj; subst hj; rw [HS.out]; simp)
        exact q.trans hUs (fun j hj _ => by simp at hj; subst hj; exact hdS)
      · intro k hk
        left; rw [HS.out]
        simp at hk ⊢
        rcases hk with rfl | rfl | rfl <;> simp

theorem disk_sync (w : World) (d : Nat) (S : List Nat) (D : DSt) (h : DiskAt w d S D) (hl : D.loose.length ≤ 1000000000) :
    Calls Try.prog 54 #[.pointer (some ⟨d, 0, none⟩)] w (DPost w d S D.sync) := by
  by_cases hdn : D.down = true
  · have hup := disk_up w d S D h
    simp only [hdn, if_true] at hup
    have HP := Lib.hid (show DPost w d S D.sync (.returned (.int .i64 (5 : Nat))) w from by
      have : D.sync = (D, 5) := by simp [DSt.sync, hdn]
      rw [this]
      exact ⟨rfl, S, h, Upd.refl _ _, Sub.refl _ _⟩)
    clear h hl
    go_enter Try.func54, Try.ntmps54
    go_wp2_with (go_at_call 45; refine hup.mono ?_; rintro e w1 ⟨rfl, rfl⟩)
    go_ret
    exact HP.out
  have hdn' : D.down = false := by simpa using hdn
  by_cases h0 : D.fuse = 0
  · have hup := disk_up w d S D h
    simp only [hdn', Bool.false_eq_true, if_false] at hup
    have hsp := disk_spend_no w d S D h h0
    have hdS : d ∈ S := by obtain ⟨nb, sb, lv, cells, rfl, _⟩ := h.ex; simp
    have HF := Lib.hid (show D.sync = ({ D with down := true }, 5) from by simp [DSt.sync, hdn', h0])
    clear h hl h0 hdn hdn'
    go_enter Try.func54, Try.ntmps54
    go_wp2_with (first
      | (go_at_call 45; refine hup.mono ?_; rintro e w1 ⟨rfl, rfl⟩)
      | (go_at_call 68; refine hsp.mono ?_; rintro e w1 ⟨rfl, hD1, hU1⟩))
    go_ret
    rw [HF.out]
    exact ⟨rfl, S, hD1, hU1.mono (fun j hj _ => by simp at hj; subst hj; exact hdS), Sub.refl _ _⟩
  · exact disk_sync_yes w d S D h hl hdn' h0

/-- An empty map in a new block. -/
theorem MapW.new (w : World) : MapW (w.alloc (.map #[] 0)) w.heap.size [] :=
  ⟨⟨#[], 0, heap_alloc_new w _, rfl, by simp, by simp⟩, by simp⟩
theorem MapB.new (w : World) : MapB (w.alloc (.map #[] 0)) w.heap.size [] := ⟨[], [], MapW.new w, .nil, List.Perm.nil⟩
/-- The blocks of S are new since w. -/
def NewIn (w : World) (S : List Nat) : Prop := ∀ k ∈ S, w.heap.size ≤ k

def NewPost (w : World) (room : Nat) (e : Ending) (w' : World) : Prop :=
  ∃ d S, e = .returned (.tuple #[.pointer (some ⟨d, 0, none⟩), .int .i64 0]) ∧ DiskAt w' d S ⟨room, [], [], [], -1, false⟩ ∧ Upd [] w w' ∧ NewIn w S
theorem disk_new (w : World) (room : Nat) (h : room ≤ 67108864) :
    Calls Try.prog 6 #[.int .i64 room] w (NewPost w room) := by
  have h1 : decide ((room : Int) < 0) = false := by simp
  have h2 : decide ((67108864 : Int) < (room : Int)) = false := by simp; omega
  have H := Lib.hid h; clear h
  have hmm : ∀ W : World, (Instr.makeMap 69 none).run Try.prog W = .ok (.map (some W.heap.size)) (W.alloc (.map #[] 0)) := fun _ => rfl
  go_enter Try.func6, Try.ntmps6
  go_wp2_with fail
  go_ret2
  have hU : Upd [] w ((w.alloc (.map #[] 0)).alloc (.map #[] 0)) := (Upd.alloc [] _ _).trans0 (Upd.alloc [] _ _)
  have hs : (w.alloc (.map #[] 0)).heap.size = w.heap.size + 1 := by simp
  have hs2 : ((w.alloc (.map #[] 0)).alloc (.map #[] 0)).heap.size = w.heap.size + 1 + 1 := by simp
  have hm2 := MapB.new (w.alloc (.map #[] 0))
  rw [hs] at hm2
  generalize hO : Obj.cells #[Value.int IntKind.i64 (room : Int), Value.map (some w.heap.size), Value.map (some (w.heap.size + 1)), Value.slice none 0 0, Value.int IntKind.i64 (-1), Value.bool false] 72 = O
  have hb := heap_alloc_new ((w.alloc (.map #[] 0)).alloc (.map #[] 0)) O
  rw [hs2, ← hO] at hb
  rw [hO] at hb
  refine ⟨w.heap.size + 1 + 1, [w.heap.size + 1 + 1, w.heap.size, w.heap.size + 1], rfl, ⟨⟨w.heap.size, w.heap.size + 1, .slice none 0 0, [], rfl, ?_, ?_, ?_, by omega, World.ownsRow_nil _ _ _ _, trivial⟩, DInv.new H.out, by show (-1 : Int) ≤ 9223372036854775807; omega⟩, hU.trans0 (Upd.alloc [] _ _), ?_⟩
  · rw [hb, ← hO]
  · exact ((MapB.new w).upd (Upd.alloc [] _ _) (Off.nil _ _) (by simp)).upd (Upd.alloc [] _ _) (Off.nil _ _) (by simp)
  · exact hm2.upd (Upd.alloc [] _ _) (Off.nil _ _) (by simp)
  · intro k hk
    simp at hk
    omega
end Go.Proofs.Ythfbfdkjgkkpcaa
