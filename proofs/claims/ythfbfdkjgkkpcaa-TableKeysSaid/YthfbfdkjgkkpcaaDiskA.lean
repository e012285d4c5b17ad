/-
  A disk in memory, and the walks of its steps.
-/
import Derived.Test.YthfbfdkjgkkpcaaDiskW
import Derived.Test.YthfbfdkjgkkpcaaRegion
namespace Go.Proofs.Ythfbfdkjgkkpcaa
open Go Go.RowKit

/-- The cells of loose changes. -/
def ChgCells (w : World) : List Value → List Chg → Prop
  | [], [] => True
  | k :: a :: b :: p :: r, c :: l => k = .int .i64 c.kind ∧ a = encS c.a ∧ b = encS c.b ∧ By w p c.p ∧ ChgCells w r l
  | _, _ => False
theorem ChgCells.upd {S : List Nat} {w w' : World} (hU : Upd S w w') (hS : Off w 5 S) : ∀ {cs : List Value} {l : List Chg}, ChgCells w cs l → ChgCells w' cs l
  | [], [], _ => trivial
  | _ :: _ :: _ :: _ :: _, _ :: _, h => ⟨h.1, h.2.1, h.2.2.1, h.2.2.2.1.upd hU hS, ChgCells.upd hU hS h.2.2.2.2⟩
theorem ChgCells.snoc {w : World} {c : Chg} {pv : Value} (hp : By w pv c.p) : ∀ {cs : List Value} {l : List Chg}, ChgCells w cs l → ChgCells w (cs ++ [.int .i64 c.kind, encS c.a, encS c.b, pv]) (l ++ [c])
  | [], [], _ => ⟨rfl, rfl, rfl, hp, trivial⟩
  | _ :: _ :: _ :: _ :: _, _ :: _, h => ⟨h.1, h.2.1, h.2.2.1, h.2.2.2.1, ChgCells.snoc hp h.2.2.2.2⟩

/-- Block d is a disk; S: the blocks that it alone turns. -/
structure DiskAt (w : World) (d : Nat) (S : List Nat) (D : DSt) : Prop where
  ex : ∃ nb sb lv cells, S = d :: nb :: sb :: lv.ownBlock.toList ∧ w.heap[d]? = some (.cells #[.int .i64 D.room, .map (some nb), .map (some sb), lv, .int .i64 D.fuse, .bool D.down] 72 (0, 0)) ∧
    MapB w nb D.now ∧ MapB w sb D.sure ∧ nb ≠ sb ∧ w.ownsRow 0 95 4 lv D.loose.length cells ∧ ChgCells w cells D.loose
  inv : DInv D
  most : D.fuse ≤ 9223372036854775807

theorem own_off {w : World} {B e t sz n : Nat} {v : Value} {xs : List Value} (h : w.ownsRow B t sz v n xs) (hn : t ≠ e) : Off w e v.ownBlock.toList := by
  rcases h.2 with ⟨rfl, _⟩ | ⟨g, cap, cur, rfl, _, hg, _⟩
  · exact Off.nil _ _
  · exact Off.cons_cells hg hn (Off.nil _ _)
theorem DiskAt.off {w : World} {d : Nat} {S : List Nat} {D : DSt} (h : DiskAt w d S D) {e : TypeId} (h1 : 72 ≠ e) (h2 : 95 ≠ e) : Off w e S := by
  obtain ⟨nb, sb, lv, cells, rfl, hd, hn, hs, hne, ho, hc⟩ := h.ex
  exact Off.cons_cells hd h1 (hn.off (hs.off (own_off ho h2)))
theorem DiskAt.off8 {w : World} {d : Nat} {S : List Nat} {D : DSt} (h : DiskAt w d S D) : Off w 5 S := h.off (by decide) (by decide)
theorem DiskAt.lt {w : World} {d : Nat} {S : List Nat} {D : DSt} (h : DiskAt w d S D) : ∀ k ∈ S, k < w.heap.size := by
  obtain ⟨nb, sb, lv, cells, rfl, hd, hn, hs, hne, ho, hc⟩ := h.ex
  intro k hk
  simp only [List.mem_cons, Option.mem_toList] at hk
  rcases hk with rfl | rfl | rfl | hk
  · exact lt_of_get hd
  · exact hn.lt
  · exact hs.lt
  · exact (ho.lt k hk).2
/-- What turns none of its blocks leaves a disk as it is. -/
theorem DiskAt.upd {S T : List Nat} {w w' : World} {d : Nat} {D : DSt} (h : DiskAt w d S D) (hU : Upd T w w') (h8 : Off w 5 T) (hn : ∀ k ∈ S, k ∉ T) : DiskAt w' d S D := by
  obtain ⟨nb, sb, lv, cells, rfl, hd, hnb, hsb, hne, ho, hc⟩ := h.ex
  refine ⟨⟨nb, sb, lv, cells, rfl, hU.get hd (hn d (by simp)), hnb.upd hU h8 (hn nb (by simp)), hsb.upd hU h8 (hn sb (by simp)), hne, Own.upd ho hU ?_, hc.upd hU h8⟩, h.inv, h.most⟩
  intro g hg
  exact hn g (by simp [hg])
theorem DiskAt.upd0 {S : List Nat} {w w' : World} {d : Nat} {D : DSt} (h : DiskAt w d S D) (hU : Upd [] w w') : DiskAt w' d S D := h.upd hU (Off.nil _ _) (fun _ _ hm => by cases hm)

/-- The blocks of S' are those of S, or new. -/
def Sub (w : World) (S S' : List Nat) : Prop := ∀ k ∈ S', k ∈ S ∨ w.heap.size ≤ k
theorem Sub.refl (w : World) (S : List Nat) : Sub w S S := fun _ h => .inl h
theorem Sub.trans {w w' : World} {S S' S'' : List Nat} (h : Sub w S S') (h' : Sub w' S' S'') (hs : w.heap.size ≤ w'.heap.size) : Sub w S S'' := by
  intro k hk
  rcases h' k hk with h1 | h1
  · exact h k h1
  · exact .inr (Nat.le_trans hs h1)
theorem Sub.not_mem {w : World} {S S' : List Nat} (h : Sub w S S') {k : Nat} (hk : k < w.heap.size) (hn : k ∉ S) : k ∉ S' := by
  intro hm
  rcases h k hm with h1 | h1
  · exact hn h1
  · omega
/-- Two steps at one object, one behind the other. -/
theorem Upd.sub {S S' : List Nat} {a b c : World} (h : Upd S a b) (hs : Sub a S S') (k : Upd S' b c) : Upd S a c :=
  h.trans k (fun i hi hlt => (hs i hi).resolve_right (by omega))

/-- What a disk's step leaves: an answer, and the disk behind it. -/
def DPost (w : World) (d : Nat) (S : List Nat) (r : DSt × Nat) (e : Ending) (w' : World) : Prop :=
  e = .returned (.int .i64 r.2) ∧ ∃ S', DiskAt w' d S' r.1 ∧ Upd S w w' ∧ Sub w S S'

theorem setCell_get {w : World} {d i : Nat} {c : Array Value} {e : TypeId} {f : Nat × Nat} (h : w.heap[d]? = some (.cells c e f)) (v : Value) :
    (w.setCell ⟨d, i, none⟩ v).heap[d]? = some (.cells (c.setIfInBounds i v) e f) := by
  simp only [World.setCell, Array.getElem?_modify, if_true, h, Option.map_some]
  rfl
/-- A field of the disk's own block is written: the power. -/
theorem DiskAt.poke {w w' : World} {d : Nat} {S : List Nat} {D : DSt} (h : DiskAt w d S D) (fuse : Int) (down : Bool) (hU : Upd [d] w w')
    (hd' : ∀ c, w.heap[d]? = some (.cells c 72 (0, 0)) → w'.heap[d]? = some (.cells ((c.setIfInBounds 4 (.int .i64 fuse)).setIfInBounds 5 (.bool down)) 72 (0, 0))) (h1 : -1 ≤ fuse) (h2 : fuse ≤ 9223372036854775807) :
    DiskAt w' d S { D with fuse := fuse, down := down } := by
  obtain ⟨nb, sb, lv, cells, rfl, hd, hn, hs, hne, ho, hc⟩ := h.ex
  have h8 : Off w 5 [d] := Off.cons_cells hd (by decide) (Off.nil _ _)
  have e1 : nb ∉ [d] := by
    obtain ⟨es, m', hw, _⟩ := hn
    obtain ⟨arr, cl, hb, _⟩ := hw.ex
    intro hm; simp at hm; subst hm; rw [hd] at hb; cases hb
  have e2 : sb ∉ [d] := by
    obtain ⟨es, m', hw, _⟩ := hs
    obtain ⟨arr, cl, hb, _⟩ := hw.ex
    intro hm; simp at hm; subst hm; rw [hd] at hb; cases hb
  refine ⟨⟨nb, sb, lv, cells, rfl, ?_, hn.upd hU h8 e1, hs.upd hU h8 e2, hne, Own.upd ho hU ?_, hc.upd hU h8⟩, ?_, h2⟩
  · rw [hd' _ hd]; rfl
  · intro g hg hm
    simp only [List.mem_singleton] at hm
    subst hm
    rcases ho.2 with ⟨rfl, _⟩ | ⟨g', cap, cur, rfl, _, hg', _⟩
    · simp [Value.ownBlock] at hg
    · simp [Value.ownBlock] at hg; subst hg; rw [hd] at hg'; cases hg'
  · exact ⟨h.inv.room, h.inv.nodup, h.inv.now, h.inv.fits, h1, h.inv.kinds⟩

theorem disk_up (w : World) (d : Nat) (S : List Nat) (D : DSt) (h : DiskAt w d S D) :
    Calls Try.prog 45 #[.pointer (some ⟨d, 0, none⟩)] w fun e w' => e = .returned (.int .i64 (if D.down then 5 else 0)) ∧ w = w' := by
  obtain ⟨nb, sb, lv, cells, rfl, hd, _⟩ := h.ex
  have c : w.cell? ⟨d, 5, none⟩ = some (.bool D.down) := by rw [cell_lit w d 5 _ _ _ hd]; rfl
  clear hd h
  cases hb : D.down <;> rw [hb] at c
  all_goals
    clear hb
    go_enter Try.func45, Try.ntmps45
    go_wp2
    go_ret
    exact ⟨rfl, rfl⟩
theorem disk_up_nil (w : World) : Calls Try.prog 45 #[.pointer none] w fun e w' => e = .returned (.int .i64 2) ∧ w = w' := by
  go_enter Try.func45, Try.ntmps45
  go_wp2
  go_ret
  exact ⟨rfl, rfl⟩

/-- A disk behind the power of a step. -/
def DSt.spend (D : DSt) : DSt × Nat := if D.fuse = 0 then ({ D with down := true }, 5) else ({ D with fuse := burn D.fuse }, 0)
def SpendPost (w : World) (d : Nat) (S : List Nat) (D : DSt) (e : Ending) (w' : World) : Prop :=
  e = .returned (.int .i64 D.spend.2) ∧ DiskAt w' d S D.spend.1 ∧ Upd [d] w w'

theorem disk_spend (w : World) (d : Nat) (S : List Nat) (D : DSt) (h : DiskAt w d S D) :
    Calls Try.prog 68 #[.pointer (some ⟨d, 0, none⟩)] w (SpendPost w d S D) := by
  obtain ⟨nb, sb, lv, cells, hS, hd, _⟩ := h.ex
  have c4 : w.cell? ⟨d, 4, none⟩ = some (.int .i64 D.fuse) := by rw [cell_lit w d 4 _ _ _ hd]; rfl
  have c5 : w.cell? ⟨d, 5, none⟩ = some (.bool D.down) := by rw [cell_lit w d 5 _ _ _ hd]; rfl
  have f4 := frozen_lit w d 4 _ _ hd
  have f5 := frozen_lit w d 5 _ _ hd
  have hlo := h.inv.fuse
  have hhi := h.most
  have HD := Lib.hid hd; clear hd
  by_cases h0 : D.fuse = 0
  · have hP : D.spend = ({ D with down := true }, 5) := by simp [DSt.spend, h0]
    have HP := Lib.hid hP; clear hP
    rw [h0] at c4
    have hK := h.poke D.fuse true (w' := w.setCell ⟨d, 5, none⟩ (.bool true)) (Upd.setCell _ _ _ (by simp)) (by
      intro c hc
      rw [setCell_get hc]
      rw [HD.out] at hc
      cases hc
      rfl) hlo hhi
    have HK := Lib.hid hK; clear hK h h0 hlo hhi HD hS
    go_enter Try.func68, Try.ntmps68
    go_wp2
    go_ret
    exact ⟨by rw [HP.out]; rfl, by rw [HP.out]; exact HK.out, Upd.setCell _ _ _ (by simp)⟩
  · have t0 : (D.fuse == 0) = false := by simpa using h0
    by_cases hpos : 0 < D.fuse
    · have hP : D.spend = ({ D with fuse := D.fuse - 1 }, 0) := by simp [DSt.spend, h0, burn, hpos]
      have HP := Lib.hid hP; clear hP
      have hK := h.poke (D.fuse - 1) D.down (w' := w.setCell ⟨d, 4, none⟩ (.int .i64 (D.fuse - 1))) (Upd.setCell _ _ _ (by simp)) (by
        intro c hc
        rw [setCell_get hc]
        rw [HD.out] at hc
        cases hc
        rfl) (by omega) (by omega)
      have HK := Lib.hid hK; clear hK h h0 HD hS
      go_enter Try.func68, Try.ntmps68
      go_wp2
      go_ret
      exact ⟨by rw [HP.out]; rfl, by rw [HP.out]; exact HK.out, Upd.setCell _ _ _ (by simp)⟩
    · have hP : D.spend = (D, 0) := by simp [DSt.spend, h0, burn, hpos]
      have HP := Lib.hid hP; clear hP
      have t1 : decide (0 < D.fuse) = false := by simpa using hpos
      have H := Lib.hid h; clear h hS
      go_enter Try.func68, Try.ntmps68
      go_wp2
      go_ret
      exact ⟨by rw [HP.out]; rfl, by rw [HP.out]; exact H.out, Upd.refl _ _⟩
theorem disk_spend_no (w : World) (d : Nat) (S : List Nat) (D : DSt) (h : DiskAt w d S D) (h0 : D.fuse = 0) :
    Calls Try.prog 68 #[.pointer (some ⟨d, 0, none⟩)] w fun e w' => e = .returned (.int .i64 5) ∧ DiskAt w' d S { D with down := true } ∧ Upd [d] w w' := by
  refine (disk_spend w d S D h).mono ?_
  rintro e w' ⟨rfl, h1, h2⟩
  simp only [DSt.spend, if_pos h0] at h1 ⊢
  exact ⟨rfl, h1, h2⟩
theorem disk_spend_yes (w : World) (d : Nat) (S : List Nat) (D : DSt) (h : DiskAt w d S D) (h0 : D.fuse ≠ 0) :
    Calls Try.prog 68 #[.pointer (some ⟨d, 0, none⟩)] w fun e w' => e = .returned (.int .i64 0) ∧ DiskAt w' d S { D with fuse := burn D.fuse } ∧ Upd [d] w w' := by
  refine (disk_spend w d S D h).mono ?_
  rintro e w' ⟨rfl, h1, h2⟩
  simp only [DSt.spend, if_neg h0] at h1 ⊢
  exact ⟨rfl, h1, h2⟩

theorem disk_does_no (w : World) (d : Nat) (S : List Nat) (D : DSt) (h : DiskAt w d S D) (c : Chg) (pv : Value) (h0 : D.fuse = 0) :
    Calls Try.prog 67 #[.pointer (some ⟨d, 0, none⟩), chgV c pv] w (DPost w d S (D.does c)) := by
  have hU0 : Upd [] w (w.alloc (Obj.cells #[Value.int IntKind.i64 c.kind, encS c.a, encS c.b, pv] 95)) := Upd.alloc [] _ _
  have h1 := h.upd0 hU0
  have H0 := Lib.hid h0; clear h0
  have HS : d ∈ S := by obtain ⟨nb, sb, lv, cells, rfl, _⟩ := h.ex; simp
  go_enter Try.func67, Try.ntmps67
  go_wp2_with (go_at_call 68; refine (disk_spend_no _ d S D h1 H0.out).mono ?_; rintro e w1 ⟨rfl, hD1, hU1⟩)
  go_ret
  refine ⟨by simp [DSt.does, H0.out], S, by simpa [DSt.does, H0.out] using hD1, (hU0.mono (T := S) (by simp)).trans hU1 (fun i hi _ => by simp at hi; subst hi; exact HS), Sub.refl _ _⟩


theorem MapB.ne_cells {w : World} {mb d : Nat} {m : List (List UInt8 × List UInt8)} {c : Array Value} {e : TypeId} {f : Nat × Nat} (h : MapB w mb m) (hd : w.heap[d]? = some (.cells c e f)) : mb ≠ d := by
  obtain ⟨es, m', hw, _⟩ := h
  obtain ⟨arr, cl, hb, _⟩ := hw.ex
  rintro rfl
  rw [hd] at hb
  cases hb
theorem own_ne_map {w : World} {mb B e sz n : Nat} {v : Value} {xs : List Value} {m : List (List UInt8 × List UInt8)} (h : MapB w mb m) (ho : w.ownsRow B e sz v n xs) : ∀ g, v.ownBlock = some g → g ≠ mb := by
  intro g hg
  rcases ho.2 with ⟨rfl, _⟩ | ⟨g', cap, cur, rfl, _, hg', _⟩
  · simp [Value.ownBlock] at hg
  · simp [Value.ownBlock] at hg; subst hg
    exact (h.ne_cells hg').symm
theorem own_ne_cells {w : World} {d B e t sz n : Nat} {v : Value} {xs : List Value} {c : Array Value} {f : Nat × Nat} (hd : w.heap[d]? = some (.cells c t f)) (ho : w.ownsRow B e sz v n xs) (hne : t ≠ e) : ∀ g, v.ownBlock = some g → g ≠ d := by
  intro g hg
  rcases ho.2 with ⟨rfl, _⟩ | ⟨g', cap, cur, rfl, _, hg', _⟩
  · simp [Value.ownBlock] at hg
  · simp [Value.ownBlock] at hg; subst hg
    rintro rfl
    rw [hd] at hg'
    cases hg'
    exact hne rfl

theorem elChange : Elem Try.prog 70 95 4 64 := ⟨by kernel_rfl, by omega, by
  obtain ⟨i, h1, h2, h3, h4⟩ := info_parts (P := Try.prog) (e := 95) (z := .agg #[.int .i64 0, .string ⟨#[]⟩, .string ⟨#[]⟩, .slice none 0 0]) (size := 4) (bytes := 64) (by kernel_rfl)
  exact ⟨i, _, h1, h2, h3, h4, rfl⟩⟩

/-- A change is laid behind the loose ones. -/
theorem loose_push (w : World) (d nb sb : Nat) (lv : Value) (cells : List Value) (D : DSt) (c : Chg) (pv : Value) (loose : List Chg) (hD : D.loose = loose ++ [c])
    (hd : w.heap[d]? = some (.cells #[.int .i64 D.room, .map (some nb), .map (some sb), lv, .int .i64 D.fuse, .bool D.down] 72 (0, 0)))
    (hnb : MapB w nb D.now) (hsb : MapB w sb D.sure) (hne : nb ≠ sb) (ho : w.ownsRow 0 95 4 lv loose.length cells) (hc : ChgCells w cells loose) (hp : By w pv c.p) (hl : loose.length ≤ 1000000000)
    (inv : DInv D) (most : D.fuse ≤ 9223372036854775807) (O : Obj) (hO : O = Obj.cells #[Value.int IntKind.i64 c.kind, encS c.a, encS c.b, pv] 95) (ty : Nat) :
    ∃ v' w4, (∃ ao n cap, v' = .slice ao n cap) ∧ (Builtin.append_ #[70, 70] ty #[lv, .slice (some ⟨w.heap.size, 0, none⟩) 1 1]).run Try.prog (w.drew.alloc O) = .ok v' w4 ∧
      Upd lv.ownBlock.toList w w4 ∧ w4.cell? ⟨d, 3, none⟩ = some lv ∧ w4.frozen? ⟨d, 3, none⟩ = false ∧
      DiskAt (w4.setCell ⟨d, 3, none⟩ v') d (d :: nb :: sb :: v'.ownBlock.toList) D ∧ Upd (d :: lv.ownBlock.toList) w (w4.setCell ⟨d, 3, none⟩ v') ∧ Sub w (d :: nb :: sb :: lv.ownBlock.toList) (d :: nb :: sb :: v'.ownBlock.toList) := by
  subst hO
  have hU0 : Upd [] w (w.drew.alloc (.cells #[Value.int IntKind.i64 c.kind, encS c.a, encS c.b, pv] 95)) := (Upd.drew [] w).trans0 (Upd.alloc [] _ _)
  have hR : Rd (w.drew.alloc (.cells #[Value.int IntKind.i64 c.kind, encS c.a, encS c.b, pv] 95)) 95 4 (.slice (some ⟨w.heap.size, 0, none⟩) 1 1) 1 [.int .i64 c.kind, encS c.a, encS c.b, pv] :=
    Rd.new (w := w.drew) (by simp) (Nat.le_refl _) (by decide) rfl rfl
  obtain ⟨v', w4, r1, r2, r3, r4⟩ := run_append_rd (P := Try.prog) (ty := ty) elChange (Own.upd0 ho hU0) hR (by
    intro u hu
    simp only [List.mem_cons, List.not_mem_nil, or_false] at hu
    rcases hu with rfl | rfl | rfl | rfl
    · rfl
    · rfl
    · rfl
    · obtain ⟨ao, cap, rfl⟩ := hp.val; rfl) (by unfold maxLen; omega) (by omega) (Nat.zero_le _)
  have hU1 : Upd lv.ownBlock.toList (w.drew.alloc (.cells #[Value.int IntKind.i64 c.kind, encS c.a, encS c.b, pv] 95)) w4 := Upd.grown r3 (fun k hk => by rw [hk]; simp)
  have hU : Upd lv.ownBlock.toList w w4 := (hU0.mono (T := lv.ownBlock.toList) (by simp)).trans hU1 (fun i hi _ => hi)
  have hlvd := own_ne_cells hd ho (by decide)
  have hlvn := own_ne_map hnb ho
  have hlvs := own_ne_map hsb ho
  have dn : d ∉ lv.ownBlock.toList := by intro hm; exact hlvd d (by simpa using hm) rfl
  have nn : nb ∉ lv.ownBlock.toList := by intro hm; exact hlvn nb (by simpa using hm) rfl
  have sn : sb ∉ lv.ownBlock.toList := by intro hm; exact hlvs sb (by simpa using hm) rfl
  have off : Off w 5 lv.ownBlock.toList := own_off ho (by decide)
  have hd4 := hU.get hd dn
  have hnb4 := hnb.upd hU off nn
  have hsb4 := hsb.upd hU off sn
  have hc4 := (hc.upd hU off).snoc (hp.upd hU off)
  have hU2 : Upd [d] w4 (w4.setCell ⟨d, 3, none⟩ v') := Upd.setCell _ _ _ (by simp)
  have off4 : Off w4 5 [d] := Off.cons_cells hd4 (by decide) (Off.nil _ _)
  have hn4 : nb ∉ [d] := by simp; exact hnb4.ne_cells hd4
  have hs4 : sb ∉ [d] := by simp; exact hsb4.ne_cells hd4
  have hv4 := own_ne_cells hd4 r2 (by decide)
  refine ⟨v', w4, (by obtain ⟨ao, cap, h9, _⟩ := (Rd.of_own r2).shape; exact ⟨ao, _, cap, h9⟩), r1, hU, ?_, frozen_lit w4 d 3 _ _ hd4, ⟨⟨nb, sb, v', cells ++ [.int .i64 c.kind, encS c.a, encS c.b, pv], rfl, ?_, hnb4.upd hU2 off4 hn4, hsb4.upd hU2 off4 hs4, hne, ?_, ?_⟩, inv, most⟩, ?_, ?_⟩
  · rw [cell_lit w4 d 3 _ _ _ hd4]; rfl
  · rw [setCell_get hd4]; rfl
  · rw [hD, List.length_append]
    exact Own.upd r2 hU2 (fun g hg => by simp; exact hv4 g hg)
  · rw [hD]; exact hc4.upd hU2 off4
  · exact (hU.mono (T := d :: lv.ownBlock.toList) (fun i hi _ => List.mem_cons_of_mem _ hi)).trans hU2 (fun i hi _ => by simp at hi; subst hi; simp)
  · intro k hk
    simp only [List.mem_cons, Option.mem_toList] at hk
    rcases hk with rfl | rfl | rfl | hk
    · left; simp
    · left; simp
    · left; simp
    · rcases r4 with r4 | r4
      · left; rw [r4] at hk; simp [hk]
      · right; rw [r4] at hk
        have hk' : (w.drew.alloc (.cells #[Value.int IntKind.i64 c.kind, encS c.a, encS c.b, pv] 95)).heap.size = k := Option.some.inj hk
        rw [← hk']; exact hU0.size

set_option maxRecDepth 100000 in
set_option maxHeartbeats 2000000 in
theorem disk_does_yes (w : World) (d : Nat) (S : List Nat) (D : DSt) (h : DiskAt w d S D) (c : Chg) (pv : Value) (h0 : D.fuse ≠ 0) (hk : c.kind ≤ 3) (hp : By w pv c.p) (hpl : c.p.length ≤ 1048576)
    (hr : c.kind = 1 → used D.now + c.p.length ≤ D.room) (hl : D.loose.length ≤ 1000000000) :
    Calls Try.prog 67 #[.pointer (some ⟨d, 0, none⟩), chgV c pv] w (DPost w d S (D.does c)) := by
  have hU0 : Upd [] w (w.alloc (Obj.cells #[Value.int IntKind.i64 c.kind, encS c.a, encS c.b, pv] 95)) := Upd.alloc [] _ _
  have h1 := h.upd0 hU0
  have H0 := Lib.hid h0; clear h0
  have hmem : ∀ k ∈ S, k < w.heap.size := h.lt
  have hb0 : (w.alloc (Obj.cells #[Value.int IntKind.i64 c.kind, encS c.a, encS c.b, pv] 95)).heap[w.heap.size]? = some (Obj.cells #[Value.int IntKind.i64 c.kind, encS c.a, encS c.b, pv] 95) := heap_alloc_new w _
  have Hb0 := Lib.hid hb0; clear hb0
  have HM := Lib.hid hmem; clear hmem
  have HL := Lib.hid hl
  have hinv : DInv { D with fuse := burn D.fuse, now := fdo D.now c, loose := D.loose ++ [c] } := by
    have h2 := h.inv.does c hk hpl hr
    simpa [DSt.does, H0.out] using h2
  have HINV := Lib.hid hinv; clear hinv
  obtain ⟨_, _, _, _, _, hd0, _⟩ := h.ex
  have HD0 := Lib.hid (Off.cons_cells (e := 5) (by rw [hU0.keep d (lt_of_get hd0) (by simp)]; exact hd0) (by decide) (Off.nil (w.alloc (Obj.cells #[Value.int IntKind.i64 c.kind, encS c.a, encS c.b, pv] 95)) _))
  clear hd0
  go_enter Try.func67, Try.ntmps67
  go_wp2_with (go_at_call 68; refine (disk_spend_yes _ d S D h1 H0.out).mono ?_; rintro e w1 ⟨rfl, hD1, hU1⟩)
  obtain ⟨nb, sb, lv, cells, hS, hd1, hnb, hsb, hne, hown, hcc⟩ := hD1.ex
  have hdlt : d < w.heap.size := HM.out d (by rw [hS]; simp)
  have hb1 := hU1.get Hb0.out (show w.heap.size ∉ [d] by simp; omega)
  have b0 : w1.cell? ⟨w.heap.size, 0, none⟩ = some (.int .i64 c.kind) := by rw [cell_lit w1 _ 0 _ _ _ hb1]; rfl
  have b1 : w1.cell? ⟨w.heap.size, 1, none⟩ = some (encS c.a) := by rw [cell_lit w1 _ 1 _ _ _ hb1]; rfl
  have b2 : w1.cell? ⟨w.heap.size, 2, none⟩ = some (encS c.b) := by rw [cell_lit w1 _ 2 _ _ _ hb1]; rfl
  have b3 : w1.cell? ⟨w.heap.size, 3, none⟩ = some pv := by rw [cell_lit w1 _ 3 _ _ _ hb1]; rfl
  have c1 : w1.cell? ⟨d, 1, none⟩ = some (.map (some nb)) := by rw [cell_lit w1 _ 1 _ _ _ hd1]; rfl
  have hpw1 : By w1 pv c.p := (hp.upd0 hU0).upd hU1 HD0.out
  have hbnd : used D.now + c.p.length ≤ 1073741824 := by have := h.inv.usedNow; have := h.inv.room; omega
  have hnd : d ∉ [nb] := by
    obtain ⟨es, m', hw, _⟩ := hnb
    obtain ⟨arr, cl, hb, _⟩ := hw.ex
    intro hm; simp at hm; subst hm; rw [hd1] at hb; cases hb
  have hnb2 : w.heap.size ∉ [nb] := by
    have := HM.out nb (by rw [hS]; simp)
    simp; omega
  have hdo := files_do w1.drew nb D.now (hnb.upd (Upd.drew [] w1) (Off.nil _ _) (by simp)) c hk pv (hpw1.upd0 (Upd.drew [] w1)) hbnd
  have HDO := Lib.hid hdo
  have HS := Lib.hid hS; have Hd1 := Lib.hid hd1; have Hb1 := Lib.hid hb1; have HND := Lib.hid hnd; have HNB2 := Lib.hid hnb2; have HNE := Lib.hid hne
  clear hdo hS hd1 hb1 hnd hnb2 hne hp hr hpl hl hk hbnd
  go_region_held3 (fun W => W.cell? ⟨w.heap.size, 0, none⟩ = some (.int .i64 c.kind) ∧ W.cell? ⟨w.heap.size, 1, none⟩ = some (encS c.a) ∧ W.cell? ⟨w.heap.size, 2, none⟩ = some (encS c.b) ∧ W.cell? ⟨w.heap.size, 3, none⟩ = some pv ∧ W.cell? ⟨d, 1, none⟩ = some (.map (some nb)))
    (first | go_keep | exact ⟨hU2.cell b0 HNB2.out, hU2.cell b1 HNB2.out, hU2.cell b2 HNB2.out, hU2.cell b3 HNB2.out, hU2.cell c1 HND.out⟩)
    ((go_at_call 46; refine HDO.out.mono ?_; rintro e w2 ⟨rfl, hM2, hU2⟩))
  -- the second region: the change is laid behind the loose ones
  have hU2' : Upd [nb] w1 w2 := (Upd.drew [nb] w1).trans hU2 (fun i hi _ => hi)
  have hoff2 : Off w1 5 [nb] := hnb.off (Off.nil _ _)
  have hd2 := hU2'.get Hd1.out HND.out
  have hb2 := hU2'.get Hb1.out HNB2.out
  have hsb2 : MapB w2 sb D.sure := hsb.upd hU2' hoff2 (by simp; exact fun e => HNE.out e.symm)
  have hcc2 := hcc.upd hU2' hoff2
  have hlvn : ∀ g, lv.ownBlock = some g → g ∉ [nb] := by
    intro g hg hm
    simp only [List.mem_singleton] at hm
    subst hm
    obtain ⟨es, m', hw, _⟩ := hnb
    obtain ⟨arr, cl, hb, _⟩ := hw.ex
    rcases hown.2 with ⟨rfl, _⟩ | ⟨g', cap, cur, rfl, _, hg', _⟩
    · simp [Value.ownBlock] at hg
    · simp [Value.ownBlock] at hg; subst hg; rw [hb] at hg'; cases hg'
  have hown2 := Own.upd hown hU2' hlvn
  have hpw2 : By w2 pv c.p := hpw1.upd hU2' hoff2
  have hSd : d ∈ S := by rw [HS.out]; simp
  have hSn : nb ∈ S := by rw [HS.out]; simp
  have hU12 : Upd S w w2 := ((hU0.mono (T := S) (by simp)).trans hU1 (fun i hi _ => by simp at hi; subst hi; exact hSd)).trans hU2' (fun i hi _ => by simp at hi; subst hi; exact hSn)
  obtain ⟨v', w4, ⟨aov, nv, capv, rfl⟩, r1, r2, r3, r4, r5, r6, r7⟩ := loose_push w2 d nb sb lv cells { D with fuse := burn D.fuse, now := fdo D.now c, loose := D.loose ++ [c] } c pv D.loose rfl hd2 hM2 hsb2 HNE.out hown2 hcc2 hpw2 HL.out HINV.out hD1.most _ rfl 70
  have hboxne : w.heap.size ∉ lv.ownBlock.toList := by
    intro hm
    have := HM.out w.heap.size (by rw [HS.out]; simp at hm ⊢; simp [hm])
    omega
  have hb4 := r2.get hb2 hboxne
  have q0 : ∀ W : World, W.heap[w.heap.size]? = some (Obj.cells #[Value.int IntKind.i64 c.kind, encS c.a, encS c.b, pv] 95) → W.cell? ⟨d, 3, none⟩ = some lv →
      W.cell? ⟨w.heap.size, 0, none⟩ = some (.int .i64 c.kind) ∧ W.cell? ⟨w.heap.size, 1, none⟩ = some (encS c.a) ∧ W.cell? ⟨w.heap.size, 2, none⟩ = some (encS c.b) ∧ W.cell? ⟨w.heap.size, 3, none⟩ = some pv ∧ W.cell? ⟨d, 3, none⟩ = some lv := by
    intro W hW hl
    refine ⟨?_, ?_, ?_, ?_, hl⟩
    all_goals
      rw [cell_lit W _ _ _ _ _ hW]
      rfl
  have e3 : w2.cell? ⟨d, 3, none⟩ = some lv := by rw [cell_lit w2 _ 3 _ _ _ hd2]; rfl
  have hU2a : Upd [] w2 (w2.drew.alloc (Obj.cells #[Value.int IntKind.i64 c.kind, encS c.a, encS c.b, pv] 95)) := (Upd.drew [] w2).trans0 (Upd.alloc [] _ _)
  have HS0 := q0 w2.drew hb2 e3
  have HS1 := q0 _ (hU2a.get hb2 (by simp)) (hU2a.cell e3 (by simp))
  have HS2 := q0 w4 hb4 r3
  have R1 := Lib.hid r1
  have RS := Lib.hid (run_store_slice (P := Try.prog) (T := 70) (by kernel_rfl) r3 r4 aov nv capv)
  have RL := Lib.hid (show (Instr.buildSlice 70 1 #[(0, chgV c pv)]).run Try.prog w2.drew = .ok (.slice (some ⟨w2.heap.size, 0, none⟩) 1 1) (w2.drew.alloc (Obj.cells #[Value.int IntKind.i64 c.kind, encS c.a, encS c.b, pv] 95)) from run_lit elChange (chgV c pv) rfl (by omega))
  have HF := Lib.hid (show DPost w d S (D.does c) (.returned (.int .i64 (0 : Nat))) (w4.setCell ⟨d, 3, none⟩ (.slice aov nv capv)) from by
    have hdoes : D.does c = ({ D with fuse := burn D.fuse, now := fdo D.now c, loose := D.loose ++ [c] }, 0) := by simp [DSt.does, H0.out]
    rw [hdoes]
    refine ⟨rfl, _, r5, hU12.trans r6 (fun i hi _ => ?_), ?_⟩
    · rw [HS.out]; simp at hi ⊢; rcases hi with hi | hi <;> simp [hi]
    · intro k hk
      rcases r7 k hk with h7 | h7
      · left; rw [HS.out]; exact h7
      · right; exact Nat.le_trans hU12.size h7)
  have H0' := Lib.hid HS0; have H1' := Lib.hid HS1; have H2' := Lib.hid HS2; have F3 := Lib.hid r3; have F4 := Lib.hid r4
  clear q0 HS0 HS1 HS2 r1 r2 r3 r4 r5 r6 r7 hU2a e3 hb4 hboxne hU12 hSd hSn hU2' hoff2 hd2 hb2 hsb2 hcc2 hlvn hown2 hpw2 b0 b1 b2 b3 c1 hnb hsb hown hcc hdlt hpw1 hM2 hU2 hU1 hD1 h1 hU0 h
  go_wp2_with fail
  refine wp_region_noPanic ?_
  refine wp_region_M 10 (fun W => W.cell? ⟨w.heap.size, 0, none⟩ = some (.int .i64 c.kind) ∧ W.cell? ⟨w.heap.size, 1, none⟩ = some (encS c.a) ∧ W.cell? ⟨w.heap.size, 2, none⟩ = some (encS c.b) ∧ W.cell? ⟨w.heap.size, 3, none⟩ = some pv ∧ W.cell? ⟨d, 3, none⟩ = some lv) (by kernel_rfl) ?_
  (refine wpAnyM_takeO (i := 0) (dst := (some 17)) (op := (Go.Op.move (Go.Operand.tmp 0))) (v := ?_) (by rfl) (by kernel_rfl) (by kernel_rfl) (by kernel_rfl) (by kernel_rfl) (by rfl) (fun _ _ _ h => h) ?_ H0'.out ?_; rotate_left; (focus (intro _ _ _ W HW; (try dsimp only at HW); go_simp; (try with_reducible rfl))); (try simp only [Act.put, List.setIfInBounds_toArray, List.set_cons_zero, List.set_cons_succ]))
  (refine wpAnyM_takeO (i := 1) (dst := (some 18)) (op := (Go.Op.move (Go.Operand.tmp 0))) (v := ?_) (by rfl) (by kernel_rfl) (by kernel_rfl) (by kernel_rfl) (by kernel_rfl) (by rfl) (fun _ _ _ h => h) ?_ H0'.out ?_; rotate_left; (focus (intro _ _ _ W HW; (try dsimp only at HW); go_simp; (try with_reducible rfl))); (try simp only [Act.put, List.setIfInBounds_toArray, List.set_cons_zero, List.set_cons_succ]))
  (refine wpAnyM_takeO (i := 2) (dst := (some 19)) (op := (Go.Op.nilCheck (Go.Operand.tmp 18))) (v := ?_) (by rfl) (by kernel_rfl) (by kernel_rfl) (by kernel_rfl) (by kernel_rfl) (by rfl) (fun _ _ _ h => h) ?_ H0'.out ?_; rotate_left; (focus (intro _ _ _ W HW; (try dsimp only at HW); go_simp; (try with_reducible rfl))); (try simp only [Act.put, List.setIfInBounds_toArray, List.set_cons_zero, List.set_cons_succ]))
  (refine wpAnyM_takeO (i := 3) (dst := (some 20)) (op := (Go.Op.fieldAddr 72 (Go.Operand.tmp 19) 3)) (v := ?_) (by rfl) (by kernel_rfl) (by kernel_rfl) (by kernel_rfl) (by kernel_rfl) (by rfl) (fun _ _ _ h => h) ?_ H0'.out ?_; rotate_left; (focus (intro _ _ _ W HW; (try dsimp only at HW); go_simp; (try with_reducible rfl))); (try simp only [Act.put, List.setIfInBounds_toArray, List.set_cons_zero, List.set_cons_succ]))
  (refine wpAnyM_takeO (i := 4) (dst := (some 21)) (op := (Go.Op.load 70 (Go.Operand.tmp 20))) (v := ?_) (by rfl) (by kernel_rfl) (by kernel_rfl) (by kernel_rfl) (by kernel_rfl) (by rfl) (fun _ _ _ h => h) ?_ H0'.out ?_; rotate_left; (focus (intro _ _ _ W HW; (try dsimp only at HW); go_simp; (try with_reducible rfl))); (try simp only [Act.put, List.setIfInBounds_toArray, List.set_cons_zero, List.set_cons_succ]))
  (refine wpAnyM_takeO (i := 5) (dst := (some 22)) (op := (Go.Op.load 95 (Go.Operand.tmp 3))) (v := ?_) (by rfl) (by kernel_rfl) (by kernel_rfl) (by kernel_rfl) (by kernel_rfl) (by rfl) (fun _ _ _ h => h) ?_ H0'.out ?_; rotate_left; (focus (intro _ _ _ W HW; (try dsimp only at HW); go_simp; (try with_reducible rfl))); (try simp only [Act.put, List.setIfInBounds_toArray, List.set_cons_zero, List.set_cons_succ]))
  (refine wpAnyM_val (i := 6) (dst := (some 23)) (op := (Go.Op.buildSlice 70 1 #[(0, (Go.Operand.tmp 22))])) (by rfl) (by kernel_rfl) (ex_lit RL.out (by rfl)) (.inr H1'.out) ?_; (try simp only [Act.put, List.setIfInBounds_toArray, List.set_cons_zero, List.set_cons_succ]))
  (refine wpAnyM_val (i := 7) (dst := (some 24)) (op := (Go.Op.call { callee := (Go.Callee.builtin Go.Builtin.append), args := #[(Go.Operand.tmp 21), (Go.Operand.tmp 23)], argTypes := #[70, 70] })) (by rfl) (by kernel_rfl) (ex_append R1.out (by rfl) (by rfl)) (.inr H2'.out) ?_; (try simp only [Act.put, List.setIfInBounds_toArray, List.set_cons_zero, List.set_cons_succ]))
  (refine wpAnyM_val (i := 8) (dst := (some 25)) (op := (Go.Op.nilCheck (Go.Operand.tmp 17))) (by rfl) (by kernel_rfl) (fun _ _ _ => by go_simp; rfl) (.inr H2'.out) ?_; (try simp only [Act.put, List.setIfInBounds_toArray, List.set_cons_zero, List.set_cons_succ]))
  (refine wpAnyM_val (i := 9) (dst := (some 26)) (op := (Go.Op.fieldAddr 72 (Go.Operand.tmp 25) 3)) (by rfl) (by kernel_rfl) (fun _ _ _ => by go_simp; rfl) (.inr H2'.out) ?_; (try simp only [Act.put, List.setIfInBounds_toArray, List.set_cons_zero, List.set_cons_succ]))
  (refine wpAnyM_skip (i := 10) (dst := none) (op := (Go.Op.store 70 (Go.Operand.tmp 26) (Go.Operand.tmp 24))) (by rfl) (by kernel_rfl) (ex_store RS.out (by rfl) (by rfl)) (.inl (by rfl)) ?_; (try simp only [Act.put, List.setIfInBounds_toArray, List.set_cons_zero, List.set_cons_succ]))
  refine wpAnyM_done (by kernel_rfl) ?_ _
  refine NoPanic.normal ?_
  go_wp2_with fail
  go_ret
  exact HF.out

theorem disk_does (w : World) (d : Nat) (S : List Nat) (D : DSt) (h : DiskAt w d S D) (c : Chg) (pv : Value) (hk : c.kind ≤ 3) (hp : By w pv c.p) (hpl : c.p.length ≤ 1048576)
    (hr : c.kind = 1 → used D.now + c.p.length ≤ D.room) (hl : D.loose.length ≤ 1000000000) :
    Calls Try.prog 67 #[.pointer (some ⟨d, 0, none⟩), chgV c pv] w (DPost w d S (D.does c)) := by
  by_cases h0 : D.fuse = 0
  · exact disk_does_no w d S D h c pv h0
  · exact disk_does_yes w d S D h c pv h0 hk hp hpl hr hl
end Go.Proofs.Ythfbfdkjgkkpcaa
