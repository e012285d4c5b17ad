/-
  The journal's Open where there is no file yet.
-/
import Derived.Test.YthfbfdkjgkkpcaaJournal
import Derived.Test.YthfbfdkjgkkpcaaLit
namespace Go.Proofs.Ythfbfdkjgkkpcaa
open Go Go.RowKit

theorem str_append (a b : List UInt8) : ((⟨a.toArray⟩ : ByteArray) ++ ⟨b.toArray⟩) = ⟨(a ++ b).toArray⟩ := by
  apply ByteArray.ext
  rw [ByteArray.data_append]
  simp
theorem journal_fresh (w : World) (s : List UInt8) (h : s.length ≤ 1000000) : Calls Try.prog 49 #[encS s] w fun e w' => e = .returned (encS (s ++ [43])) ∧ w = w' := by
  go_enter Try.func49, Try.ntmps49
  go_wp2_with fail
  go_ret
  exact ⟨congrArg (fun b => Ending.returned (Value.string b)) (str_append s [43]), rfl⟩

theorem elFn : Elem Try.prog 116 54 1 8 := ⟨by kernel_rfl, by omega, by
  obtain ⟨i, h1, h2, h3, h4⟩ := info_parts (P := Try.prog) (e := 54) (z := .nilFunc) (size := 1) (bytes := 8) (by kernel_rfl)
  exact ⟨i, _, h1, h2, h3, h4, rfl⟩⟩

theorem journal_open_1 (w : World) (d a b : Nat) (S : List Nat) (D : DSt) (h : DiskAt w d S D) (name : List UInt8) (hn : name.length ≤ 1000000) (hl : D.loose.length ≤ 1000000000) (hnow : D.now.length ≤ 9223372036854775807)
    (ha : w.cell? ⟨a, 0, none⟩ = some (.pointer (some ⟨d, 0, none⟩))) (hb : w.cell? ⟨b, 0, none⟩ = some (encS name)) :
    Calls Try.prog 52 #[.pointer (some ⟨a, 0, none⟩), .pointer (some ⟨b, 0, none⟩)] w (DPost w d S (D.create name)) := by
  have hc := disk_create w d S D h name (by omega) hl hnow
  generalize D.create name = r at hc ⊢
  clear h hl hnow hn
  go_enter Try.func52, Try.ntmps52
  go_wp2_with (go_at_call 53; refine hc.mono ?_; rintro e w1 ⟨rfl, hp⟩)
  go_ret
  exact ⟨rfl, hp⟩

/-- A new file: Create, Sync. -/
def DSt.openNew (D : DSt) (name : List UInt8) : DSt × Nat := if (D.create name).2 = 0 then (D.create name).1.sync else D.create name
theorem does_loose (D : DSt) (c : Chg) : (D.does c).1.loose.length ≤ D.loose.length + 1 := by unfold DSt.does; split <;> simp
theorem create_loose (D : DSt) (name : List UInt8) : (D.create name).1.loose.length ≤ D.loose.length + 1 := by
  unfold DSt.create
  repeat' split
  all_goals first | (simp; done) | exact does_loose _ _

theorem journal_steps2 (w : World) (d a b : Nat) (S : List Nat) (D : DSt) (h : DiskAt w d S D) (name : List UInt8) (hn : name.length ≤ 1000000) (hl : D.loose.length ≤ 999999999) (hnow : D.now.length ≤ 9223372036854775807)
    (ha : w.cell? ⟨a, 0, none⟩ = some (.pointer (some ⟨d, 0, none⟩))) (hb : w.cell? ⟨b, 0, none⟩ = some (encS name)) (v : Value)
    (hv : Rd w 54 1 v 2 [.func (.func 52) #[] #[.pointer (some ⟨a, 0, none⟩), .pointer (some ⟨b, 0, none⟩)], .func (.func 54) #[.pointer (some ⟨d, 0, none⟩)] #[]]) :
    Calls Try.prog 51 #[v] w (DPost w d S (D.openNew name)) := by
  have h1 := journal_open_1 w d a b S D h name hn (by omega) hnow ha hb
  obtain ⟨ao, cap, rfl, hcp⟩ := hv.shape
  have hsync : ∀ w1 S1, DiskAt w1 d S1 (D.create name).1 → Calls Try.prog 54 #[.pointer (some ⟨d, 0, none⟩)] w1 (DPost w1 d S1 (D.create name).1.sync) := by
    intro w1 S1 hD
    exact disk_sync w1 d S1 _ hD (by have := create_loose D name; omega)
  have HF := Lib.hid (show D.openNew name = if (D.create name).2 = 0 then (D.create name).1.sync else D.create name from rfl)
  have HSY := Lib.hid hsync
  have hoff : Off w 54 S := h.off (by decide) (by decide)
  clear hsync h hl hn hnow ha hb hcp
  generalize hr : D.create name = r at *
  obtain ⟨D1, k⟩ := r
  go_enter Try.func51, Try.ntmps51
  go_wp2_with fail
  refine wp_loop_rounds 3 ?_
  rw [rounds_succ]
  go_wp2_with (first
    | ((with_reducible show wpList _ _ _ (⟨_, .indexAddr _ _ _, _, _, _, _⟩ :: _) _ _); refine wpl_indexAddr1 elFn rfl rfl hv rfl rfl (by omega) (by omega) _ rfl ?_; intro ad hcell))
  refine h1.mono ?_
  rintro e w1 ⟨rfl, S1, hD1, hU1, hS1⟩
  by_cases hk : k = 0
  · subst hk
    have HF' := Lib.hid (show D.openNew name = D1.sync from by rw [HF.out]; rfl)
    have hv1 := hv.upd hU1 hoff
    have hsy := HSY.out w1 S1 hD1
    generalize D1.sync = r2 at *
    obtain ⟨D2, k2⟩ := r2
    clear HF HSY
    go_wp2_with fail
    rw [rounds_succ]
    go_wp2_with (first
      | ((with_reducible show wpList _ _ _ (⟨_, .indexAddr _ _ _, _, _, _, _⟩ :: _) _ _); refine wpl_indexAddr1 elFn rfl rfl hv1 rfl rfl (by omega) (by omega) _ rfl ?_; intro ad2 hcell2))
    refine hsy.mono ?_
    rintro e w2 ⟨rfl, S2, hD2, hU2, hS2⟩
    have HFIN := Lib.hid (show DPost w d S (D2, k2) (.returned (.int .i64 k2)) w2 from ⟨rfl, S2, hD2, hU1.sub hS1 hU2, hS1.trans hS2 hU1.size⟩)
    by_cases hk2 : k2 = 0
    · subst hk2
      go_wp2_with fail
      rw [rounds_succ]
      go_wp2_with fail
      go_ret
      rw [HF'.out]
      exact HFIN.out
    · have h2 : ((k2 : Int) == 0) = false := by simp; omega
      have h3 : ((k2 : Int) = 0) = False := by simp; omega
      go_wp2_with fail
      go_ret
      rw [HF'.out]
      exact HFIN.out
  · have h2 : ((k : Int) == 0) = false := by simp; omega
    have h3 : ((k : Int) = 0) = False := by simp; omega
    have HF' := Lib.hid (show D.openNew name = (D1, k) from by rw [HF.out, if_neg hk])
    go_wp2_with fail
    go_ret
    rw [HF'.out]
    exact ⟨rfl, S1, hD1, hU1, hS1⟩

def OpenNewPost (w : World) (d : Nat) (S : List Nat) (D : DSt) (name : List UInt8) (e : Ending) (w' : World) : Prop :=
  if (D.openNew name).2 = 0 then
    ∃ j S', e = .returned (.tuple #[.pointer (some ⟨j, 0, none⟩), .slice none 0 0, .int .i64 0]) ∧ w.heap.size ≤ j ∧ JAt w' d j (j :: S') ⟨(D.openNew name).1, name, 0⟩ ∧ Upd S w w' ∧ Sub w S S'
  else e = .returned (.tuple #[.pointer none, .slice none 0 0, .int .i64 (D.openNew name).2]) ∧ ∃ S', DiskAt w' d S' (D.openNew name).1 ∧ Upd S w w' ∧ Sub w S S'

theorem journal_open_new (w : World) (d : Nat) (S : List Nat) (D : DSt) (h : DiskAt w d S D) (name : List UInt8) (h1 : isName name = true) (h2 : isName (name ++ [43]) = true) (h3 : D.there name = 6) (hl : D.loose.length ≤ 999999999) (hnow : D.now.length ≤ 9223372036854775807) :
    Calls Try.prog 27 #[.pointer (some ⟨d, 0, none⟩), encS name] w (OpenNewPost w d S D name) := by
  have hmf : ∀ (fn : Fn) (first cap : Array Value) (w : World), (Instr.makeFunc fn first cap).run Try.prog w = .ok (.func fn first cap) w := fun _ _ _ _ => rfl
  have hn : name.length ≤ 160 := by unfold isName at h1; simp at h1; exact h1.2
  have hs : D.size name = (0, 6) := by unfold DSt.size; rw [h3]; rfl
  have hsz : ∀ W : World, Upd [] w W → Calls Try.prog 50 #[.pointer (some ⟨d, 0, none⟩), encS name] W fun e w' => e = .returned (.tuple #[.int .i64 0, .int .i64 6]) ∧ W = w' := by
    intro W hU
    have := disk_size W d S D (h.upd0 hU) name
    rw [hs] at this
    exact this
  have hnm1 : ∀ W : World, Calls Try.prog 48 #[encS name] W fun e w' => e = .returned (.bool true) ∧ W = w' := by
    intro W
    have := disk_isName W name (by omega)
    rw [h1] at this
    exact this
  have hnm2 : ∀ W : World, Calls Try.prog 48 #[encS (name ++ [43])] W fun e w' => e = .returned (.bool true) ∧ W = w' := by
    intro W
    have := disk_isName W (name ++ [43]) (by simp; omega)
    rw [h2] at this
    exact this
  have hfr := fun W => journal_fresh W name (by omega)
  have hst := fun (W : World) (a b : Nat) (v : Value) (hU : Upd [] w W) => journal_steps2 W d a b S D (h.upd0 hU) name (by omega) hl hnow (v := v)
  have HST := Lib.hid hst; have H := Lib.hid h
  clear hs hst h1 h2 h3 hl hnow h hn
  go_enter Try.func27, Try.ntmps27
  go_wp2_with fail
  refine (hnm1 _).mono ?_
  rintro e w1 ⟨rfl, rfl⟩
  go_wp2_with fail
  refine (hfr _).mono ?_
  rintro e w1 ⟨rfl, rfl⟩
  go_wp2_with fail
  refine (hnm2 _).mono ?_
  rintro e w1 ⟨rfl, rfl⟩
  go_wp2_with fail
  refine (hsz _ (by repeat first | exact Upd.refl _ _ | exact Upd.alloc [] _ _ | refine Upd.trans0 ?_ (Upd.alloc [] _ _))).mono ?_
  rintro e w1 ⟨rfl, rfl⟩
  go_wp2_with ((with_reducible show wpList _ _ _ (⟨_, .buildSlice _ _ _, _, _, _, _⟩ :: _) _ _); refine wpl_litN elFn [.func (.func 52) #[] #[.pointer (some ⟨w.heap.size, 0, none⟩), .pointer (some ⟨w.heap.size + 1, 0, none⟩)], .func (.func 54) #[.pointer (some ⟨d, 0, none⟩)] #[]] (by simp [Value.cells]) (by simp) (by simp) rfl rfl rfl rfl ?_)
  have hz1 : ∀ o : Obj, (w.alloc o).heap.size = w.heap.size + 1 := fun o => by simp
  generalize hW4 : (((w.alloc (Obj.cells #[Value.pointer (some { block := d, off := 0 })] 24)).alloc (Obj.cells #[encS name] 9)).alloc (Obj.cells #[Value.pointer (some { block := d, off := 0 }), encS name, Value.int IntKind.i64 0] 100)) = W3
  have hU3 : Upd [] w W3 := by rw [← hW4]; exact ((Upd.alloc [] _ _).trans0 (Upd.alloc [] _ _)).trans0 (Upd.alloc [] _ _)
  have hs3 : W3.heap.size = w.heap.size + 1 + 1 + 1 := by rw [← hW4]; simp
  have ha : W3.cell? ⟨w.heap.size, 0, none⟩ = some (.pointer (some ⟨d, 0, none⟩)) := by
    rw [← hW4, cell_lit _ _ 0 #[.pointer (some ⟨d, 0, none⟩)] 24 (0, 0)]
    · rfl
    · rw [heap_alloc_old _ _ (by simp; omega), heap_alloc_old _ _ (by simp)]
      exact heap_alloc_new w _
  have hb : W3.cell? ⟨w.heap.size + 1, 0, none⟩ = some (encS name) := by
    rw [← hW4, cell_lit _ _ 0 #[encS name] 9 (0, 0)]
    · rfl
    · rw [heap_alloc_old _ _ (by simp)]
      have := heap_alloc_new (w.alloc (Obj.cells #[Value.pointer (some { block := d, off := 0 })] 24)) (Obj.cells #[encS name] 9)
      rwa [hz1] at this
  have hj : W3.heap[w.heap.size + 1 + 1]? = some (Obj.cells #[Value.pointer (some { block := d, off := 0 }), encS name, Value.int IntKind.i64 0] 100) := by
    rw [← hW4]
    have := heap_alloc_new ((w.alloc (Obj.cells #[Value.pointer (some { block := d, off := 0 })] 24)).alloc (Obj.cells #[encS name] 9)) (Obj.cells #[Value.pointer (some { block := d, off := 0 }), encS name, Value.int IntKind.i64 0] 100)
    simp only [World.size_alloc] at this
    exact this
  have hU4 : ∀ o, Upd [] W3 (W3.alloc o) := fun o => Upd.alloc [] _ _
  have hv : Rd (W3.alloc (Obj.cells #[Value.func (Fn.func 52) #[] #[Value.pointer (some { block := w.heap.size, off := 0 }), Value.pointer (some { block := w.heap.size + 1, off := 0 })], Value.func (Fn.func 54) #[Value.pointer (some { block := d, off := 0 })] #[]] 54)) 54 1 (Value.slice (some { block := W3.heap.size, off := 0 }) 2 2) 2 _ :=
    Rd.new rfl (Nat.le_refl _) (by decide) rfl rfl
  rw [hs3] at hv
  refine (HST.out _ w.heap.size (w.heap.size + 1) _ (hU3.trans0 (hU4 _)) ((hU4 _).cell ha (by simp)) ((hU4 _).cell hb (by simp)) hv).mono ?_
  rintro e w5 ⟨rfl, S', hD5, hU5, hS5⟩
  have hU15 : Upd S w w5 := ((hU3.trans0 (hU4 _)).mono (T := S) (by simp)).trans hU5 (fun i hi _ => hi)
  have hS15 : Sub w S S' := fun k hk => (hS5 k hk).imp_right (fun h => Nat.le_trans (hU3.trans0 (hU4 _)).size h)
  have hjS : w.heap.size + 1 + 1 ∉ S := fun hm => by have := H.out.lt _ hm; omega
  have hj5 := hU5.get ((hU4 _).get hj (by simp)) hjS
  generalize hr : D.openNew name = r at *
  obtain ⟨D', k⟩ := r
  have HR := Lib.hid hr
  have HJ5 := Lib.hid hj5; have HD5 := Lib.hid hD5; have HU := Lib.hid hU15; have HSS := Lib.hid hS15
  clear hv hj hb ha hU4 hU5 hD5 hS5 hj5 hU15 hS15 hr HST hsz hnm1 hnm2 hfr hmf hW4
  by_cases hk : k = 0
  · subst hk
    go_wp2_with fail
    go_ret3
    unfold OpenNewPost
    rw [HR.out]
    refine ⟨w.heap.size + 1 + 1, S', rfl, by omega, ⟨S', rfl, HD5.out, HJ5.out⟩, HU.out, HSS.out⟩
  · have h2 : ((k : Int) == 0) = false := by simp; omega
    have h3 : ((k : Int) = 0) = False := by simp; omega
    go_wp2_with fail
    go_ret3
    unfold OpenNewPost
    rw [HR.out, if_neg hk]
    exact ⟨rfl, S', HD5.out, HU.out, HSS.out⟩
end Go.Proofs.Ythfbfdkjgkkpcaa
