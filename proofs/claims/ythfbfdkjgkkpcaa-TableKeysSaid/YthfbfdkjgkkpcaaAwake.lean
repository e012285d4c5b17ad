/-
  The walk of the law's own first look: awake.
-/
import Derived.Test.YthfbfdkjgkkpcaaTfit
import Derived.Test.YthfbfdkjgkkpcaaTopen
import Derived.Test.YthfbfdkjgkkpcaaKeys
import Derived.Laws.IdiomStrings
import Derived.Lib.SlBytesConst
namespace Go.Proofs.Ythfbfdkjgkkpcaa
open Go Go.RowKit

theorem conv_back {w : World} {v : Value} {l : List UInt8} (h : By w v l) : (convert 41 9 v).run Try.prog w = .ok (encS l) w := by
  obtain ⟨_, _, ⟨rfl, h0⟩ | ⟨b, off, cap, cur, fz, rfl, h1, h2, h3, h4, h5⟩⟩ := h
  · have : l = [] := List.eq_nil_of_length_eq_zero h0
    subst this
    rw [run_convert_bytes_string (P := Try.prog) w 41 9 5 none 0 0 (by kernel_rfl) (by kernel_rfl) (by kernel_rfl)]
    rfl
  · refine run_convert_bytes_back (P := Try.prog) w 41 9 5 ⟨b, off, none⟩ cap l (by kernel_rfl) (by kernel_rfl) (by kernel_rfl) ?_
    intro j hj
    rw [Addr.add_lit, cell_lit w b (off + j) cur 5 fz h3]
    have : (l.map enc)[j]? = some (enc l[j]) := by simp [hj]
    rw [← h5] at this
    simpa [List.getElem?_take, hj, List.getElem?_drop] using this

theorem NewIn.sub {w a : World} {S S' : List Nat} (h : NewIn w S) (hs : Sub a S S') (hl : w.heap.size ≤ a.heap.size) : NewIn w S' := fun k hk => by
  rcases hs k hk with h1 | h1
  · exact h k h1
  · exact Nat.le_trans hl h1
/-- What turns none but blocks that are new since w. -/
theorem Upd.new {w a b : World} {S : List Nat} (h : Upd [] w a) (hn : NewIn w S) (k : Upd S a b) : Upd [] w b := h.trans k (fun i hi hlt => absurd (hn i hi) (by omega))
def D0 (room : Nat) : DSt := ⟨room, [], [], [], -1, false⟩
def D1 (room : Nat) (n : List UInt8) : DSt := ⟨room, [(n, [])], [(n, [])], [], -1, false⟩
theorem openNew_D0 (room : Nat) (n : List UInt8) (h : isName n = true) : (D0 room).openNew n = (D1 room n, 0) := by
  have hc : (D0 room).create n = ({ D0 room with fuse := -1, now := [(n, [])], loose := [⟨0, n, [], []⟩] }, 0) := by
    rw [DSt.create_full (D0 room) n rfl h rfl (by simp [D0]), does_fine (D0 room) _ rfl]
    rfl
  unfold DSt.openNew
  rw [hc]
  simp only [if_true]
  rw [sync_fine _ rfl rfl]
  rfl
/-- A table in a new file. -/
def T1 (room : Nat) (n : List UInt8) : TSt := ⟨⟨D1 room n, n, 0⟩, [], false⟩
theorem fine_T1 (room : Nat) (n : List UInt8) : Fine (T1 room n) := ⟨rfl, rfl, rfl, rfl, by simp [T1, D1], by simp [T1, D1, aget]⟩

/-- A new disk, and a new table on it. -/
def FirstPost (w : World) (d : Nat) (S : List Nat) (room : Nat) (n : List UInt8) (e : Ending) (w' : World) : Prop :=
  ∃ tb S', e = .returned (.tuple #[.pointer (some ⟨tb, 0, none⟩), .int .i64 0]) ∧ TAt w' d tb S' (T1 room n) ∧ Upd S w w' ∧ Sub w S S'
theorem table_open_first (w : World) (d : Nat) (S : List Nat) (room : Nat) (n : List UInt8) (h : DiskAt w d S (D0 room)) (h1 : isName n = true) (h2 : isName (n ++ [43]) = true) :
    Calls Try.prog 7 #[.pointer (some ⟨d, 0, none⟩), encS n] w (FirstPost w d S room n) := by
  refine (table_open_new w d S (D0 room) h n h1 h2 rfl (by simp [D0]) (by simp [D0])).mono ?_
  intro e w' hp
  unfold TopenNewPost at hp
  rw [openNew_D0 room n h1] at hp
  simp only [if_true] at hp
  obtain ⟨tb, S', he, _, hT, hU, hS⟩ := hp
  exact ⟨tb, S', he, hT, hU, hS⟩

def chA : List TChg := [⟨[97], false, [49]⟩, ⟨[98], false, []⟩]
theorem encB_chA : (encB chA).2 = 0 ∧ (encB chA).1.length ≤ 30 := by
  have h1 : countB 1 = [1] := countB_lt (by omega)
  have h2 : countB 2 = [2] := countB_lt (by omega)
  have h0 : countB 0 = [0] := countB_lt (by omega)
  simp [encB, chA, encGo, badChg, encStep, textB, h0, h1, h2]

set_option maxRecDepth 100000 in
set_option maxHeartbeats 1000000 in
theorem law11_awake (w : World) : Calls Try.prog 8 #[] w fun e w' => e = .returned (.bool true) ∧ Upd [] w w' := by
  have hnew := disk_new w 1000 (by omega)
  have hi1 : isName [116] = true := by decide
  have hi2 : isName ([116] ++ [43]) = true := by decide
  have hdo : tdo [] chA = [([97], [49]), ([98], [])] := by decide
  have HE := encB_chA
  have hfit := apply_fine (T1 1000 [116]) chA (fine_T1 _ _) HE.1 (by
    have := HE.2
    show used [([116], [])] + ((encB chA).1.length + 8) ≤ 1000
    simp [used]; omega)
  have HFIT := Lib.hid hfit
  clear hfit HE
  go_enter Try.func8, Try.ntmps8
  go_wp2_with fail
  refine hnew.mono ?_
  rintro e w1 ⟨d, S, rfl, hD1, hU1, hS1⟩
  go_wp2_with fail
  refine (table_open_first w1 d S 1000 [116] hD1 hi1 hi2).mono ?_
  rintro e w2 ⟨tb, S2, rfl, hT2, hU2, hS2⟩
  have hlit : (Instr.buildSlice 41 1 #[(0, .int .u8 49)]).run Try.prog w2 = .ok (.slice (some ⟨w2.heap.size, 0, none⟩) 1 1) (w2.alloc (.cells #[.int .u8 49] 5)) := run_lit elU8 (.int .u8 49) rfl (by omega)
  have hcv := Lib.run_convert_bytes_const (P := Try.prog) w2 41 5 #[.int .u8 49] 1 1 (by kernel_rfl) (by kernel_rfl)
  have hby : By (w2.alloc (.cells #[.int .u8 49] 5 (1, 2))) (.slice (some ⟨w2.heap.size, 0, none⟩) 1 1) [49] :=
    ⟨rfl, by decide, .inr ⟨w2.heap.size, 0, 1, #[.int .u8 49], (1, 2), rfl, by decide, by decide, heap_alloc_new _ _, by decide, rfl⟩⟩
  have hU3 : Upd [] w2 (w2.alloc (.cells #[.int .u8 49] 5 (1, 2))) := Upd.alloc [] _ _
  have hs3 : (w2.alloc (.cells #[.int .u8 49] 5 (1, 2))).heap.size = w2.heap.size + 1 := by simp
  have hcv' : (convert 41 41 (.slice (some ⟨w2.heap.size, 0, none⟩) 1 1)).run Try.prog (w2.alloc (.cells #[.int .u8 49] 5)) = .ok (.slice (some ⟨w2.heap.size, 0, none⟩) 1 1) (w2.alloc (.cells #[.int .u8 49] 5 (1, 2))) := hcv
  clear hcv
  generalize hw3 : w2.alloc (.cells #[.int .u8 49] 5 (1, 2)) = w3 at *
  have hcs : ∀ O : Obj, O = .cells #[encS [97], .bool false, .slice (some ⟨w2.heap.size, 0, none⟩) 1 1, encS [98], .bool false, .slice none 0 0] 51 → Chgs (w3.alloc O) (.slice (some ⟨w3.heap.size, 0, none⟩) 2 2) chA := by
    rintro O rfl
    exact ⟨_, Rd.new rfl (Nat.le_refl _) (by decide) rfl rfl, rfl, rfl, hby.upd0 (Upd.alloc [] _ _), rfl, rfl, Rd.nil _ _ _, trivial⟩
  have hcs' : Chgs (w3.alloc (.cells #[encS [97], .bool false, .slice (some ⟨w2.heap.size, 0, none⟩) 1 1, encS [98], .bool false, .slice none 0 0] 51)) (.slice (some ⟨w2.heap.size + 1, 0, none⟩) 2 2) chA := by have := hcs _ rfl; rwa [hs3] at this
  have hap := table_apply _ d tb S2 (T1 1000 [116]) ((hT2.upd0 hU3).upd0 (Upd.alloc [] _ (.cells #[encS [97], .bool false, .slice (some ⟨w2.heap.size, 0, none⟩) 1 1, encS [98], .bool false, .slice none 0 0] 51))) _ chA hcs' (by decide) (by decide) (by decide) (by decide)
  rw [HFIT.out.1] at hap
  clear hcs hcs'
  have hT9 : tdo (T1 1000 [116]).m chA = [([97], [49]), ([98], [])] := hdo
  rw [hT9] at hap
  generalize hT9' : (T1 1000 [116]).J.then (encB chA).1 = J9 at hap
  clear hT9 hT9' HFIT
  go_wp2_with fail
  refine hap.mono ?_
  rintro e w5 ⟨rfl, S5, hT5, hU5, hS5⟩
  have hget := table_get w5 d tb S5 _ hT5 [97] (by show ([49] : List UInt8).length ≤ 1073741824; decide)
  have hlen5 := table_len
  go_wp2_with fail
  refine hget.mono ?_
  rintro e w6 ⟨v6, rfl, hv6, hU6⟩
  have hv6' : By w6 v6 [49] := hv6.by
  obtain ⟨ao6, cap6, hs6⟩ := By.val hv6'
  subst hs6
  have hback : (convert 41 9 (.slice ao6 1 cap6)).run Try.prog w6 = .ok (encS [49]) w6 := conv_back hv6'
  have hsort : sortK [([97], [49]), ([98], [])] = [[97], [98]] := by unfold sortK; exact List.mergeSort_of_pairwise (by decide)
  have hT6 := hT5.upd0 hU6
  have hkeys := table_keys w6 d tb S5 _ hT6 [] [97] 9 (by intro p hp; simp at hp; rcases hp with rfl | rfl <;> decide) (by show 2 ≤ 1000000000; decide) (by decide) (by decide)
  rw [show keysGo [] [97] 9 [] (sortK (({ J := J9, m := [([97], [49]), ([98], [])], down := false } : TSt), 0).1.m) = [[98]] from by show keysGo [] [97] 9 [] (sortK [([97], [49]), ([98], [])]) = [[98]]; rw [hsort]; decide] at hkeys
  have hlen6 := fun (w7 : World) (hU : Upd [] w6 w7) => table_len w7 d tb S5 _ (hT6.upd0 hU)
  go_wp2_with fail
  refine hkeys.mono ?_
  rintro e w7 ⟨v7, rfl, hv7, hU7⟩
  obtain ⟨ao7, cap7, hs7, _⟩ := (Rd.of_own hv7).shape
  subst hs7
  have hl7 := hlen6 w7 hU7
  go_wp2_with fail
  refine hl7.mono ?_
  rintro e w8 ⟨rfl, rfl⟩
  go_wp2_with fail
  go_ret
  have hn2 := hS1.sub hS2 hU1.size
  have h2 := hU1.new hS1 hU2
  exact ⟨rfl, (((((h2.trans0 hU3).trans0 (Upd.alloc [] _ _)).new hn2 hU5).trans0 hU6).trans0 hU7)⟩
end Go.Proofs.Ythfbfdkjgkkpcaa
