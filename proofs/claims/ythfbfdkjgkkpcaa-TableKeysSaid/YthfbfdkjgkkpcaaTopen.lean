/-
  The table's Open where there is no file yet.
-/
import Derived.Test.YthfbfdkjgkkpcaaApply
namespace Go.Proofs.Ythfbfdkjgkkpcaa
open Go Go.RowKit

/-- A table in a file that was not there. -/
def TopenNewPost (w : World) (d : Nat) (S : List Nat) (D : DSt) (name : List UInt8) (e : Ending) (w' : World) : Prop :=
  if (D.openNew name).2 = 0 then
    ∃ tb S', e = .returned (.tuple #[.pointer (some ⟨tb, 0, none⟩), .int .i64 0]) ∧ w.heap.size ≤ tb ∧ TAt w' d tb S' ⟨⟨(D.openNew name).1, name, 0⟩, [], false⟩ ∧ Upd S w w' ∧ Sub w S S'
  else e = .returned (.tuple #[.pointer none, .int .i64 (D.openNew name).2]) ∧ ∃ S', DiskAt w' d S' (D.openNew name).1 ∧ Upd S w w' ∧ Sub w S S'

theorem table_open_new (w : World) (d : Nat) (S : List Nat) (D : DSt) (h : DiskAt w d S D) (name : List UInt8) (h1 : isName name = true) (h2 : isName (name ++ [43]) = true) (h3 : D.there name = 6) (hl : D.loose.length ≤ 999999999) (hnow : D.now.length ≤ 9223372036854775807) :
    Calls Try.prog 7 #[.pointer (some ⟨d, 0, none⟩), encS name] w (TopenNewPost w d S D name) := by
  have hj := journal_open_new w d S D h name h1 h2 h3 hl hnow
  have hmm : ∀ W : World, (Instr.makeMap 68 none).run Try.prog W = .ok (.map (some W.heap.size)) (W.alloc (.map #[] 0)) := fun _ => rfl
  have hlt := h.lt
  clear h h1 h2 h3 hl hnow
  unfold OpenNewPost at hj
  by_cases hk : (D.openNew name).2 = 0
  · simp only [if_pos hk] at hj
    have HK := Lib.hid hk
    clear hk
    go_enter Try.func7, Try.ntmps7
    go_wp2_with (go_at_call 27; refine hj.mono ?_; rintro e w1 ⟨jb, S', rfl, hjb, hJ, hU1, hS1⟩)
    refine wp_loop_rounds 1 ?_
    rw [rounds_succ]
    go_wp2_with fail
    go_ret2
    unfold TopenNewPost
    rw [if_pos HK.out]
    obtain ⟨S0, hSS, hD0, hj0⟩ := hJ.ex
    cases hSS
    have hz : w1.heap.size ∉ (jb :: S') := fun hm => by have := hJ.lt _ hm; omega
    have hU1m : Upd [] w1 (w1.alloc (.map #[] 0)) := Upd.alloc [] _ _
    have hm := MapB.new w1
    have hs2 : (w1.alloc (.map #[] 0)).heap.size = w1.heap.size + 1 := by simp
    have hU2 : Upd [] (w1.alloc (.map #[] 0)) ((w1.alloc (.map #[] 0)).alloc (.cells #[.pointer (some ⟨jb, 0, none⟩), .map (some w1.heap.size), .bool false] 78)) := Upd.alloc [] _ _
    have hb := heap_alloc_new (w1.alloc (.map #[] 0)) (.cells #[.pointer (some ⟨jb, 0, none⟩), .map (some w1.heap.size), .bool false] 78)
    rw [hs2] at hb
    have hsz := hU1.size
    refine ⟨w1.heap.size + 1, (w1.heap.size + 1) :: w1.heap.size :: jb :: S', rfl, by omega, ⟨jb, w1.heap.size, jb :: S', rfl, hz, (hJ.upd0 hU1m).upd0 hU2, hm.upd hU2 (Off.nil _ _) (by simp), hb⟩, ?_, ?_⟩
    · exact (hU1.then0 hU1m).then0 hU2
    · intro k hk
      simp only [List.mem_cons] at hk
      rcases hk with rfl | rfl | rfl | hk
      · right; omega
      · right; omega
      · right; exact hjb
      · rcases hS1 k hk with h | h
        · exact .inl h
        · exact .inr h
  · simp only [if_neg hk] at hj
    have h4 : (((D.openNew name).2 : Int) == 0) = false := by simp; omega
    have h5 : (((D.openNew name).2 : Int) = 0) = False := by simp; omega
    have HK := Lib.hid hk
    generalize hq : (D.openNew name).2 = q at *
    have HQ := Lib.hid hq
    clear hk hq
    go_enter Try.func7, Try.ntmps7
    go_wp2_with (go_at_call 27; refine hj.mono ?_; rintro e w1 ⟨rfl, S', hD1, hU1, hS1⟩)
    go_ret2
    unfold TopenNewPost
    rw [HQ.out, if_neg HK.out]
    exact ⟨rfl, S', hD1, hU1, hS1⟩
end Go.Proofs.Ythfbfdkjgkkpcaa
