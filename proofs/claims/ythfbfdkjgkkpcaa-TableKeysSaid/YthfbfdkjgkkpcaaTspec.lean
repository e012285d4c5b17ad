/-
  The document's table, plainly: changes, their record, keys with values.
-/
import Derived.Test.YthfbfdkjgkkpcaaSpec
import Derived.Test.YthfbfdkjgkkpcaaJournal
namespace Go.Proofs.Ythfbfdkjgkkpcaa
open Go Go.RowKit

structure TChg where
  key : List UInt8
  gone : Bool
  val : List UInt8
def tdo1 (m : List (List UInt8 × List UInt8)) (c : TChg) : List (List UInt8 × List UInt8) := if c.gone then fdel c.key m else fput c.key c.val m
def tdo (m : List (List UInt8 × List UInt8)) (l : List TChg) : List (List UInt8 × List UInt8) := l.foldl tdo1 m
theorem tdo1_nodup {m : List (List UInt8 × List UInt8)} (h : (m.map (·.1)).Nodup) (c : TChg) : ((tdo1 m c).map (·.1)).Nodup := by
  unfold tdo1
  split
  · exact fdel_nodup h
  · exact fput_nodup h
theorem tdo_take_succ (m : List (List UInt8 × List UInt8)) (l : List TChg) (i : Nat) (c : TChg) (h : l[i]? = some c) : tdo m (l.take (i + 1)) = tdo1 (tdo m (l.take i)) c := by
  unfold tdo
  rw [List.take_add_one, h, List.foldl_append]
  rfl

/-- A change in a record. -/
def encStep (c : TChg) : List UInt8 := if c.gone then 0 :: textB c.key else 1 :: (textB c.key ++ textB c.val)
def badChg (c : TChg) : Bool := decide (c.key = [] ∨ 320 < c.key.length ∨ 262144 < c.val.length)
def encGo (out : List UInt8) : List TChg → List UInt8 × Nat
  | [] => (out, 0)
  | c :: r => if badChg c then ([], 1) else if 1048568 < (out ++ encStep c).length then ([], 8) else encGo (out ++ encStep c) r
/-- The record of changes, or why there is none. -/
def encB (l : List TChg) : List UInt8 × Nat := if 256 < l.length then ([], 8) else encGo (countB l.length) l

/-- The cells of changes. -/
def TCells (w : World) : List Value → List TChg → Prop
  | [], [] => True
  | k :: g :: v :: r, c :: l => k = encS c.key ∧ g = .bool c.gone ∧ By w v c.val ∧ TCells w r l
  | _, _ => False
theorem TCells.upd {S : List Nat} {w w' : World} (hU : Upd S w w') (hS : Off w 5 S) : ∀ {cs : List Value} {l : List TChg}, TCells w cs l → TCells w' cs l
  | [], [], _ => trivial
  | _ :: _ :: _ :: _, _ :: _, h => ⟨h.1, h.2.1, h.2.2.1.upd hU hS, TCells.upd hU hS h.2.2.2⟩
theorem TCells.get {w : World} : ∀ {cs : List Value} {l : List TChg}, TCells w cs l → ∀ {i : Nat} {c : TChg}, l[i]? = some c →
    ∃ pv, cs[i * 3 + 0]? = some (encS c.key) ∧ cs[i * 3 + 1]? = some (.bool c.gone) ∧ cs[i * 3 + 2]? = some pv ∧ By w pv c.val
  | [], [], _, _, _, h => by simp at h
  | k :: a :: b :: r, c0 :: l, hc, 0, c, h => by
    simp only [List.getElem?_cons_zero, Option.some.injEq] at h
    subst h
    obtain ⟨rfl, rfl, hp, _⟩ := hc
    exact ⟨b, rfl, rfl, rfl, hp⟩
  | k :: a :: b :: r, c0 :: l, hc, i + 1, c, h => by
    simp only [List.getElem?_cons_succ] at h
    obtain ⟨pv, h0, h1, h2, h4⟩ := TCells.get hc.2.2.2 h
    refine ⟨pv, ?_, ?_, ?_, h4⟩
    · rw [show (i + 1) * 3 + 0 = (i * 3 + 0) + 3 by omega]; simpa using h0
    · rw [show (i + 1) * 3 + 1 = (i * 3 + 1) + 3 by omega]; simpa using h1
    · rw [show (i + 1) * 3 + 2 = (i * 3 + 2) + 3 by omega]; simpa using h2
/-- A slice that reads as changes. -/
def Chgs (w : World) (v : Value) (l : List TChg) : Prop := ∃ cells, Rd w 51 3 v l.length cells ∧ TCells w cells l
theorem Chgs.upd {S : List Nat} {w w' : World} {v : Value} {l : List TChg} (h : Chgs w v l) (hU : Upd S w w') (h1 : Off w 5 S) (h2 : Off w 51 S) : Chgs w' v l := by
  obtain ⟨cells, ha, hb⟩ := h
  exact ⟨cells, ha.upd hU h2, hb.upd hU h1⟩
theorem Chgs.upd0 {w w' : World} {v : Value} {l : List TChg} (h : Chgs w v l) (hU : Upd [] w w') : Chgs w' v l := h.upd hU (Off.nil _ _) (Off.nil _ _)

structure TSt where
  J : JSt
  m : List (List UInt8 × List UInt8)
  down : Bool
/-- Block tb is a table on the disk d; S: the blocks that it turns. -/
structure TAt (w : World) (d tb : Nat) (S : List Nat) (T : TSt) : Prop where
  ex : ∃ jb mb S0, S = tb :: mb :: S0 ∧ mb ∉ S0 ∧ JAt w d jb S0 T.J ∧ MapB w mb T.m ∧ w.heap[tb]? = some (.cells #[.pointer (some ⟨jb, 0, none⟩), .map (some mb), .bool T.down] 78 (0, 0))
theorem TAt.off {w : World} {d tb : Nat} {S : List Nat} {T : TSt} (h : TAt w d tb S T) {e : TypeId} (h1 : 72 ≠ e) (h2 : 95 ≠ e) (h3 : 100 ≠ e) (h4 : 78 ≠ e) : Off w e S := by
  obtain ⟨jb, mb, S0, rfl, _, hJ, hM, ht⟩ := h.ex
  exact Off.cons_cells ht h4 (hM.off (hJ.off h1 h2 h3))
theorem TAt.off8 {w : World} {d tb : Nat} {S : List Nat} {T : TSt} (h : TAt w d tb S T) : Off w 5 S := h.off (by decide) (by decide) (by decide) (by decide)
theorem TAt.upd {S U : List Nat} {w w' : World} {d tb : Nat} {T : TSt} (h : TAt w d tb S T) (hU : Upd U w w') (h8 : Off w 5 U) (hn : ∀ k ∈ S, k ∉ U) : TAt w' d tb S T := by
  obtain ⟨jb, mb, S0, rfl, hm, hJ, hM, ht⟩ := h.ex
  exact ⟨jb, mb, S0, rfl, hm, hJ.upd hU h8 (fun k hk => hn k (by simp [hk])), hM.upd hU h8 (hn mb (by simp)), hU.get ht (hn tb (by simp))⟩
theorem TAt.upd0 {S : List Nat} {w w' : World} {d tb : Nat} {T : TSt} (h : TAt w d tb S T) (hU : Upd [] w w') : TAt w' d tb S T := h.upd hU (Off.nil _ _) (fun _ _ hm => by cases hm)
theorem TAt.lt {w : World} {d tb : Nat} {S : List Nat} {T : TSt} (h : TAt w d tb S T) : ∀ k ∈ S, k < w.heap.size := by
  obtain ⟨jb, mb, S0, rfl, hm, hJ, hM, ht⟩ := h.ex
  intro k hk
  simp only [List.mem_cons] at hk
  rcases hk with rfl | rfl | hk
  · exact lt_of_get ht
  · exact hM.lt
  · exact hJ.lt k hk
end Go.Proofs.Ythfbfdkjgkkpcaa
