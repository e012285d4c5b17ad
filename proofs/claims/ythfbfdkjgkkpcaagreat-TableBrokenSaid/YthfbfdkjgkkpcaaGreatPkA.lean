/-
  Lists of pairs by keys, plainly: files by names, values by keys; the order of the entries, and what is the same in whatever order.
  The document's disk, plainly: files by names, the loose changes, what each step comes to.
  The words of this seat's proofs: what a world keeps, how a slice reads as a list of cells, how owned rows are handed on. No program in sight but for the number of the byte type.
  The walk's laws of single operations over slices, in the words of YthfbfdkjgkkpcaaGreatBase: each takes the values off the frame and hands on what the operation leaves.
  The plain functions of the layers octet, journal, table, disk: what the Go texts compute, over lists of bytes. No Go in sight.
  The walks of package octet.
  Maps keyed by strings: how a block reads as a list of pairs, and the walk's laws of the operations on it.
  What a disk's maps, its loose changes and the disk itself are in memory, and the walks of package disk.
  A region that draws its order and ends in a store to a cell that it has loaded: up to the operation m the condition S holds, and each load is taken first. (After the library's own law on a held condition.)
  A disk in memory, and the walks of its steps.
  The disk's calls: whether a text is a name, whether a file is there, Create, Size, Used.
  The disk's calls that turn it: Create, Append, Sync; a new disk.
  The disk's Sync; a new disk.
  The journal: a record's frame, Append, Sync, Size.
  The document's table, plainly: changes, their record, keys with values.
  The contracts of the library's maps.Keys and slices.Sorted at this dump, as the kit's own programs lay-plain and lay-iter print them.
  The sorted keys of a map of bytes by texts: the library's maps.Keys and slices.Sorted, by the shelf's contracts.
-/
import Derived.KernelRfl
import Derived.Test.YthfbfdkjgkkpcaaGreatProg
import Derived.WalkKit
import Derived.WalkSpells
import Derived.WalkLawsBesides
import Derived.Lib.Hide
import Derived.OwnWalk
import Derived.Maps.AppendAt
import Derived.Laws.MakeOwn
import Derived.LoopTactic
import Derived.MapKept
import Derived.Deep.RegionHeld3
import Derived.OrdersHeld
import Derived.Laws.IdiomRangeMap
import Derived.Lib.SliceRun
import Derived.Shelf.SlIter.Nil
import Derived.Shelf.SortM.Plain
import Derived.Shelf.SortM.SortNone
import Derived.Ground.GgzProg
import Derived.Ground.SlgmProg
namespace Go.Proofs.YthfbfdkjgkkpcaaGreat

section
variable {α : Type}
/-- What stands at a key. -/
def aget (k : List UInt8) : List (List UInt8 × α) → Option α
  | [] => none
  | p :: r => if p.1 = k then some p.2 else aget k r
/-- A key gets a value: in its place, or at the end. -/
def aput (k : List UInt8) (v : α) : List (List UInt8 × α) → List (List UInt8 × α)
  | [] => [(k, v)]
  | p :: r => if p.1 = k then (k, v) :: r else p :: aput k v r
/-- A key is taken away. -/
def adel (k : List UInt8) : List (List UInt8 × α) → List (List UInt8 × α)
  | [] => []
  | p :: r => if p.1 = k then r else p :: adel k r
/-- All but a key. -/
def fdel (k : List UInt8) : List (List UInt8 × α) → List (List UInt8 × α)
  | [] => []
  | p :: r => if p.1 = k then fdel k r else p :: fdel k r
/-- A pair in the order of keys. -/
def fins (q : List UInt8 × α) : List (List UInt8 × α) → List (List UInt8 × α)
  | [] => [q]
  | p :: r => if q.1 < p.1 then q :: p :: r else p :: fins q r
/-- A key gets a value, in the order of keys. -/
def fput (k : List UInt8) (v : α) (m : List (List UInt8 × α)) : List (List UInt8 × α) := fins (k, v) (fdel k m)

theorem fins_perm (q : List UInt8 × α) (m : List (List UInt8 × α)) : (fins q m).Perm (q :: m) := by
  induction m with
  | nil => exact List.Perm.refl _
  | cons p r ih =>
    unfold fins
    split
    · exact List.Perm.refl _
    · exact (ih.cons p).trans (List.Perm.swap q p r)
theorem fput_perm (k : List UInt8) (v : α) (m : List (List UInt8 × α)) : (fput k v m).Perm ((k, v) :: fdel k m) := fins_perm _ _
theorem fdel_eq_filter (k : List UInt8) (m : List (List UInt8 × α)) : fdel k m = m.filter (fun p => decide (p.1 ≠ k)) := by
  induction m with
  | nil => rfl
  | cons p r ih =>
    by_cases h : p.1 = k
    · simp [fdel, h, ih]
    · simp [fdel, h, ih]
theorem fdel_perm {k : List UInt8} {m m' : List (List UInt8 × α)} (h : m.Perm m') : (fdel k m).Perm (fdel k m') := by
  rw [fdel_eq_filter, fdel_eq_filter]; exact h.filter _
theorem fput_perm_of {k : List UInt8} {v : α} {m m' : List (List UInt8 × α)} (h : m.Perm m') : (fput k v m).Perm (fput k v m') :=
  (fput_perm k v m).trans (((fdel_perm h).cons _).trans (fput_perm k v m').symm)
theorem fdel_none {k : List UInt8} {m : List (List UInt8 × α)} (h : k ∉ m.map (·.1)) : fdel k m = m := by
  rw [fdel_eq_filter, List.filter_eq_self]
  intro p hp
  simp only [ne_eq, decide_eq_true_eq]
  intro e
  exact h (e ▸ List.mem_map_of_mem hp)
theorem aget_none {k : List UInt8} {es : List (List UInt8 × α)} : aget k es = none ↔ k ∉ es.map (·.1) := by
  induction es with
  | nil => simp [aget]
  | cons p r ih =>
    by_cases h : p.1 = k
    · simp [aget, h]
    · simp only [aget, if_neg h, ih, List.map_cons, List.mem_cons, not_or]
      exact ⟨fun g => ⟨fun e => h e.symm, g⟩, fun g => g.2⟩
theorem aget_some {k : List UInt8} {v : α} {es : List (List UInt8 × α)} (hn : (es.map (·.1)).Nodup) : aget k es = some v ↔ (k, v) ∈ es := by
  induction es with
  | nil => simp [aget]
  | cons p r ih =>
    simp only [List.map_cons, List.nodup_cons] at hn
    by_cases h : p.1 = k
    · simp only [aget, if_pos h, Option.some.injEq, List.mem_cons]
      constructor
      · intro e; left; rw [← e, ← h]
      · rintro (e | e)
        · rw [← e]
        · exact absurd (h ▸ List.mem_map_of_mem (f := (·.1)) e) hn.1
    · simp only [aget, if_neg h, ih hn.2, List.mem_cons]
      constructor
      · exact .inr
      · rintro (e | e)
        · exact absurd (by rw [← e]) h
        · exact e
theorem aget_perm {k : List UInt8} {m m' : List (List UInt8 × α)} (h : m.Perm m') (hn : (m.map (·.1)).Nodup) : aget k m = aget k m' := by
  have hn' : (m'.map (·.1)).Nodup := (h.map _).nodup_iff.1 hn
  cases h1 : aget k m with
  | none =>
    rw [aget_none] at h1
    exact (aget_none.2 (fun hm => h1 ((h.map _).mem_iff.2 hm))).symm
  | some v => exact ((aget_some hn').2 (h.mem_iff.1 ((aget_some hn).1 h1))).symm
theorem adel_eq {k : List UInt8} {m : List (List UInt8 × α)} (hn : (m.map (·.1)).Nodup) : adel k m = fdel k m := by
  induction m with
  | nil => rfl
  | cons p r ih =>
    simp only [List.map_cons, List.nodup_cons] at hn
    by_cases h : p.1 = k
    · simp only [adel, fdel, if_pos h]
      rw [fdel_none]
      rw [← h]; exact hn.1
    · simp only [adel, fdel, if_neg h, ih hn.2]
theorem aput_perm {k : List UInt8} {v : α} {m : List (List UInt8 × α)} (hn : (m.map (·.1)).Nodup) : (aput k v m).Perm (fput k v m) := by
  refine List.Perm.trans ?_ (fput_perm k v m).symm
  induction m with
  | nil => exact List.Perm.refl _
  | cons p r ih =>
    simp only [List.map_cons, List.nodup_cons] at hn
    by_cases h : p.1 = k
    · simp only [aput, fdel, if_pos h]
      rw [fdel_none (h ▸ hn.1)]
    · simp only [aput, fdel, if_neg h]
      exact ((ih hn.2).cons p).trans (List.Perm.swap _ _ _)
theorem fdel_keys (k : List UInt8) (m : List (List UInt8 × α)) : ((fdel k m).map (·.1)) = (m.map (·.1)).filter (fun x => decide (x ≠ k)) := by
  rw [fdel_eq_filter, List.filter_map]; rfl
theorem fput_nodup {k : List UInt8} {v : α} {m : List (List UInt8 × α)} (hn : (m.map (·.1)).Nodup) : ((fput k v m).map (·.1)).Nodup := by
  rw [((fput_perm k v m).map _).nodup_iff]
  simp only [List.map_cons, List.nodup_cons, fdel_keys]
  exact ⟨by simp, hn.filter _⟩
theorem fdel_nodup {k : List UInt8} {m : List (List UInt8 × α)} (hn : (m.map (·.1)).Nodup) : ((fdel k m).map (·.1)).Nodup := by
  rw [fdel_keys]; exact hn.filter _
theorem aget_fput (k k' : List UInt8) (v : α) {m : List (List UInt8 × α)} (hn : (m.map (·.1)).Nodup) : aget k' (fput k v m) = if k = k' then some v else aget k' m := by
  rw [aget_perm (fput_perm k v m) (fput_nodup hn)]
  by_cases h : k = k'
  · simp [aget, h]
  · simp only [aget, if_neg h]
    cases h1 : aget k' m with
    | none =>
      rw [aget_none] at h1 ⊢
      rw [fdel_keys]
      intro hm
      exact h1 (List.mem_filter.1 hm).1
    | some u =>
      rw [aget_some hn] at h1
      rw [aget_some (fdel_nodup hn), fdel_eq_filter, List.mem_filter]
      exact ⟨h1, by simp; exact fun e => h e.symm⟩
theorem aget_fdel (k k' : List UInt8) {m : List (List UInt8 × α)} (hn : (m.map (·.1)).Nodup) : aget k' (fdel k m) = if k = k' then none else aget k' m := by
  by_cases h : k = k'
  · rw [if_pos h, aget_none, fdel_keys, ← h]; simp
  · rw [if_neg h]
    cases h1 : aget k' m with
    | none =>
      rw [aget_none] at h1 ⊢
      rw [fdel_keys]
      intro hm
      exact h1 (List.mem_filter.1 hm).1
    | some u =>
      rw [aget_some hn] at h1
      rw [aget_some (fdel_nodup hn), fdel_eq_filter, List.mem_filter]
      exact ⟨h1, by simp; exact fun e => h e.symm⟩
end

end Go.Proofs.YthfbfdkjgkkpcaaGreat

namespace Go.Proofs.YthfbfdkjgkkpcaaGreat

/-- A change: 0 Create a, 1 Append p to a, 2 Remove a, 3 Rename a to b. -/
structure Chg where
  kind : Nat
  a : List UInt8
  b : List UInt8
  p : List UInt8

/-- A change done. -/
def fdo (m : List (List UInt8 × List UInt8)) (c : Chg) : List (List UInt8 × List UInt8) :=
  if c.kind = 0 then fput c.a [] m
  else if c.kind = 1 then fput c.a ((aget c.a m).getD [] ++ c.p) m
  else if c.kind = 2 then fdel c.a m
  else fput c.b ((aget c.a m).getD []) (fdel c.a m)
/-- All bytes. -/
def used : List (List UInt8 × List UInt8) → Nat
  | [] => 0
  | p :: r => p.2.length + used r

structure DSt where
  room : Nat
  now : List (List UInt8 × List UInt8)
  sure : List (List UInt8 × List UInt8)
  loose : List Chg
  fuse : Int
  down : Bool

/-- What power a step takes. -/
def burn (n : Int) : Int := if 0 < n then n - 1 else n
/-- A change, if there is power. -/
def DSt.does (D : DSt) (c : Chg) : DSt × Nat :=
  if D.fuse = 0 then ({ D with down := true }, 5) else ({ D with fuse := burn D.fuse, now := fdo D.now c, loose := D.loose ++ [c] }, 0)
def isName (s : List UInt8) : Bool := decide (s ≠ [] ∧ s.length ≤ 160)
def DSt.create (D : DSt) (name : List UInt8) : DSt × Nat :=
  if D.down then (D, 5) else if isName name = false then (D, 1) else if (aget name D.now).isSome then (D, 7) else if 4096 ≤ D.now.length then (D, 4)
  else D.does ⟨0, name, [], []⟩
def DSt.append (D : DSt) (name p : List UInt8) : DSt × Nat :=
  if D.down then (D, 5) else if (aget name D.now).isNone then (D, 6) else if 1048576 < p.length then (D, 8) else if D.room < used D.now + p.length then (D, 4)
  else D.does ⟨1, name, [], p⟩
def DSt.remove (D : DSt) (name : List UInt8) : DSt × Nat :=
  if D.down then (D, 5) else if (aget name D.now).isNone then (D, 6) else D.does ⟨2, name, [], []⟩
def DSt.rename (D : DSt) (a b : List UInt8) : DSt × Nat :=
  if D.down then (D, 5) else if (aget a D.now).isNone then (D, 6) else if isName b = false then (D, 1) else D.does ⟨3, a, b, []⟩
def DSt.sync (D : DSt) : DSt × Nat :=
  if D.down then (D, 5) else if D.fuse = 0 then ({ D with down := true }, 5) else ({ D with fuse := burn D.fuse, sure := D.now, loose := [] }, 0)
def DSt.setFuse (D : DSt) (n : Int) : DSt × Nat := if D.down then (D, 5) else ({ D with fuse := max n (-1) }, 0)

/-- The files behind the first i loose changes. -/
def DSt.mid (D : DSt) (i : Nat) : List (List UInt8 × List UInt8) := (D.loose.take i).foldl fdo D.sure
structure DInv (D : DSt) : Prop where
  room : D.room ≤ 67108864
  nodup : (D.sure.map (·.1)).Nodup
  now : D.loose.foldl fdo D.sure = D.now
  fits : ∀ i, used (D.mid i) ≤ D.room
  fuse : -1 ≤ D.fuse
  kinds : ∀ c ∈ D.loose, c.kind ≤ 3 ∧ c.p.length ≤ 1048576

theorem fdo_nodup {m : List (List UInt8 × List UInt8)} (hn : (m.map (·.1)).Nodup) (c : Chg) : ((fdo m c).map (·.1)).Nodup := by
  unfold fdo
  split
  · exact fput_nodup hn
  split
  · exact fput_nodup hn
  split
  · exact fdel_nodup hn
  · exact fput_nodup (fdel_nodup hn)
theorem foldl_fdo_nodup (l : List Chg) : ∀ {m : List (List UInt8 × List UInt8)}, (m.map (·.1)).Nodup → ((l.foldl fdo m).map (·.1)).Nodup := by
  induction l with
  | nil => intro m h; exact h
  | cons c l ih => intro m h; exact ih (fdo_nodup h c)
theorem DInv.nodupNow {D : DSt} (h : DInv D) : (D.now.map (·.1)).Nodup := by rw [← h.now]; exact foldl_fdo_nodup _ h.nodup
theorem DInv.usedNow {D : DSt} (h : DInv D) : used D.now ≤ D.room := by
  have := h.fits D.loose.length
  unfold DSt.mid at this
  rwa [List.take_length, h.now] at this

theorem used_perm {m m' : List (List UInt8 × List UInt8)} (h : m.Perm m') : used m = used m' := by
  induction h with
  | nil => rfl
  | cons p _ ih => simp [used, ih]
  | swap p q l => simp [used]; omega
  | trans _ _ ih1 ih2 => rw [ih1, ih2]
theorem used_fput (k l : List UInt8) (m : List (List UInt8 × List UInt8)) : used (fput k l m) = l.length + used (fdel k m) := used_perm (fput_perm k l m)
theorem used_fdel (k : List UInt8) {m : List (List UInt8 × List UInt8)} (hn : (m.map (·.1)).Nodup) : used (fdel k m) + ((aget k m).getD []).length = used m := by
  induction m with
  | nil => simp [fdel, used, aget]
  | cons p r ih =>
    simp only [List.map_cons, List.nodup_cons] at hn
    by_cases h : p.1 = k
    · simp only [fdel, if_pos h, aget, used]
      rw [fdel_none (h ▸ hn.1)]
      simp; omega
    · simp only [fdel, if_neg h, aget, used]
      have := ih hn.2
      omega
theorem aget_le_used {k l : List UInt8} {m : List (List UInt8 × List UInt8)} (h : aget k m = some l) : l.length ≤ used m := by
  induction m with
  | nil => simp [aget] at h
  | cons p r ih =>
    unfold aget at h
    unfold used
    split at h
    · cases h; omega
    · have := ih h; omega
theorem used_fdo {m : List (List UInt8 × List UInt8)} (hn : (m.map (·.1)).Nodup) (c : Chg) : used (fdo m c) ≤ used m + (if c.kind = 1 then c.p.length else 0) := by
  have h1 := used_fdel c.a hn
  unfold fdo
  split
  · rw [used_fput]; simp; omega
  split
  · rw [used_fput]; simp; omega
  split
  · omega
  · rw [used_fput]
    have h2 := used_fdel c.b (fdel_nodup (k := c.a) hn)
    omega

theorem DInv.does {D : DSt} (h : DInv D) (c : Chg) (hk : c.kind ≤ 3) (hp : c.p.length ≤ 1048576) (hr : c.kind = 1 → used D.now + c.p.length ≤ D.room) : DInv (D.does c).1 := by
  unfold DSt.does
  split
  · exact ⟨h.room, h.nodup, h.now, h.fits, h.fuse, h.kinds⟩
  · refine ⟨h.room, h.nodup, ?_, ?_, ?_, ?_⟩
    · show (D.loose ++ [c]).foldl fdo D.sure = fdo D.now c
      rw [List.foldl_append, h.now]
      rfl
    · intro i
      show used (((D.loose ++ [c]).take i).foldl fdo D.sure) ≤ D.room
      by_cases hi : i ≤ D.loose.length
      · rw [List.take_append_of_le_length hi]; exact h.fits i
      · rw [List.take_of_length_le (by simp; omega), List.foldl_append, h.now]
        show used (fdo D.now c) ≤ D.room
        have h1 := used_fdo h.nodupNow c
        have h2 := h.usedNow
        split at h1
        · rename_i h3; have := hr h3; omega
        · omega
    · have := h.fuse
      show -1 ≤ burn D.fuse
      unfold burn
      split <;> omega
    · intro c' hc'
      rcases List.mem_append.1 hc' with h1 | h1
      · exact h.kinds c' h1
      · simp at h1; subst h1; exact ⟨hk, hp⟩
theorem DInv.create {D : DSt} (h : DInv D) (name : List UInt8) : DInv (D.create name).1 := by
  unfold DSt.create
  repeat' split
  all_goals first | exact h | exact h.does _ (by simp) (by simp) (by simp)
theorem DInv.append {D : DSt} (h : DInv D) (name p : List UInt8) : DInv (D.append name p).1 := by
  unfold DSt.append
  split
  · exact h
  split
  · exact h
  split
  · exact h
  split
  · exact h
  · exact h.does _ (by simp) (by simp; omega) (by simp; omega)
theorem DInv.remove {D : DSt} (h : DInv D) (name : List UInt8) : DInv (D.remove name).1 := by
  unfold DSt.remove
  repeat' split
  all_goals first | exact h | exact h.does _ (by simp) (by simp) (by simp)
theorem DInv.rename {D : DSt} (h : DInv D) (a b : List UInt8) : DInv (D.rename a b).1 := by
  unfold DSt.rename
  repeat' split
  all_goals first | exact h | exact h.does _ (by simp) (by simp) (by simp)
theorem DInv.sync {D : DSt} (h : DInv D) : DInv D.sync.1 := by
  unfold DSt.sync
  split
  · exact h
  split
  · exact ⟨h.room, h.nodup, h.now, h.fits, h.fuse, h.kinds⟩
  · refine ⟨h.room, h.nodupNow, rfl, ?_, ?_, by intro c hc; cases hc⟩
    · intro i
      unfold DSt.mid
      simp only [List.take_nil, List.foldl_nil]
      exact h.usedNow
    · have := h.fuse
      show -1 ≤ burn D.fuse
      unfold burn
      split <;> omega
theorem DInv.new {room : Nat} (h : room ≤ 67108864) : DInv ⟨room, [], [], [], -1, false⟩ :=
  ⟨h, by simp, rfl, by intro i; simp [DSt.mid, used], by show (-1 : Int) ≤ -1; omega, by intro c hc; cases hc⟩

end Go.Proofs.YthfbfdkjgkkpcaaGreat

namespace Go.Proofs.YthfbfdkjgkkpcaaGreat
open Go Go.RowKit

/-- w' is w, but for the blocks of S and new ones. -/
structure Upd (S : List Nat) (w w' : World) : Prop where
  os : w'.os = w.os
  tape : w'.tape = w.tape
  output : w'.output = w.output
  size : w.heap.size ≤ w'.heap.size
  keep : ∀ k, k < w.heap.size → k ∉ S → w'.heap[k]? = w.heap[k]?

theorem Upd.refl (S : List Nat) (w : World) : Upd S w w := ⟨rfl, rfl, rfl, Nat.le_refl _, fun _ _ _ => rfl⟩
theorem Upd.trans {S T : List Nat} {a b c : World} (h : Upd S a b) (k : Upd T b c) (hs : ∀ i ∈ T, i < a.heap.size → i ∈ S) : Upd S a c :=
  ⟨k.os.trans h.os, k.tape.trans h.tape, k.output.trans h.output, Nat.le_trans h.size k.size,
   fun i hi hn => (k.keep i (Nat.lt_of_lt_of_le hi h.size) (fun hm => hn (hs i hm hi))).trans (h.keep i hi hn)⟩
theorem Upd.mono {S T : List Nat} {a b : World} (h : Upd S a b) (hs : ∀ i ∈ S, i < a.heap.size → i ∈ T) : Upd T a b :=
  ⟨h.os, h.tape, h.output, h.size, fun i hi hn => h.keep i hi (fun hm => hn (hs i hm hi))⟩
/-- A step that turns nothing old, behind another one. -/
theorem Upd.then0 {S : List Nat} {a b c : World} (h : Upd S a b) (k : Upd [] b c) : Upd S a c := h.trans k (fun _ hm => by cases hm)
theorem Upd.trans0 {a b c : World} (h : Upd [] a b) (k : Upd [] b c) : Upd [] a c := h.trans k (fun _ hm => by cases hm)
theorem Upd.alloc (S : List Nat) (w : World) (o : Obj) : Upd S w (w.alloc o) :=
  ⟨rfl, rfl, rfl, by simp, fun k hk _ => Below.heap_alloc _ _ _ hk⟩
theorem Upd.drew (S : List Nat) (w : World) : Upd S w w.drew := ⟨rfl, rfl, rfl, Nat.le_refl _, fun _ _ _ => rfl⟩
theorem Upd.setCell {S : List Nat} (w : World) (a : Addr) (u : Value) (h : a.block ∈ S) : Upd S w (w.setCell a u) :=
  ⟨rfl, rfl, rfl, by simp [World.setCell], fun k _ hn => Below.heap_setCell _ _ _ _ (fun e => hn (e ▸ h))⟩
theorem Upd.grown {w w' : World} {row : Option Nat} {S : List Nat} (h : w.grownBy w' row) (hr : ∀ k, row = some k → k ∈ S) : Upd S w w' :=
  ⟨h.os, h.tape, h.output, h.size, fun k hk hn => h.block k hk (fun e => hn (hr k e.symm))⟩
theorem Upd.below {S : List Nat} {w w' : World} {B : Nat} (h : Upd S w w') (hB : B ≤ w.heap.size) (hS : ∀ k ∈ S, B ≤ k) : Below B w w' :=
  ⟨h.os, h.tape, h.output, h.size, fun k hk => h.keep k (Nat.lt_of_lt_of_le hk hB) (fun hm => by have := hS k hm; omega)⟩
theorem Upd.of_below {w w' : World} (h : Below w.heap.size w w') : Upd [] w w' :=
  ⟨h.os, h.tape, h.output, h.size, fun k hk _ => h.block k hk⟩
theorem Upd.get {S : List Nat} {w w' : World} (h : Upd S w w') {k : Nat} {o : Obj} (hk : w.heap[k]? = some o) (hn : k ∉ S) : w'.heap[k]? = some o :=
  (h.keep k (Array.getElem?_eq_some_iff.1 hk).1 hn).trans hk
theorem lt_of_get {w : World} {k : Nat} {o : Obj} (hk : w.heap[k]? = some o) : k < w.heap.size := (Array.getElem?_eq_some_iff.1 hk).1

/-- None of the blocks of S is a row of elements of type e. -/
def Off (w : World) (e : TypeId) (S : List Nat) : Prop := ∀ k ∈ S, ∀ c f, w.heap[k]? ≠ some (.cells c e f)
theorem Off.nil (w : World) (e : TypeId) : Off w e [] := fun _ h => by cases h
theorem Off.cons_cells {w : World} {e t : TypeId} {S : List Nat} {k : Nat} {c : Array Value} {f : Nat × Nat} (hk : w.heap[k]? = some (.cells c t f)) (hn : t ≠ e) (h : Off w e S) : Off w e (k :: S) := by
  intro i hi c' f' hc
  cases hi with
  | head => rw [hk] at hc; cases hc; exact hn rfl
  | tail _ hm => exact h i hm c' f' hc
theorem Off.cons_map {w : World} {e : TypeId} {S : List Nat} {k : Nat} {es : Array MapEntry} {n : Nat} (hk : w.heap[k]? = some (.map es n)) (h : Off w e S) : Off w e (k :: S) := by
  intro i hi c' f' hc
  cases hi with
  | head => rw [hk] at hc; cases hc
  | tail _ hm => exact h i hm c' f' hc

/-- The slice value v reads as n elements of type e (sz cells each), whose cells are xs. -/
def Rd (w : World) (e sz : Nat) (v : Value) (n : Nat) (xs : List Value) : Prop :=
  xs.length = n * sz ∧ n ≤ maxLen ∧ ((v = .slice none 0 0 ∧ n = 0) ∨
    ∃ b off cap cur fz, v = .slice (some ⟨b, off, none⟩) n cap ∧ n ≤ cap ∧ cap ≤ maxLen ∧ w.heap[b]? = some (.cells cur e fz) ∧ off + n * sz ≤ cur.size ∧ (cur.toList.drop off).take (n * sz) = xs)

theorem Rd.nil (w : World) (e sz : Nat) : Rd w e sz (.slice none 0 0) 0 [] := ⟨by simp, Nat.zero_le _, .inl ⟨rfl, rfl⟩⟩
theorem Rd.of_own {w : World} {B e sz : Nat} {v : Value} {n : Nat} {xs : List Value} (h : w.ownsRow B e sz v n xs) : Rd w e sz v n xs := by
  rcases h.2 with ⟨rfl, rfl⟩ | ⟨g, cap, cur, rfl, _, hg, h1, h2, h3, h4⟩
  · exact ⟨h.1, Nat.zero_le _, .inl ⟨rfl, rfl⟩⟩
  · refine ⟨h.1, Nat.le_trans h1 h2, .inr ⟨g, 0, cap, cur, _, rfl, h1, h2, hg, ?_, by simpa using h4⟩⟩
    rw [h3, Nat.zero_add]
    exact Nat.mul_le_mul_right _ h1
theorem Rd.upd {S : List Nat} {w w' : World} {e sz : Nat} {v : Value} {n : Nat} {xs : List Value} (h : Rd w e sz v n xs) (hU : Upd S w w') (hS : Off w e S) : Rd w' e sz v n xs := by
  refine ⟨h.1, h.2.1, ?_⟩
  rcases h.2.2 with hn | ⟨b, off, cap, cur, fz, rfl, h1, h2, h3, h4⟩
  · exact .inl hn
  · exact .inr ⟨b, off, cap, cur, fz, rfl, h1, h2, hU.get h3 (fun hm => hS b hm _ _ h3), h4⟩
theorem Rd.upd0 {w w' : World} {e sz : Nat} {v : Value} {n : Nat} {xs : List Value} (h : Rd w e sz v n xs) (hU : Upd [] w w') : Rd w' e sz v n xs := h.upd hU (Off.nil _ _)
/-- The block behind a slice value is none of S. -/
def Away (v : Value) (S : List Nat) : Prop := ∀ g, v.ownBlock = some g → g ∉ S
theorem Rd.upd_away {S : List Nat} {w w' : World} {e sz : Nat} {v : Value} {n : Nat} {xs : List Value} (h : Rd w e sz v n xs) (hU : Upd S w w') (hS : Away v S) : Rd w' e sz v n xs := by
  refine ⟨h.1, h.2.1, ?_⟩
  rcases h.2.2 with hn | ⟨b, off, cap, cur, fz, rfl, h1, h2, h3, h4⟩
  · exact .inl hn
  · exact .inr ⟨b, off, cap, cur, fz, rfl, h1, h2, hU.get h3 (hS b rfl), h4⟩
theorem Rd.lt {w : World} {e sz : Nat} {v : Value} {n : Nat} {xs : List Value} (h : Rd w e sz v n xs) : ∀ g, v.ownBlock = some g → g < w.heap.size := by
  intro g hg
  rcases h.2.2 with ⟨rfl, _⟩ | ⟨b, off, cap, cur, fz, rfl, h1, h2, h3, h4⟩
  · simp [Value.ownBlock] at hg
  · simp [Value.ownBlock] at hg; subst hg; exact lt_of_get h3
theorem Own.upd {S : List Nat} {w w' : World} {B e sz : Nat} {v : Value} {n : Nat} {xs : List Value} (h : w.ownsRow B e sz v n xs) (hU : Upd S w w') (hS : Away v S) : w'.ownsRow B e sz v n xs := by
  refine ⟨h.1, ?_⟩
  rcases h.2 with hn | ⟨g, cap, cur, rfl, h1, h2, h3⟩
  · exact .inl hn
  · exact .inr ⟨g, cap, cur, rfl, h1, hU.get h2 (hS g rfl), h3⟩
theorem Own.upd0 {w w' : World} {B e sz : Nat} {v : Value} {n : Nat} {xs : List Value} (h : w.ownsRow B e sz v n xs) (hU : Upd [] w w') : w'.ownsRow B e sz v n xs := Own.upd h hU (fun _ _ hm => by cases hm)
theorem Own.mono {w : World} {B B' e sz : Nat} {v : Value} {n : Nat} {xs : List Value} (h : w.ownsRow B e sz v n xs) (hB : B' ≤ B) : w.ownsRow B' e sz v n xs := by
  refine ⟨h.1, ?_⟩
  rcases h.2 with hn | ⟨g, cap, cur, rfl, h1, h2⟩
  · exact .inl hn
  · exact .inr ⟨g, cap, cur, rfl, Nat.le_trans hB h1, h2⟩
theorem Own.away {w : World} {B e sz : Nat} {v : Value} {n : Nat} {xs : List Value} (h : w.ownsRow B e sz v n xs) {S : List Nat} (hS : ∀ k ∈ S, k < B) : Away v S := by
  intro g hg hm
  have := h.lt g hg
  have := hS g hm
  omega
theorem Own.upd_grown {w w' : World} {row : Option Nat} {S : List Nat} (h : w.grownBy w' row) (hr : ∀ k, row = some k → k ∈ S) : Upd S w w' := Upd.grown h hr

/-- A value lies in no block below B. -/
def Fresh (B : Nat) (v : Value) : Prop := ∀ g, v.ownBlock = some g → B ≤ g
theorem Own.fresh {w : World} {B e sz : Nat} {v : Value} {n : Nat} {xs : List Value} (h : w.ownsRow B e sz v n xs) : Fresh B v := fun g hg => (h.lt g hg).1

/-- A byte as a cell; bytes as cells; a text. -/
abbrev enc (b : UInt8) : Value := .int .u8 b.toNat
abbrev encS (l : List UInt8) : Value := .string ⟨l.toArray⟩
abbrev By (w : World) (v : Value) (l : List UInt8) : Prop := Rd w 5 1 v l.length (l.map enc)
abbrev OwnBy (w : World) (B : Nat) (v : Value) (l : List UInt8) : Prop := w.ownsRow B 5 1 v l.length (l.map enc)
theorem enc_oneCell (l : List UInt8) : ∀ u ∈ l.map enc, u.oneCell' = true := by
  intro u hu
  obtain ⟨_, _, rfl⟩ := List.mem_map.1 hu
  rfl
theorem OwnBy.by {w : World} {B : Nat} {v : Value} {l : List UInt8} (h : OwnBy w B v l) : By w v l := Rd.of_own h
theorem By.val {w : World} {v : Value} {l : List UInt8} (h : By w v l) : ∃ ao cap, v = .slice ao l.length cap := by
  rcases h.2.2 with ⟨rfl, h0⟩ | ⟨b, off, cap, cur, fz, rfl, _⟩
  · exact ⟨none, 0, by rw [h0]⟩
  · exact ⟨_, cap, rfl⟩

theorem cell_lit (w : World) (b o : Nat) (cur : Array Value) (e : TypeId) (fz : Nat × Nat) (h : w.heap[b]? = some (.cells cur e fz)) : w.cell? ⟨b, o, none⟩ = cur[o]? := by
  simp [World.cell?, h]
theorem frozen_lit (w : World) (b o : Nat) (cur : Array Value) (e : TypeId) (h : w.heap[b]? = some (.cells cur e (0, 0))) : w.frozen? ⟨b, o, none⟩ = false := by
  simp [World.frozen?, h]

theorem Rd.cell {w : World} {e sz : Nat} {b off n cap : Nat} {xs : List Value} (h : Rd w e sz (.slice (some ⟨b, off, none⟩) n cap) n xs) (j : Nat) (hj : j < n * sz) : w.cell? ⟨b, off + j, none⟩ = xs[j]? := by
  rcases h.2.2 with ⟨h1, _⟩ | ⟨b', off', cap', cur, fz, hv, h1, h2, h3, h4, h5⟩
  · cases h1
  · cases hv
    rw [cell_lit w b (off + j) cur e fz h3, ← h5]
    simp [List.getElem?_take, hj, List.getElem?_drop]

theorem Upd.cell {S : List Nat} {w w' : World} (h : Upd S w w') {a : Addr} {v : Value} (hc : w.cell? a = some v) (hn : a.block ∉ S) : w'.cell? a = some v :=
  (World.cell?_of_block (w := w) (h.keep a.block (World.block_lt_of_cell? w a hc) hn)).trans hc

/-- The slice value v reads as n elements of sz cells each, whose cells are xs, whatever the row behind it: an argument. -/
def Rdx (w : World) (sz : Nat) (v : Value) (n : Nat) (xs : List Value) : Prop :=
  xs.length = n * sz ∧ n ≤ maxLen ∧ ((v = .slice none 0 0 ∧ n = 0) ∨ ∃ a cap, v = .slice (some a) n cap ∧ n ≤ cap ∧ ∀ j u, xs[j]? = some u → w.cell? (a.add j) = some u)
theorem Rd.x {w : World} {e sz : Nat} {v : Value} {n : Nat} {xs : List Value} (h : Rd w e sz v n xs) : Rdx w sz v n xs := by
  refine ⟨h.1, h.2.1, ?_⟩
  rcases h.2.2 with hn | ⟨b, off, cap, cur, fz, rfl, h1, h2, h3, h4⟩
  · exact .inl hn
  · refine .inr ⟨_, cap, rfl, h1, fun j u hj => ?_⟩
    have hlt : j < n * sz := by rw [← h.1]; exact (List.getElem?_eq_some_iff.1 hj).1
    rw [Addr.add_lit, h.cell j hlt, hj]
theorem Rdx.upd0 {w w' : World} {sz : Nat} {v : Value} {n : Nat} {xs : List Value} (h : Rdx w sz v n xs) (hU : Upd [] w w') : Rdx w' sz v n xs := by
  refine ⟨h.1, h.2.1, ?_⟩
  rcases h.2.2 with hn | ⟨a, cap, rfl, h1, h2⟩
  · exact .inl hn
  · exact .inr ⟨a, cap, rfl, h1, fun j u hj => hU.cell (h2 j u hj) (by simp)⟩
theorem Rdx.shape {w : World} {sz : Nat} {v : Value} {n : Nat} {xs : List Value} (hR : Rdx w sz v n xs) : ∃ ao cap, v = .slice ao n cap ∧ n ≤ cap := by
  rcases hR.2.2 with ⟨rfl, h2⟩ | ⟨a, cap, rfl, h2, _⟩
  · exact ⟨none, 0, by rw [h2], by omega⟩
  · exact ⟨_, cap, rfl, h2⟩
abbrev ByX (w : World) (v : Value) (l : List UInt8) : Prop := Rdx w 1 v l.length (l.map enc)
end Go.Proofs.YthfbfdkjgkkpcaaGreat

namespace Go.Proofs.YthfbfdkjgkkpcaaGreat
open Go Go.RowKit

/-- T is a slice type over e: sz cells, by bytes an element. -/
structure Elem (P : Program) (T e sz by' : Nat) : Prop where
  und : P.underlying T = some (.slice e)
  pos : 0 < sz
  info : ∃ i z, P.info? e = some i ∧ i.zero = some z ∧ i.size = sz ∧ i.bytes = by' ∧ z.cells.size = sz

section
variable {P : Program} {ops : Array Oper} {Q : Exit → Act → World → Prop} {a : Act} {w : World} {rest : List Oper} {o : Oper}

theorem wpl_run (hw : Region.wanted o (yielded ops a.tmps) = true) {v : Value} {w' : World} (hrun : (execOp a.eval o).run P w = .ok (.value v) w')
    (h : wpList P ops Q rest (a.put o.dst v) w') : wpList P ops Q (o :: rest) a w := by
  unfold wpList
  rw [if_pos hw]
  left
  unfold Oper.wp
  rw [hrun]
  exact h
theorem wpl_skip (hw : Region.wanted o (yielded ops a.tmps) = true) {w' : World} (hrun : (execOp a.eval o).run P w = .ok .skip w')
    (h : wpList P ops Q rest (a.put o.dst undef) w') : wpList P ops Q (o :: rest) a w := by
  unfold wpList
  rw [if_pos hw]
  left
  unfold Oper.wp
  rw [hrun]
  exact h

theorem sizeOf_run {T e sz b : Nat} (hE : Elem P T e sz b) (w : World) : (sizeOf e).run P w = .ok sz w := by
  obtain ⟨i, z, hi, _, hs, _⟩ := hE.info
  simp [sizeOf, typeInfo, hi, hs]

/-- The address of an element that is there. -/
theorem run_indexAt {T e sz b : Nat} (hE : Elem P T e sz b) {v : Value} {n : Nat} {xs : List Value} (hR : Rd w e sz v n xs) (k : IntKind) (i : Int) (h0 : 0 ≤ i) (h1 : i < n) :
    ∃ ad, (Instr.indexAt T v (.int k i)).run P w = .ok (.pointer (some ad)) w ∧ (∀ j, j < sz → w.cell? (ad.add j) = xs[i.toNat * sz + j]?) ∧ ad.spot = none := by
  rcases hR.2.2 with ⟨rfl, h2⟩ | ⟨bl, off, cap, cur, fz, rfl, h2, h3, h4, h5, h6⟩
  · omega
  · refine ⟨⟨bl, off + i.toNat * sz, none⟩, ?_, ?_, rfl⟩
    · have hs := sizeOf_run hE w
      simp only [Instr.indexAt, asIntOf, Sem.run_bind, Sem.run_pure, Result.andThen_ok, run_underlying hE.und]
      simp only [h0, h1, and_self, if_true, Sem.run_bind, hs, Result.andThen_ok, Sem.run_pure, Addr.add_lit]
    · intro j hj
      have hlt : i.toNat * sz + j < n * sz := by
        have hn : i.toNat + 1 ≤ n := by omega
        have := Nat.mul_le_mul_right sz hn
        rw [Nat.add_mul, Nat.one_mul] at this
        omega
      rw [Addr.add_lit, Nat.add_assoc]
      exact hR.cell _ hlt

theorem wpl_indexAddr {T e sz b : Nat} (hE : Elem P T e sz b) (hw : Region.wanted o (yielded ops a.tmps) = true) {x ix : Operand} (ho : o.op = .indexAddr T x ix)
    {v : Value} {n : Nat} {xs : List Value} (hR : Rd w e sz v n xs) (hx : a.eval x = v) {k : IntKind} {i : Int} (hi : a.eval ix = .int k i) (h0 : 0 ≤ i) (h1 : i < n)
    (h : ∀ ad, (∀ j, j < sz → w.cell? (ad.add j) = xs[i.toNat * sz + j]?) → ad.spot = none → wpList P ops Q rest (a.put o.dst (.pointer (some ad))) w) : wpList P ops Q (o :: rest) a w := by
  obtain ⟨ad, hr, hc, hs⟩ := run_indexAt (w := w) hE hR k i h0 h1
  refine wpl_run hw (v := .pointer (some ad)) (w' := w) ?_ (h ad hc hs)
  simp [execOp, ho, hx, hi, hr, Sem.run_bind, Result.andThen]

/-- An element of one cell. -/
theorem wpl_indexAddr1 {T e b : Nat} (hE : Elem P T e 1 b) (hw : Region.wanted o (yielded ops a.tmps) = true) {x ix : Operand} (ho : o.op = .indexAddr T x ix)
    {v : Value} {n : Nat} {xs : List Value} (hR : Rd w e 1 v n xs) (hx : a.eval x = v) {k : IntKind} {i : Int} (hi : a.eval ix = .int k i) (h0 : 0 ≤ i) (h1 : i < n) (u : Value) (hu : xs[i.toNat]? = some u)
    (h : ∀ ad, w.cell? ad = some u → wpList P ops Q rest (a.put o.dst (.pointer (some ad))) w) : wpList P ops Q (o :: rest) a w := by
  refine wpl_indexAddr hE hw ho hR hx hi h0 h1 fun ad hc hs => h ad ?_
  have := hc 0 (by omega)
  rw [Nat.mul_one, Nat.add_zero, hu] at this
  simpa [Addr.add] using this

/-- A cut of a slice: x[lo:hi:mx]. -/
theorem run_cut {T e sz b : Nat} (hE : Elem P T e sz b) {ao : Option Addr} {n cap : Nat} {xs : List Value} (hR : Rd w e sz (.slice ao n cap) n xs) (l h m : Nat) (hl : l ≤ h) (hh : h ≤ n) (hm : h ≤ m) (hmc : m ≤ cap) :
    Rd w e sz (.slice (if m = l then ao else ao.map (·.add (l * sz))) (h - l) (m - l)) (h - l) ((xs.drop (l * sz)).take ((h - l) * sz)) := by
  rcases hR.2.2 with ⟨hv, h2⟩ | ⟨bl, off, cap', cur, fz, hv, h2, h3, h4, h5, h6⟩
  · cases hv
    obtain rfl : l = 0 := by omega
    obtain rfl : h = 0 := by omega
    obtain rfl : m = 0 := by omega
    refine ⟨?_, Nat.zero_le _, .inl ⟨by simp, rfl⟩⟩
    simp
  · cases hv
    have hlen : ((xs.drop (l * sz)).take ((h - l) * sz)).length = (h - l) * sz := by
      rw [List.length_take, List.length_drop, hR.1]
      have h7 : l * sz + (h - l) * sz ≤ n * sz := by rw [← Nat.add_mul]; exact Nat.mul_le_mul_right _ (by omega)
      omega
    have hb : off + l * sz + (h - l) * sz ≤ cur.size := by
      have h7 : l * sz + (h - l) * sz ≤ n * sz := by rw [← Nat.add_mul]; exact Nat.mul_le_mul_right _ (by omega)
      omega
    refine ⟨hlen, by have := hR.2.1; omega, .inr ?_⟩
    by_cases hml : m = l
    · obtain rfl : h = l := by omega
      refine ⟨bl, off, m - h, cur, fz, by simp [hml], by omega, by omega, h4, by simp; omega, by simp⟩
    · refine ⟨bl, off + l * sz, m - l, cur, fz, by simp [hml, Addr.add_lit], by omega, by omega, h4, hb, ?_⟩
      rw [← h6]
      have h7 : l * sz + (h - l) * sz ≤ n * sz := by rw [← Nat.add_mul]; exact Nat.mul_le_mul_right _ (by omega)
      rw [List.drop_take, List.take_take, List.drop_drop]
      congr 1
      omega

theorem run_bound {k : IntKind} (i : Int) (y : Nat) (code : BoundsCode) (w : World) (h0 : 0 ≤ i) (h1 : i ≤ y) : (Instr.sliceBound (.int k i) y code).run P w = .ok i.toNat w := by
  simp [Instr.sliceBound, asIntOf, h0, h1]

theorem Rd.shape {e sz : Nat} {v : Value} {n : Nat} {xs : List Value} (hR : Rd w e sz v n xs) : ∃ ao cap, v = .slice ao n cap ∧ n ≤ cap := by
  rcases hR.2.2 with ⟨rfl, h2⟩ | ⟨bl, off, cap, cur, fz, rfl, h2, _⟩
  · exact ⟨none, 0, by rw [h2], by omega⟩
  · exact ⟨_, cap, rfl, h2⟩

/-- x[lo:hi], both bounds numbers that fit. -/
theorem wpl_cut {T e sz b : Nat} (hE : Elem P T e sz b) (hw : Region.wanted o (yielded ops a.tmps) = true) {x lo hi : Operand} (ho : o.op = .slice T x (some lo) (some hi) none)
    {v : Value} {n : Nat} {xs : List Value} (hR : Rd w e sz v n xs) (hx : a.eval x = v) {k k' : IntKind} {l h : Int} (hlo : a.eval lo = .int k l) (hhi : a.eval hi = .int k' h) (h0 : 0 ≤ l) (h1 : l ≤ h) (h2 : h ≤ n)
    (hK : ∀ v', Rd w e sz v' (h.toNat - l.toNat) ((xs.drop (l.toNat * sz)).take ((h.toNat - l.toNat) * sz)) → (∀ g, v'.ownBlock = some g → v.ownBlock = some g) → wpList P ops Q rest (a.put o.dst v') w) : wpList P ops Q (o :: rest) a w := by
  obtain ⟨ao, cap, rfl, hc⟩ := hR.shape
  have hr := run_cut hE hR l.toNat h.toNat cap (by omega) (by omega) (by omega) (by omega)
  refine wpl_run hw (w' := w) ?_ (hK _ hr ?_)
  · have b1 := run_bound (P := P) (k := k') h cap .sliceAcap w (by omega) (by omega)
    have b2 := run_bound (P := P) (k := k) l h.toNat .sliceB w h0 (by omega)
    simp [execOp, ho, hx, hlo, hhi, Instr.sliceAt, Instr.slice, run_underlying hE.und, Instr.sliceBounds, b1, b2, sizeOf_run hE w, Result.andThen]
  · intro g hg
    cases ao with
    | none => simp [Value.ownBlock] at hg
    | some ad =>
      have e1 : (if cap = l.toNat then some ad else (some ad).map (·.add (l.toNat * sz))) = some (if cap = l.toNat then ad else ad.add (l.toNat * sz)) := by split <;> rfl
      rw [e1] at hg
      simp only [Value.ownBlock, Option.some.injEq] at hg ⊢
      rw [← hg]
      split
      · rfl
      · unfold Addr.add; split <;> rfl
/-- x[lo:]. -/
theorem wpl_cut_from {T e sz b : Nat} (hE : Elem P T e sz b) (hw : Region.wanted o (yielded ops a.tmps) = true) {x lo : Operand} (ho : o.op = .slice T x (some lo) none none)
    {v : Value} {n : Nat} {xs : List Value} (hR : Rd w e sz v n xs) (hx : a.eval x = v) {k : IntKind} {l : Int} (hlo : a.eval lo = .int k l) (h0 : 0 ≤ l) (h1 : l ≤ n)
    (hK : ∀ v', Rd w e sz v' (n - l.toNat) (xs.drop (l.toNat * sz)) → (∀ g, v'.ownBlock = some g → v.ownBlock = some g) → wpList P ops Q rest (a.put o.dst v') w) : wpList P ops Q (o :: rest) a w := by
  obtain ⟨ao, cap, rfl, hc⟩ := hR.shape
  have hr := run_cut hE hR l.toNat n cap (by omega) (by omega) (by omega) (by omega)
  have e0 : (xs.drop (l.toNat * sz)).take ((n - l.toNat) * sz) = xs.drop (l.toNat * sz) := by
    apply List.take_of_length_le
    rw [List.length_drop, hR.1, Nat.sub_mul]
    exact Nat.le_refl _
  rw [e0] at hr
  refine wpl_run hw (w' := w) ?_ (hK _ hr ?_)
  · have b2 := run_bound (P := P) (k := k) l n .sliceB w h0 (by omega)
    simp [execOp, ho, hx, hlo, Instr.sliceAt, Instr.slice, run_underlying hE.und, Instr.sliceBounds, b2, sizeOf_run hE w, Result.andThen]
  · intro g hg
    cases ao with
    | none => simp [Value.ownBlock] at hg
    | some ad =>
      have e1 : (if cap = l.toNat then some ad else (some ad).map (·.add (l.toNat * sz))) = some (if cap = l.toNat then ad else ad.add (l.toNat * sz)) := by split <;> rfl
      rw [e1] at hg
      simp only [Value.ownBlock, Option.some.injEq] at hg ⊢
      rw [← hg]
      split
      · rfl
      · unfold Addr.add; split <;> rfl
/-- x[:hi]. -/
theorem wpl_cut_to {T e sz b : Nat} (hE : Elem P T e sz b) (hw : Region.wanted o (yielded ops a.tmps) = true) {x hi : Operand} (ho : o.op = .slice T x none (some hi) none)
    {v : Value} {n : Nat} {xs : List Value} (hR : Rd w e sz v n xs) (hx : a.eval x = v) {k' : IntKind} {h : Int} (hhi : a.eval hi = .int k' h) (h1 : 0 ≤ h) (h2 : h ≤ n)
    (hK : ∀ v', Rd w e sz v' h.toNat (xs.take (h.toNat * sz)) → (∀ g, v'.ownBlock = some g → v.ownBlock = some g) → wpList P ops Q rest (a.put o.dst v') w) : wpList P ops Q (o :: rest) a w := by
  obtain ⟨ao, cap, rfl, hc⟩ := hR.shape
  have hr := run_cut hE hR 0 h.toNat cap (by omega) (by omega) (by omega) (by omega)
  simp only [Nat.zero_mul, List.drop_zero, Nat.sub_zero] at hr
  refine wpl_run hw (w' := w) ?_ (hK _ hr ?_)
  · have b1 := run_bound (P := P) (k := k') h cap .sliceAcap w (by omega) (by omega)
    simp [execOp, ho, hx, hhi, Instr.sliceAt, Instr.slice, run_underlying hE.und, Instr.sliceBounds, b1, sizeOf_run hE w, Result.andThen]
  · intro g hg
    cases ao with
    | none => simp [Value.ownBlock] at hg
    | some ad =>
      have e1 : (if cap = 0 then some ad else (some ad).map (·.add 0)) = some ad := by split <;> rfl
      rw [e1] at hg
      exact hg

/-- append(v, x...), v the call's own, x whatever reads as a slice. -/
theorem run_append_rx {T e sz b ty : Nat} (hE : Elem P T e sz b) {B : Nat} {v : Value} {n : Nat} {xs : List Value} (hown : w.ownsRow B e sz v n xs) {x : Value} {m : Nat} {ys : List Value} (hR : Rdx w sz x m ys)
    (h1 : ∀ u ∈ ys, u.oneCell' = true) (h63 : n + m ≤ maxLen) (hb : (n + m) * b ≤ 140737488355328) (hB : B ≤ w.heap.size) :
    ∃ v' w', (Builtin.append_ #[T, T] ty #[v, x]).run P w = .ok v' w' ∧ w'.ownsRow B e sz v' (n + m) (xs ++ ys) ∧ w.grownBy w' v.ownBlock ∧ (v'.ownBlock = v.ownBlock ∨ v'.ownBlock = some w.heap.size) := by
  obtain ⟨i, z, hi, hz, hs, hby, hzs⟩ := hE.info
  rcases hR.2.2 with ⟨rfl, h2⟩ | ⟨ad, cap, rfl, h2, h3⟩
  · subst h2
    obtain rfl : ys = [] := List.eq_nil_of_length_eq_zero (by simpa using hR.1)
    exact ⟨v, w, run_append_owned_none (P := P) w B T ty e i sz hE.und hi v n xs hown, by simpa using hown, World.grownBy.refl _ _, .inl rfl⟩
  · obtain ⟨v', w', r1, r2, r3, _, r5⟩ := run_append_own_at (P := P) w B T ty e i z sz b hE.und hi hz hs hby hzs hE.pos v n xs hown ad m cap ys hR.1 h3 h1 h63 hb hB
    exact ⟨v', w', r1, r2, r3, r5⟩

theorem run_append_rd {T e sz b ty : Nat} (hE : Elem P T e sz b) {B : Nat} {v : Value} {n : Nat} {xs : List Value} (hown : w.ownsRow B e sz v n xs) {x : Value} {m : Nat} {ys : List Value} (hR : Rd w e sz x m ys)
    (h1 : ∀ u ∈ ys, u.oneCell' = true) (h63 : n + m ≤ maxLen) (hb : (n + m) * b ≤ 140737488355328) (hB : B ≤ w.heap.size) :
    ∃ v' w', (Builtin.append_ #[T, T] ty #[v, x]).run P w = .ok v' w' ∧ w'.ownsRow B e sz v' (n + m) (xs ++ ys) ∧ w.grownBy w' v.ownBlock ∧ (v'.ownBlock = v.ownBlock ∨ v'.ownBlock = some w.heap.size) := run_append_rx hE hown hR.x h1 h63 hb hB

theorem wpl_append {T e sz b : Nat} (hE : Elem P T e sz b) (hw : Region.wanted o (yielded ops a.tmps) = true) {s x : Operand} (ho : o.op = .call { callee := .builtin .append, args := #[s, x], argTypes := #[T, T] })
    {v : Value} {B n : Nat} {xs : List Value} (hown : w.ownsRow B e sz v n xs) (hs : a.eval s = v) {y : Value} {m : Nat} {ys : List Value} (hR : Rd w e sz y m ys) (hx : a.eval x = y)
    (h1 : ∀ u ∈ ys, u.oneCell' = true) (h63 : n + m ≤ maxLen) (hb : (n + m) * b ≤ 140737488355328) (hB : B ≤ w.heap.size)
    (hK : ∀ v' w', w'.ownsRow B e sz v' (n + m) (xs ++ ys) → Upd v.ownBlock.toList w w' → (v'.ownBlock = v.ownBlock ∨ v'.ownBlock = some w.heap.size) → wpList P ops Q rest (a.put o.dst v') w') : wpList P ops Q (o :: rest) a w := by
  obtain ⟨v', w', r1, r2, r3, r4⟩ := run_append_rd (P := P) (ty := o.type) hE hown hR h1 h63 hb hB
  refine wpl_run hw (v := v') (w' := w') ?_ (hK v' w' r2 (Upd.grown r3 (fun k hk => by rw [hk]; simp)) r4)
  simp [execOp, ho, resolve, invoke, builtin, hs, hx, r1, Result.andThen]

theorem wpl_append_x {T e sz b : Nat} (hE : Elem P T e sz b) (hw : Region.wanted o (yielded ops a.tmps) = true) {s x : Operand} (ho : o.op = .call { callee := .builtin .append, args := #[s, x], argTypes := #[T, T] })
    {v : Value} {B n : Nat} {xs : List Value} (hown : w.ownsRow B e sz v n xs) (hs : a.eval s = v) {y : Value} {m : Nat} {ys : List Value} (hR : Rdx w sz y m ys) (hx : a.eval x = y)
    (h1 : ∀ u ∈ ys, u.oneCell' = true) (h63 : n + m ≤ maxLen) (hb : (n + m) * b ≤ 140737488355328) (hB : B ≤ w.heap.size)
    (hK : ∀ v' w', w'.ownsRow B e sz v' (n + m) (xs ++ ys) → Upd v.ownBlock.toList w w' → (v'.ownBlock = v.ownBlock ∨ v'.ownBlock = some w.heap.size) → wpList P ops Q rest (a.put o.dst v') w') : wpList P ops Q (o :: rest) a w := by
  obtain ⟨v', w', r1, r2, r3, r4⟩ := run_append_rx (P := P) (ty := o.type) hE hown hR h1 h63 hb hB
  refine wpl_run hw (v := v') (w' := w') ?_ (hK v' w' r2 (Upd.grown r3 (fun k hk => by rw [hk]; simp)) r4)
  simp [execOp, ho, resolve, invoke, builtin, hs, hx, r1, Result.andThen]

theorem fold_get (l : List Value) : ∀ (k off : Nat) (arr : Array Value), off + k + l.length ≤ arr.size → ∀ i,
    ((l.zipIdx k).foldl (fun (cs : Array Value) (p : Value × Nat) => cs.setIfInBounds (off + p.2) p.1) arr)[i]? = if off + k ≤ i ∧ i < off + k + l.length then l[i - (off + k)]? else arr[i]? := by
  induction l with
  | nil => intro k off arr _ i; simp; omega
  | cons c l ih =>
    intro k off arr hs i
    simp only [List.zipIdx_cons, List.foldl_cons, List.length_cons] at hs ⊢
    rw [ih (k + 1) off _ (by simp; omega) i]
    by_cases h1 : off + (k + 1) ≤ i ∧ i < off + (k + 1) + l.length
    · rw [if_pos h1, if_pos (by omega)]
      obtain ⟨m, hm⟩ : ∃ m, i - (off + k) = m + 1 := ⟨i - (off + k) - 1, by omega⟩
      rw [hm, List.getElem?_cons_succ]
      congr 1
      omega
    · rw [if_neg h1, Array.getElem?_setIfInBounds]
      by_cases h2 : off + k = i
      · subst h2
        rw [if_pos rfl, if_pos (by omega), if_pos (by omega)]
        simp
      · rw [if_neg h2, if_neg (by omega)]

theorem fold_all (cs arr : Array Value) (h : arr.size = cs.size) :
    (cs.zipIdx.foldl (fun (acc : Array Value) (p : Value × Nat) => acc.setIfInBounds (0 + p.2) p.1) arr) = cs := by
  rw [← Array.foldl_toList, Array.toList_zipIdx]
  apply Array.ext_getElem?
  intro i
  rw [fold_get cs.toList 0 0 arr (by simp [h])]
  by_cases hi : i < cs.size
  · simp [hi]
  · have h1 : cs.size ≤ i := by omega
    simp [hi]
    omega

/-- []T{x}: one element. -/
theorem run_lit {T e sz b : Nat} (hE : Elem P T e sz b) (u : Value) (hc : u.cells.size = sz) (hs : sz ≤ 16777216) :
    (Instr.buildSlice T 1 #[(0, u)]).run P w = .ok (.slice (some ⟨w.heap.size, 0, none⟩) 1 1) (w.alloc (.cells u.cells e)) := by
  obtain ⟨i, z, hi, hz, hsz, hby, hzs⟩ := hE.info
  have hp := hE.pos
  have hne : ¬ (1 * sz = 0) := by omega
  have hbig : ¬ (1 * sz > 2 ^ 24) := by omega
  have hzero : (zeroValue e).run P w = .ok z w := by simp [zeroValue, typeInfo, hi, hz]
  have hf : Instr.fill (fun i => some (i * sz, sz)) ((Array.range (1 * sz)).map (z.cells[· % z.cells.size]!)) [(0, u)] = some u.cells := by
    simp only [Instr.fill, hc, Nat.zero_mul, Nat.zero_add, Array.size_map, Array.size_range, Nat.one_mul, ne_eq, not_true_eq_false, gt_iff_lt, Nat.lt_irrefl, decide_false, Bool.or_self, Bool.false_eq_true, if_false]
    have h3 := fold_all u.cells ((Array.range sz).map (z.cells[· % z.cells.size]!)) (by simp [hc])
    simp only [Nat.zero_add] at h3
    exact congrArg some h3
  simp only [Instr.buildSlice, Sem.run_bind, run_underlying hE.und, Result.andThen_ok, sizeOf_run hE w, if_neg hbig, if_neg hne, hzero, Sem.run_pure, hf, newRow]
  rfl

theorem wpl_lit {T e sz b : Nat} (hE : Elem P T e sz b) (hw : Region.wanted o (yielded ops a.tmps) = true) {x : Operand} (ho : o.op = .buildSlice T 1 #[(0, x)])
    {u : Value} (hx : a.eval x = u) {cs : List Value} (hc : u.cells = cs.toArray) (hn : cs.length = sz) (hs : sz ≤ 16777216)
    (hK : ∀ v w', w'.ownsRow w.heap.size e sz v 1 cs → Upd [] w w' → v.ownBlock = some w.heap.size → wpList P ops Q rest (a.put o.dst v) w') : wpList P ops Q (o :: rest) a w := by
  have hr := run_lit (w := w) hE u (by rw [hc]; simpa using hn) hs
  refine wpl_run hw (v := .slice (some ⟨w.heap.size, 0, none⟩) 1 1) (w' := w.alloc (.cells u.cells e)) ?_ (hK _ _ ?_ (Upd.alloc _ _ _) rfl)
  · simp [execOp, ho, hx, hr, Result.andThen]
  · refine ⟨by simpa using hn, .inr ⟨w.heap.size, 1, u.cells, rfl, Nat.le_refl _, heap_alloc_new w _, Nat.le_refl _, by decide, ?_, ?_⟩⟩
    · rw [hc]; simpa using hn
    · rw [hc]; simp [← hn]
theorem wpl_lit0 {T e sz b : Nat} (hE : Elem P T e sz b) (hw : Region.wanted o (yielded ops a.tmps) = true) (ho : o.op = .buildSlice T 0 #[])
    (hK : ∀ v w', w'.ownsRow w.heap.size e sz v 0 [] → Upd [] w w' → v.ownBlock = some w.heap.size → wpList P ops Q rest (a.put o.dst v) w') : wpList P ops Q (o :: rest) a w := by
  have hr : (Instr.buildSlice T 0 #[]).run P w = .ok (.slice (some ⟨w.heap.size, 0, none⟩) 0 0) (w.alloc (.cells #[] e)) := by
    simp [Instr.buildSlice, Sem.run_bind, run_underlying hE.und, Result.andThen_ok, sizeOf_run hE w, Instr.fill, newRow]
    exact congrArg (fun c => w.alloc (.cells c e)) (Array.eq_empty_of_size_eq_zero (by simp))
  refine wpl_run hw (v := .slice (some ⟨w.heap.size, 0, none⟩) 0 0) (w' := w.alloc (.cells #[] e)) ?_ (hK _ _ ?_ (Upd.alloc _ _ _) rfl)
  · simp [execOp, ho, hr, Result.andThen]
  · exact ⟨by simp, .inr ⟨w.heap.size, 0, #[], rfl, Nat.le_refl _, heap_alloc_new w _, Nat.le_refl _, by decide, by simp, by simp⟩⟩

/-- Behind a step that turns a row of the call's own: of what was there at the call's begin nothing more has turned. -/
theorem Upd.own {S : List Nat} {w0 w1 w2 : World} {v : Value} {e sz n : Nat} {xs : List Value} (h : Upd S w0 w1) (hown : w1.ownsRow w0.heap.size e sz v n xs) (hU : Upd v.ownBlock.toList w1 w2) : Upd S w0 w2 :=
  h.trans hU (fun i hi hlt => by
    cases hv : v.ownBlock with
    | none => rw [hv] at hi; cases hi
    | some g =>
      rw [hv] at hi
      simp at hi
      have := hown.lt g hv
      omega)

/-- append of bytes to bytes of the call's own. -/
theorem wpl_append_by {T : Nat} (hE : Elem P T 5 1 1) (hw : Region.wanted o (yielded ops a.tmps) = true) {s x : Operand} (ho : o.op = .call { callee := .builtin .append, args := #[s, x], argTypes := #[T, T] })
    {S : List Nat} {w0 : World} (hU : Upd S w0 w) {v y : Value} {l l2 : List UInt8} (hown : OwnBy w w0.heap.size v l) (hs : a.eval s = v) (hR : By w y l2) (hx : a.eval x = y) (hb : l.length + l2.length ≤ 1073741824)
    (hK : ∀ v' w', OwnBy w' w0.heap.size v' (l ++ l2) → Upd v.ownBlock.toList w w' → Upd S w0 w' → (v'.ownBlock = v.ownBlock ∨ v'.ownBlock = some w.heap.size) → wpList P ops Q rest (a.put o.dst v') w') : wpList P ops Q (o :: rest) a w := by
  refine wpl_append hE hw ho hown hs hR hx (enc_oneCell l2) (by unfold maxLen; omega) (by omega) hU.size ?_
  intro v' w' h1 h2 h3
  rw [← List.map_append, ← List.length_append] at h1
  exact hK v' w' h1 h2 (hU.own hown h2) h3

/-- append of bytes to bytes of the call's own. -/
theorem wpl_append_byx {T : Nat} (hE : Elem P T 5 1 1) (hw : Region.wanted o (yielded ops a.tmps) = true) {s x : Operand} (ho : o.op = .call { callee := .builtin .append, args := #[s, x], argTypes := #[T, T] })
    {S : List Nat} {w0 : World} (hU : Upd S w0 w) {v y : Value} {l l2 : List UInt8} (hown : OwnBy w w0.heap.size v l) (hs : a.eval s = v) (hR : ByX w y l2) (hx : a.eval x = y) (hb : l.length + l2.length ≤ 1073741824)
    (hK : ∀ v' w', OwnBy w' w0.heap.size v' (l ++ l2) → Upd v.ownBlock.toList w w' → Upd S w0 w' → (v'.ownBlock = v.ownBlock ∨ v'.ownBlock = some w.heap.size) → wpList P ops Q rest (a.put o.dst v') w') : wpList P ops Q (o :: rest) a w := by
  refine wpl_append_x hE hw ho hown hs hR hx (enc_oneCell l2) (by unfold maxLen; omega) (by omega) hU.size ?_
  intro v' w' h1 h2 h3
  rw [← List.map_append, ← List.length_append] at h1
  exact hK v' w' h1 h2 (hU.own hown h2) h3

/-- []byte{b}. -/
theorem wpl_lit_byte {T : Nat} (b : UInt8) (hE : Elem P T 5 1 1) (hw : Region.wanted o (yielded ops a.tmps) = true) {x : Operand} (ho : o.op = .buildSlice T 1 #[(0, x)])
    (hx : a.eval x = enc b)
    (hK : ∀ v w', OwnBy w' w.heap.size v [b] → Upd [] w w' → v.ownBlock = some w.heap.size → wpList P ops Q rest (a.put o.dst v) w') : wpList P ops Q (o :: rest) a w :=
  wpl_lit hE hw ho hx (cs := [enc b]) rfl rfl (by omega) hK

/-- The address of a byte of the call's own, and what a store there leaves. -/
theorem wpl_indexAddr_own {T : Nat} (hE : Elem P T 5 1 1) (hw : Region.wanted o (yielded ops a.tmps) = true) {x ix : Operand} (ho : o.op = .indexAddr T x ix)
    {B : Nat} {v : Value} {l : List UInt8} (hown : OwnBy w B v l) (hx : a.eval x = v) {k : IntKind} {i : Int} (hi : a.eval ix = .int k i) (h0 : 0 ≤ i) (h1 : i < l.length)
    (hK : ∀ ad, w.cell? ad = some (enc (l.getD i.toNat 0)) → w.frozen? ad = false → (∀ b, OwnBy (w.setCell ad (enc b)) B v (l.set i.toNat b) ∧ Upd v.ownBlock.toList w (w.setCell ad (enc b))) → wpList P ops Q rest (a.put o.dst (.pointer (some ad))) w) : wpList P ops Q (o :: rest) a w := by
  rcases hown.2 with ⟨rfl, h2⟩ | ⟨g, cap, cur, rfl, hBg, hg, hnc, hcm, hcs, htk⟩
  · omega
  · have hlt : i.toNat < l.length := by omega
    have hr : (Instr.indexAt T (.slice (some ⟨g, 0, none⟩) l.length cap) (.int k i)).run P w = .ok (.pointer (some ⟨g, i.toNat, none⟩)) w := by
      have hs := sizeOf_run hE w
      simp only [Instr.indexAt, asIntOf, Sem.run_bind, Sem.run_pure, Result.andThen_ok, run_underlying hE.und]
      simp only [h0, h1, and_self, if_true, Sem.run_bind, hs, Result.andThen_ok, Sem.run_pure, Addr.add_lit, Nat.mul_one, Nat.zero_add]
    refine wpl_run hw (v := .pointer (some ⟨g, i.toNat, none⟩)) (w' := w) ?_ (hK _ ?_ ?_ ?_)
    · simp [execOp, ho, hx, hi, hr, Result.andThen]
    · rw [World.ownsRow.cellAt hown i.toNat (by omega)]
      simp [List.getD, hlt]
    · exact World.ownsRow.frozenAt hown i.toNat
    · intro b
      refine ⟨?_, Upd.setCell _ _ _ (by simp [Value.ownBlock])⟩
      have h := World.ownsRow.stored hown i.toNat (enc b)
      unfold OwnBy
      rw [List.length_set, List.map_set]
      exact h.1

/-- make([]byte, n). -/
theorem wpl_make_by {T : Nat} (hE : Elem P T 5 1 1) (hz : ∀ i, P.info? 5 = some i → i.zero = some (.int .u8 0)) (hw : Region.wanted o (yielded ops a.tmps) = true) {l c : Operand} (ho : o.op = .makeSlice T l c)
    {k k' : IntKind} {n : Nat} (hl : a.eval l = .int k n) (hc : a.eval c = .int k' n) (hb : n ≤ 1073741824)
    (hK : ∀ v w', OwnBy w' w.heap.size v (List.replicate n 0) → Upd [] w w' → wpList P ops Q rest (a.put o.dst v) w') : wpList P ops Q (o :: rest) a w := by
  obtain ⟨i, z, hi, hz', hs, hby, _⟩ := hE.info
  obtain ⟨w', hr, h1, h2⟩ := run_make_full (P := P) w w.heap.size T 5 i (.int .u8 0) 1 hE.und hi (hz i hi) hs k k' n (by rw [hby]; omega) (by unfold maxLen; omega) (Nat.le_refl _)
  refine wpl_run hw (v := .slice (some ⟨w.heap.size, 0, none⟩) n n) (w' := w') ?_ (hK _ _ ?_ (Upd.grown h2 (fun _ h => by cases h)))
  · simp [execOp, ho, hl, hc, hr, Result.andThen]
  · have e1 : (madeCells (Value.int .u8 0).cells (n * 1)).toList = (List.replicate n (0 : UInt8)).map enc := by
      rw [Nat.mul_one]
      show (madeCells #[.int .u8 0] n).toList = _
      rw [toList_madeCells_one, List.map_replicate]
      rfl
    rw [e1] at h1
    unfold OwnBy
    rw [List.length_replicate]
    exact h1

theorem Rd.new {e sz n cap : Nat} {xs : List Value} {cur : Array Value} (hl : xs.length = n * sz) (hn : n ≤ cap) (hm : cap ≤ maxLen) (hc : cur.toList.take (n * sz) = xs) (hs : cur.size = cap * sz) :
    Rd (w.alloc (.cells cur e)) e sz (.slice (some ⟨w.heap.size, 0, none⟩) n cap) n xs := by
  refine ⟨hl, Nat.le_trans hn hm, .inr ⟨w.heap.size, 0, cap, cur, (0, 0), rfl, hn, hm, heap_alloc_new w _, ?_, by simpa using hc⟩⟩
  rw [hs, Nat.zero_add]; exact Nat.mul_le_mul_right _ hn

/-- append to a slice that has no room behind its end: what was there stays as it was. -/
theorem run_append_fullx {T e sz b ty : Nat} (hE : Elem P T e sz b) {ao : Option Addr} {n : Nat} {xs : List Value} (hR : Rd w e sz (.slice ao n n) n xs) {y : Value} {m : Nat} {ys : List Value} (hY : Rdx w sz y m ys)
    (h63 : n + m ≤ maxLen) (hb : (n + m) * b ≤ 140737488355328) :
    ∃ v' w', (Builtin.append_ #[T, T] ty #[.slice ao n n, y]).run P w = .ok v' w' ∧ Rd w' e sz v' (n + m) (xs ++ ys) ∧ Upd [] w w' := by
  obtain ⟨i, z, hi, hz, hs, hby, hzs⟩ := hE.info
  have hsz := sizeOf_run hE w
  have hcell : ∀ {v : Value} {k : Nat} {zs : List Value}, Rd w e sz v k zs → ∀ bl off cap, v = .slice (some ⟨bl, off, none⟩) k cap → ∀ j u, zs[j]? = some u → w.cell? ((⟨bl, off, none⟩ : Addr).add j) = some u := by
    intro v k zs h bl off cap hv j u hj
    subst hv
    have hlt : j < k * sz := by rw [← h.1]; exact (List.getElem?_eq_some_iff.1 hj).1
    rw [Addr.add_lit, h.cell j hlt]
    exact hj
  have hsmall : n + m ≤ 9223372036854775807 := by simp only [maxLen] at h63; omega
  have grown : ∀ old, old < n + m → xs.length = n * sz → ys.length = m * sz → Rd (w.drew.alloc (.cells (xs.toArray ++ ys.toArray ++ Builtin.zeroCells z.cells (grownCap w (n + m) old e - (n + m))) e)) e sz
        (.slice (some ⟨w.heap.size, 0, none⟩) (n + m) (grownCap w (n + m) old e)) (n + m) (xs ++ ys) ∧ Upd [] w (w.drew.alloc (.cells (xs.toArray ++ ys.toArray ++ Builtin.zeroCells z.cells (grownCap w (n + m) old e - (n + m))) e)) := by
    intro old _ h1 h2
    have hge := grownCap_ge w (n + m) old e
    refine ⟨Rd.new (w := w.drew) (by rw [List.length_append, h1, h2, Nat.add_mul]) hge (grownCap_le_maxLen w _ _ _ h63) ?_ ?_, (Upd.drew [] w).trans0 (Upd.alloc [] _ _)⟩
    · simp only [Array.toList_append]
      rw [List.take_append_of_le_length (by simp [h1, h2, Nat.add_mul])]
      rw [List.take_of_length_le (by simp [h1, h2, Nat.add_mul])]
    · simp only [Array.size_append, List.size_toArray, size_zeroCells, h1, h2, hzs, ← Nat.add_mul]
      congr 1
      omega
  rcases hY.2.2 with ⟨rfl, h2⟩ | ⟨ad, cap, rfl, h2, h3⟩
  · subst h2
    obtain rfl : ys = [] := List.eq_nil_of_length_eq_zero (by simpa using hY.1)
    refine ⟨.slice ao n n, w, ?_, by simpa using hR, Upd.refl _ _⟩
    cases ao <;> simp [Builtin.append_, run_underlying hE.und, sizeOf, typeInfo, hi, Builtin.lenOf, Builtin.firstCells, storeCells]
  · by_cases hm0 : m = 0
    · subst hm0
      obtain rfl : ys = [] := List.eq_nil_of_length_eq_zero (by simpa using hY.1)
      refine ⟨.slice ao n n, w, ?_, by simpa using hR, Upd.refl _ _⟩
      cases ao <;> simp [Builtin.append_, run_underlying hE.und, sizeOf, typeInfo, hi, Builtin.lenOf, Builtin.firstCells, storeCells, loadCells, loadCellsFrom]
    · rcases hR.2.2 with ⟨hv, hn0⟩ | ⟨bl', off', cap', cur', fz', hv, g2, g3, g4, g5, g6⟩
      · cases hv
        obtain rfl : xs = [] := List.eq_nil_of_length_eq_zero (by simpa using hR.1)
        have hr := run_append_nil (P := P) w T ty e i z hE.und hi hz ad m cap ys (by rw [hs]; exact hY.1) h3 (by omega) (by omega) (by rw [hby]; simp only [Nat.zero_add] at hb; omega)
        have hg := grown 0 (by omega) hR.1 hY.1
        simp only [Nat.zero_add, List.nil_append, Array.empty_append] at hg ⊢
        exact ⟨_, _, hr, hg⟩
      · cases hv
        have hr := run_append_grow (P := P) w T ty e i z hE.und hi hz ⟨bl', off', none⟩ n n xs (by rw [hs]; exact hR.1) (hcell hR bl' off' n rfl) ad m cap ys (by rw [hs]; exact hY.1) h3 (by omega) (by omega) (growslice_fits (by omega) (by rw [hby]; exact hb))
        exact ⟨_, _, hr, grown n (by omega) hR.1 hY.1⟩

theorem run_append_full {T e sz b ty : Nat} (hE : Elem P T e sz b) {ao : Option Addr} {n : Nat} {xs : List Value} (hR : Rd w e sz (.slice ao n n) n xs) {y : Value} {m : Nat} {ys : List Value} (hY : Rd w e sz y m ys)
    (h63 : n + m ≤ maxLen) (hb : (n + m) * b ≤ 140737488355328) :
    ∃ v' w', (Builtin.append_ #[T, T] ty #[.slice ao n n, y]).run P w = .ok v' w' ∧ Rd w' e sz v' (n + m) (xs ++ ys) ∧ Upd [] w w' := run_append_fullx hE hR hY.x h63 hb

/-- The step of a drawn region: an operation that runs. -/
theorem step_run {K : Act → World → Prop} (hw : Region.wanted o (yielded ops a.tmps) = true) {v : Value} {w' : World} (hrun : (execOp a.eval o).run P w = .ok (.value v) w') (h : K (a.put o.dst v) w') :
    if Region.wanted o (yielded ops a.tmps) = true then Oper.wp P o a w K Q else K (a.put o.dst undef) w := by
  rw [if_pos hw]
  unfold Oper.wp
  rw [hrun]
  exact h
theorem run_append_op {s x : Operand} {T : Nat} (ho : o.op = .call { callee := .builtin .append, args := #[s, x], argTypes := #[T, T] }) {v y v' : Value} {w' : World} (hs : a.eval s = v) (hx : a.eval x = y)
    (hr : (Builtin.append_ #[T, T] o.type #[v, y]).run P w = .ok v' w') : (execOp a.eval o).run P w = .ok (.value v') w' := by
  simp [execOp, ho, resolve, invoke, builtin, hs, hx, hr, Result.andThen]

theorem run_lit_op {x : Operand} {T : Nat} (ho : o.op = .buildSlice T 1 #[(0, x)]) {u v' : Value} {w' : World} (hx : a.eval x = u)
    (hr : (Instr.buildSlice T 1 #[(0, u)]).run P w = .ok v' w') : (execOp a.eval o).run P w = .ok (.value v') w' := by
  simp [execOp, ho, hx, hr, Result.andThen]

end
end Go.Proofs.YthfbfdkjgkkpcaaGreat

namespace Go.Proofs.YthfbfdkjgkkpcaaGreat

/-- The number is one of 64 bits. (A structure, so that no tactic meets the numeral.) -/
structure U64 (n : Nat) : Prop where
  lt : n < 18446744073709551616
/-- A number in as few bytes as may be. -/
def countB (n : Nat) : List UInt8 := if n < 128 then [UInt8.ofNat n] else UInt8.ofNat (128 + n % 128) :: countB (n / 128)
termination_by n
decreasing_by omega
theorem countB_lt {n : Nat} (h : n < 128) : countB n = [UInt8.ofNat n] := by rw [countB, if_pos h]
theorem countB_ge {n : Nat} (h : ¬ n < 128) : countB n = UInt8.ofNat (128 + n % 128) :: countB (n / 128) := by rw [countB, if_neg h]
theorem countB_pos (n : Nat) : 0 < (countB n).length := by rw [countB]; split <;> simp
theorem countB_len (k : Nat) : ∀ n, n < 128 ^ (k + 1) → (countB n).length ≤ k + 1 := by
  induction k with
  | zero => intro n h; rw [countB_lt (by simpa using h)]; simp
  | succ k ih =>
    intro n h
    by_cases h1 : n < 128
    · rw [countB_lt h1]; simp
    · rw [countB_ge h1, List.length_cons]
      have : n / 128 < 128 ^ (k + 1) := by
        rw [Nat.div_lt_iff_lt_mul (by omega)]
        rw [Nat.pow_succ] at h
        exact h
      have := ih _ this
      omega
theorem countB_len10 {n : Nat} (h : U64 n) : (countB n).length ≤ 10 := countB_len 9 n (by have := h.lt; omega)
/-- Bytes with their count ahead. -/
def textB (p : List UInt8) : List UInt8 := countB p.length ++ p

/-- The lowest k bytes of a number, the highest first. -/
def putB (n : Nat) : Nat → List UInt8
  | 0 => []
  | k + 1 => UInt8.ofNat (n / 256 ^ k % 256) :: putB n k
theorem putB_length (n k : Nat) : (putB n k).length = k := by
  induction k with
  | zero => rfl
  | succ k ih => simp [putB, ih]
theorem putB_step (n size i : Nat) (h : i < size) (b : UInt8) (hb : b = UInt8.ofNat (n / 256 ^ i % 256)) :
    (List.replicate (size - i) 0 ++ putB n i).set (size - 1 - i) b = List.replicate (size - (i + 1)) 0 ++ putB n (i + 1) := by
  obtain ⟨m, rfl⟩ : ∃ m, size = m + i + 1 := ⟨size - i - 1, by omega⟩
  rw [show m + i + 1 - i = m + 1 from by omega, show m + i + 1 - 1 - i = m from by omega, show m + i + 1 - (i + 1) = m from by omega]
  rw [List.replicate_succ', List.append_assoc, List.set_append_right _ _ (by simp)]
  simp [putB, hb]

/-- The number is one of 32 bits. -/
structure U32 (n : Nat) : Prop where
  lt : n < 4294967296
/-- One bit of the sum. -/
def crcBit (c : Nat) : Nat := if c % 2 = 1 then (c / 2) ^^^ 3988292384 else c / 2
def crcBits (c : Nat) : Nat → Nat
  | 0 => c
  | k + 1 => crcBit (crcBits c k)
def crcByte (c : Nat) (b : UInt8) : Nat := crcBits (c ^^^ b.toNat) 8
def crcFrom (c : Nat) (p : List UInt8) : Nat := p.foldl crcByte c
/-- The sum on the way. -/
def crcC (p : List UInt8) : Nat := crcFrom 4294967295 p
/-- The sum of bytes. -/
def crcB (p : List UInt8) : Nat := 4294967295 - crcC p
theorem crcBit_lt {c : Nat} (h : U32 c) : U32 (crcBit c) := by
  have := h.lt
  refine ⟨?_⟩
  unfold crcBit
  split
  · exact Nat.xor_lt_two_pow (n := 32) (by omega) (by omega)
  · omega
theorem crcBits_lt {c : Nat} (h : U32 c) (k : Nat) : U32 (crcBits c k) := by
  induction k with
  | zero => exact h
  | succ k ih => exact crcBit_lt ih
theorem crcXor_lt {c : Nat} (h : U32 c) (b : UInt8) : U32 (c ^^^ b.toNat) := by
  have := h.lt
  have := b.toNat_lt
  exact ⟨Nat.xor_lt_two_pow (n := 32) (by omega) (by omega)⟩
theorem crcByte_lt {c : Nat} (h : U32 c) (b : UInt8) : U32 (crcByte c b) := crcBits_lt (crcXor_lt h b) 8
theorem crcFrom_lt (p : List UInt8) : ∀ {c : Nat}, U32 c → U32 (crcFrom c p) := by
  induction p with
  | nil => intro c h; exact h
  | cons b p ih => intro c h; exact ih (crcByte_lt h b)
theorem crcFrom_snoc (c : Nat) (p : List UInt8) (b : UInt8) : crcFrom c (p ++ [b]) = crcByte (crcFrom c p) b := by
  simp [crcFrom]
theorem crcC_nil : crcC [] = 4294967295 := rfl
theorem crcC_snoc (p : List UInt8) (b : UInt8) : crcC (p ++ [b]) = crcByte (crcC p) b := crcFrom_snoc _ _ _
theorem crcC_lt (p : List UInt8) : U32 (crcC p) := crcFrom_lt p ⟨by omega⟩
theorem crcB_lt (p : List UInt8) : U32 (crcB p) := ⟨by unfold crcB; omega⟩

end Go.Proofs.YthfbfdkjgkkpcaaGreat

namespace Go.Proofs.YthfbfdkjgkkpcaaGreat
open Go Go.RowKit

theorem elU8 : Elem Tryz.prog 36 5 1 1 := ⟨by kernel_rfl, by omega, by
  obtain ⟨i, h1, h2, h3, h4⟩ := info_parts (P := Tryz.prog) (e := 5) (z := .int .u8 0) (size := 1) (bytes := 1) (by kernel_rfl)
  exact ⟨i, _, h1, h2, h3, h4, rfl⟩⟩

/-- Bytes in memory of the call's own come back. -/
def RetBy (w : World) (l : List UInt8) (e : Ending) (w' : World) : Prop := ∃ v, e = .returned v ∧ OwnBy w' w.heap.size v l ∧ Upd [] w w'
def CountRel (n : Nat) (w : World) (x v : Value) (wr : World) : Prop :=
  ∃ (m : Nat) (pre : List UInt8), x = .int .u64 m ∧ U64 m ∧ countB n = pre ++ countB m ∧ OwnBy wr w.heap.size v pre ∧ Upd [] w wr

theorem enc_of (n : Nat) (h : n < 256) : enc (UInt8.ofNat n) = .int .u8 (n : Int) := by
  unfold enc
  rw [UInt8.toNat_ofNat', Nat.mod_eq_of_lt (by omega)]
theorem or128 : ∀ y : Nat, y < 256 → bits .or .u8 (y : Int) 128 = ((128 + y % 128 : Nat) : Int) := by decide +kernel
theorem or128' (m : Nat) : bits .or .u8 ((m : Int) % 256) 128 = ((128 + m % 128 : Nat) : Int) := by
  have h := or128 (m % 256) (Nat.mod_lt _ (by omega))
  rw [show (((m % 256 : Nat)) : Int) = (m : Int) % 256 from by omega] at h
  rw [h]
  congr 2
  omega

theorem octet_Count (n : Nat) (hn : U64 n) (w : World) : Calls Tryz.prog 141 #[.int .u64 n] w (RetBy w (countB n)) := by
  go_enter Tryz.func141, Tryz.ntmps141
  go_wp2_with fail
  go_loopw [0, 3] (fun x v wr => CountRel n w x v wr) (fun x _ _ => (intOf x).toNat)
  case atStart => exact ⟨n, [], rfl, hn, rfl, World.ownsRow_nil _ _ _ _, Upd.refl _ _⟩
  case round =>
    obtain ⟨m, pre, rfl, hm, hc, hown, hU⟩ := hrel
    have hl : pre.length ≤ 10 := by
      have := countB_len10 hn
      rw [hc, List.length_append] at this
      omega
    have Hc := Lib.hid hc; clear hc
    by_cases h128 : 128 ≤ m
    · have h1 : (128 : Int) ≤ (m : Int) := by omega
      have hb := or128' m
      have Hb := Lib.hid hb; clear hb
      go_wp2_with (first
        | ((with_reducible show wpList _ _ _ (⟨_, .buildSlice _ _ _, _, _, _, _⟩ :: _) _ _); refine wpl_lit_byte (UInt8.ofNat (128 + m % 128)) elU8 rfl rfl ?_ ?_; rotate_right; intro v1 w1 hv1 hU1 hb1)
        | ((with_reducible show wpList _ _ _ (⟨_, .call ⟨.builtin .append, _, _⟩, _, _, _, _⟩ :: _) _ _); refine wpl_append_by elU8 rfl rfl (hU.trans0 hU1) (Own.upd0 hown hU1) rfl hv1.by rfl ?_ ?_; rotate_right; intro v2 w2 hv2 _ hU2 hb2))
      case roundEnd =>
        refine ⟨⟨m / 128, pre ++ [UInt8.ofNat (128 + m % 128)], ?_, ⟨?_⟩, ?_, hv2, hU2⟩, ?_⟩
        · go_num
        · have := hm.lt; omega
        · rw [Hc.out, countB_ge (by omega), List.append_assoc]; rfl
        · simp [intOf]; omega
      · simp; omega
      · rw [enc_of _ (by omega), ← Hb.out]; rfl
    · have h1 : (m : Int) < 128 := by omega
      have h2 : decide ((128 : Int) ≤ (m : Int)) = false := by simpa using h1
      clear h128
      go_wp2_with (first
        | ((with_reducible show wpList _ _ _ (⟨_, .buildSlice _ _ _, _, _, _, _⟩ :: _) _ _); refine wpl_lit_byte (UInt8.ofNat m) elU8 rfl rfl ?_ ?_; rotate_right; intro v1 w1 hv1 hU1 hb1)
        | ((with_reducible show wpList _ _ _ (⟨_, .call ⟨.builtin .append, _, _⟩, _, _, _, _⟩ :: _) _ _); refine wpl_append_by elU8 rfl rfl (hU.trans0 hU1) (Own.upd0 hown hU1) rfl hv1.by rfl ?_ ?_; rotate_right; intro v2 w2 hv2 _ hU2 hb2))
      · go_ret
        exact ⟨v2, rfl, by rw [Hc.out, countB_lt (by omega)]; exact hv2, hU2⟩
      · simp; omega
      · rw [enc_of _ (by omega)]; rfl

theorem octet_Text (p : Value) (l : List UInt8) (w : World) (hp : By w p l) (hl : l.length ≤ 1073741000) :
    Calls Tryz.prog 142 #[p] w (RetBy w (textB l)) := by
  obtain ⟨ao, cap, rfl⟩ := hp.val
  have hU : U64 l.length := ⟨by omega⟩
  go_enter Tryz.func142, Tryz.ntmps142
  go_wp2_with (first
    | (go_at_call 141; refine (octet_Count _ hU _).mono ?_; rintro e w1 ⟨v1, rfl, hv1, hU1⟩)
    | ((with_reducible show wpList _ _ _ (⟨_, .call ⟨.builtin .append, _, _⟩, _, _, _, _⟩ :: _) _ _); refine wpl_append_by elU8 rfl rfl hU1 hv1 rfl (hp.upd0 hU1) rfl ?_ ?_; rotate_right; intro v2 w2 hv2 _ hU2 hb2))
  · go_ret
    exact ⟨v2, rfl, hv2, hU2⟩
  · have := countB_len10 hU; omega
theorem zeroU8 : ∀ i, Tryz.prog.info? 5 = some i → i.zero = some (.int .u8 0) := by
  intro i hi
  obtain ⟨j, h1, h2, _⟩ := info_parts (P := Tryz.prog) (e := 5) (z := .int .u8 0) (size := 1) (bytes := 1) (by kernel_rfl)
  rw [hi] at h1
  cases h1
  exact h2

def PutRel (n size : Nat) (v : Value) (w : World) (i : Value) (wr : World) : Prop :=
  ∃ k : Nat, k ≤ size ∧ i = .int .i64 k ∧ OwnBy wr w.heap.size v (List.replicate (size - k) 0 ++ putB n k) ∧ Upd [] w wr

theorem put_byte (n k : Nat) : Value.int .u8 ((n : Int) / 2 ^ (8 * k) % 256) = enc (UInt8.ofNat (n / 256 ^ k % 256)) := by
  rw [enc_of _ (Nat.mod_lt _ (by omega))]
  have h : (256 : Nat) ^ k = 2 ^ (8 * k) := by rw [Nat.pow_mul]
  have e : ((n / 256 ^ k % 256 : Nat) : Int) = (n : Int) / 2 ^ (8 * k) % 256 := by
    rw [h, Int.natCast_emod, Int.natCast_ediv, Int.natCast_pow]
    rfl
  rw [e]

theorem octet_Put (n size : Nat) (hn : U64 n) (hs : size ≤ 8) (w : World) :
    Calls Tryz.prog 112 #[.int .u64 n, .int .i64 size] w (RetBy w (putB n size)) := by
  have t1 : decide ((size : Int) < 0) = false := by simp
  have t2 : decide ((8 : Int) < (size : Int)) = false := by simp; omega
  go_enter Tryz.func112, Tryz.ntmps112
  go_wp2_with ((with_reducible show wpList _ _ _ (⟨_, .makeSlice _ _ _, _, _, _, _⟩ :: _) _ _); refine wpl_make_by elU8 zeroU8 rfl rfl rfl rfl (by omega) ?_; intro v1 w1 hv1 hU1)
  go_loopw [6, 16] (fun _ i wr => PutRel n size v1 w i wr) (fun _ i _ => size - (intOf i).toNat)
  case atStart => exact ⟨0, by omega, rfl, by simpa [putB] using hv1, hU1⟩
  case round =>
    obtain ⟨k, hk, rfl, hown, hU⟩ := hrel
    have hl : (List.replicate (size - k) (0 : UInt8) ++ putB n k).length = size := by simp [putB_length]; omega
    have Hl := Lib.hid hl; clear hl
    by_cases hlt : k < size
    · have h1 : (k : Int) < (size : Int) := by omega
      go_wp2_with ((with_reducible show wpList _ _ _ (⟨_, .indexAddr _ _ _, _, _, _, _⟩ :: _) _ _); refine wpl_indexAddr_own elU8 rfl rfl hown rfl rfl ?_ ?_ ?_; rotate_right; intro ad hc hf hst)
      case roundEnd =>
        refine ⟨⟨k + 1, by omega, by go_num, ?_⟩, by simp [intOf]; omega⟩
        rw [put_byte]
        have h2 := hst (UInt8.ofNat (n / 256 ^ k % 256))
        rw [show ((size : Int) - 1 - (k : Int)).toNat = size - 1 - k from by omega, putB_step n size k hlt _ rfl] at h2
        exact ⟨h2.1, hU.own hown h2.2⟩
      · omega
      · rw [Hl.out]; omega
    · obtain rfl : k = size := by omega
      have h2 : decide ((k : Int) < (k : Int)) = false := by simp
      go_wp2_with fail
      go_ret
      exact ⟨v1, rfl, by simpa using hown, hU⟩
theorem crc_xor {c : Nat} (h : U32 c) (b : UInt8) : bits .xor .u32 (c : Int) ((b.toNat : Int) % 4294967296) = ((c ^^^ b.toNat : Nat) : Int) := by
  have := b.toNat_lt
  rw [show ((b.toNat : Int) % 4294967296) = ((b.toNat : Nat) : Int) from by omega]
  exact u32_xor_nat _ _ h.lt (by omega)
theorem crc_bit {c : Nat} (h : U32 c) : bits .xor .u32 ((c : Int) / 2) (bits .and .u32 3988292384 (-bits .and .u32 (c : Int) 1 % 4294967296)) = ((crcBit c : Nat) : Int) := by
  have hl := h.lt
  have e1 : bits .and .u32 (c : Int) 1 = ((c % 2 : Nat) : Int) := by
    have := u32_and_nat c 1 hl (by omega)
    rw [Nat.and_one_is_mod] at this
    exact this
  rw [e1, show ((c : Int) / 2) = ((c / 2 : Nat) : Int) from by omega]
  unfold crcBit
  rcases Nat.mod_two_eq_zero_or_one c with h0 | h0
  · rw [h0, if_neg (by omega)]
    have e2 : bits .and .u32 3988292384 (-((0 : Nat) : Int) % 4294967296) = ((0 : Nat) : Int) := by decide +kernel
    rw [e2, u32_xor_nat _ _ (by omega) (by omega)]
    simp
  · rw [h0, if_pos rfl]
    have e2 : bits .and .u32 3988292384 (-((1 : Nat) : Int) % 4294967296) = ((3988292384 : Nat) : Int) := by decide +kernel
    rw [e2, u32_xor_nat _ _ (by omega) (by omega)]
theorem crc_not {c : Nat} (h : U32 c) : bits .xor .u32 IntKind.u32.max (c : Int) = ((4294967295 - c : Nat) : Int) := by
  have e : IntKind.u32.max = ((4294967295 : Nat) : Int) := by decide +kernel
  have hl := h.lt
  rw [e, u32_xor_nat _ _ (by omega) hl]
  have h1 := congrArg BitVec.toNat (BitVec.allOnes_xor (x := BitVec.ofNat 32 c))
  rw [BitVec.toNat_xor, BitVec.toNat_allOnes, BitVec.toNat_not, BitVec.toNat_ofNat, Nat.mod_eq_of_lt (by omega)] at h1
  rw [show (4294967295 : Nat) = 2 ^ 32 - 1 from by decide, h1]

def CrcIn (c0 : Nat) (c i : Value) : Prop := ∃ k : Nat, k ≤ 8 ∧ i = .int .i64 k ∧ c = .int .u32 (crcBits c0 k : Nat)
def CrcOut (l : List UInt8) (c i : Value) : Prop := ∃ k : Nat, k ≤ l.length ∧ i = .int .i64 k ∧ c = .int .u32 (crcC (l.take k) : Nat)

theorem octet_Crc (p : Value) (l : List UInt8) (w : World) (hp : By w p l) :
    Calls Tryz.prog 126 #[p] w fun e w' => e = .returned (.int .u32 (crcB l : Nat)) ∧ w = w' := by
  obtain ⟨ao, cap, rfl⟩ := hp.val
  have hlen : l.length ≤ maxLen := hp.2.1
  have hlen : l.length ≤ 9223372036854775807 := hlen
  go_enter Tryz.func126, Tryz.ntmps126
  go_wp2_with fail
  go_loop [3, 8] (fun c i => CrcOut l c i) (fun _ i => l.length - (intOf i).toNat)
  case atStart => exact ⟨0, by omega, rfl, rfl⟩
  case round =>
    obtain ⟨k, hk, rfl, rfl⟩ := hrel
    have hc32 := crcC_lt (l.take k)
    by_cases hlt : k < l.length
    · have h1 : (k : Int) < (l.length : Int) := by omega
      have hsnoc : l.take (k + 1) = l.take k ++ [l[k]] := List.take_succ_eq_append_getElem hlt
      have Hs := Lib.hid hsnoc; clear hsnoc
      go_wp2_with ((with_reducible show wpList _ _ _ (⟨_, .indexAddr _ _ _, _, _, _, _⟩ :: _) _ _); refine wpl_indexAddr1 elU8 rfl rfl hp (by rfl) (by rfl) ?_ ?_ (enc l[k]) ?_ ?_; rotate_right; intro ad hc)
      · go_loop [3, 16] (fun c i => CrcIn (crcC (l.take k) ^^^ l[k].toNat) c i) (fun _ i => 8 - (intOf i).toNat)
        case atStart => exact ⟨0, by omega, rfl, by rw [crc_xor hc32]; rfl⟩
        case round =>
          obtain ⟨j, hj, rfl, rfl⟩ := hrel
          have hb32 := crcBits_lt (crcXor_lt hc32 l[k]) j
          obtain ⟨c, hcd⟩ : ∃ c, c = crcBits (crcC (l.take k) ^^^ l[k].toNat) j := ⟨_, rfl⟩
          rw [← hcd] at hb32 ⊢
          have Hcd := Lib.hid hcd; clear hcd
          by_cases hj8 : j < 8
          · have h8 : (j : Int) < 8 := by omega
            go_wp2_with fail
            refine ⟨⟨j + 1, by omega, by go_num, ?_⟩, by simp [intOf]; omega⟩
            rw [crc_bit hb32, Hcd.out]
            rfl
          · obtain rfl : j = 8 := by omega
            go_wp2_with fail
            refine ⟨⟨k + 1, by omega, by go_num, ?_⟩, by simp [intOf]; omega⟩
            rw [Hs.out, crcC_snoc, Hcd.out]
            rfl
    · obtain rfl : k = l.length := by omega
      go_wp2_with fail
      go_ret
      rw [List.take_length] at hc32
      refine ⟨?_, rfl⟩
      unfold crcB
      rw [← crc_not hc32]
      rfl
end Go.Proofs.YthfbfdkjgkkpcaaGreat

namespace Go.Proofs.YthfbfdkjgkkpcaaGreat
open Go Go.RowKit

/-- The entries of a map's array, as pairs. -/
def Ents (arr : List MapEntry) (es : List (List UInt8 × Value)) : Prop := arr.map (fun e => (e.key, e.val)) = es.map (fun p => (encS p.1, p.2))
structure MapW (w : World) (mb : Nat) (es : List (List UInt8 × Value)) : Prop where
  ex : ∃ (arr : Array MapEntry) (clock : Nat), w.heap[mb]? = some (.map arr clock) ∧ Ents arr.toList es ∧ (arr.toList.map (·.born)).Nodup ∧ (∀ b ∈ arr.toList.map (·.born), b < clock)
  nodup : (es.map (·.1)).Nodup

theorem MapW.lt {w : World} {mb : Nat} {es : List (List UInt8 × Value)} (h : MapW w mb es) : mb < w.heap.size := by
  obtain ⟨arr, clock, hb, _⟩ := h.ex
  exact lt_of_get hb
theorem MapW.upd {S : List Nat} {w w' : World} {mb : Nat} {es : List (List UInt8 × Value)} (h : MapW w mb es) (hU : Upd S w w') (hn : mb ∉ S) : MapW w' mb es := by
  obtain ⟨arr, clock, hb, r⟩ := h.ex
  exact ⟨⟨arr, clock, hU.get hb hn, r⟩, h.nodup⟩
theorem MapW.off {w : World} {mb : Nat} {es : List (List UInt8 × Value)} (h : MapW w mb es) {e : TypeId} {S : List Nat} (hS : Off w e S) : Off w e (mb :: S) := by
  obtain ⟨arr, clock, hb, _⟩ := h.ex
  exact Off.cons_map hb hS

theorem encS_inj {a b : List UInt8} (h : encS a = encS b) : a = b := by
  simp only [encS, Value.string.injEq, ByteArray.mk.injEq] at h
  simpa using congrArg Array.toList h
theorem beq_str (a b : List UInt8) : ((⟨a.toArray⟩ : ByteArray) == ⟨b.toArray⟩) = decide (a = b) := by
  rw [Bool.eq_iff_iff, Go.MapKept.bytes_beq, decide_eq_true_iff]
  constructor
  · intro h; exact encS_inj (congrArg Value.string h)
  · intro h; rw [h]

/-- Looking for a key among the entries. -/
theorem find_ents (k : List UInt8) : ∀ (arr : List MapEntry) (es : List (List UInt8 × Value)) (i : Nat), Ents arr es →
    (aget k es = none ∧ Instr.findNow .string (encS k) arr i = some none) ∨
    (∃ j v, aget k es = some v ∧ Instr.findNow .string (encS k) arr i = some (some (i + j, v)) ∧ ∃ e, arr[j]? = some e ∧ e.key = encS k ∧ e.val = v ∧
      (∀ v', Ents (arr.modify j fun e => { e with key := encS k, val := v' }) (aput k v' es)) ∧ Ents (arr.eraseIdx j) (adel k es)) := by
  intro arr
  induction arr with
  | nil =>
    intro es i h
    cases es with
    | nil => exact .inl ⟨rfl, rfl⟩
    | cons p r => simp [Ents] at h
  | cons e arr ih =>
    intro es i h
    cases es with
    | nil => simp [Ents] at h
    | cons p r =>
      simp only [Ents, List.map_cons, List.cons.injEq, Prod.mk.injEq] at h
      obtain ⟨⟨h1, h2⟩, h3⟩ := h
      have hs : Instr.sameNow .string (encS k) e.key = some (decide (k = p.1)) := by
        rw [h1]; simp only [Instr.sameNow, beq_str]
      by_cases hk : p.1 = k
      · right
        refine ⟨0, e.val, by simp [aget, hk, h2], ?_, e, rfl, by rw [h1, hk], rfl, ?_, ?_⟩
        · simp [Instr.findNow, hs, hk]
        · intro v'
          simp [Ents, List.modify, aput, hk, h3]
        · simp [Ents, adel, hk, h3]
      · have hs' : Instr.sameNow .string (encS k) e.key = some false := by rw [hs]; simp; exact fun h => hk h.symm
        rcases ih r (i + 1) h3 with ⟨g1, g2⟩ | ⟨j, v, g1, g2, e', g3, g4, g5, g6, g7⟩
        · left
          refine ⟨by simp [aget, hk, g1], ?_⟩
          simp only [Instr.findNow, hs']
          exact g2
        · right
          refine ⟨j + 1, v, by simp [aget, hk, g1], ?_, e', by simpa using g3, g4, g5, ?_, ?_⟩
          · simp only [Instr.findNow, hs', g2]
            congr 3
            omega
          · intro v'
            have := g6 v'
            simp only [Ents, List.modify_succ_cons, List.map_cons, aput, if_neg hk] at this ⊢
            rw [this, h1, h2]
          · simp only [Ents, List.eraseIdx_cons_succ, List.map_cons, adel, if_neg hk] at g7 ⊢
            rw [g7, h1, h2]

/-- M is a type of maps keyed by strings, V that of its elements, whose zero value is z. -/
structure MapT (P : Program) (M V : Nat) (z : Value) : Prop where
  ex : ∃ K, P.underlying M = some (.map K V) ∧ P.underlying K = some .string
  zero : ∃ i, P.info? V = some i ∧ i.zero = some z

section
variable {P : Program} {ops : Array Oper} {Q : Exit → Act → World → Prop} {a : Act} {w : World} {rest : List Oper} {o : Oper}

theorem run_checkKey_s {K : Nat} (hK : P.underlying K = some .string) (b : Bool) (d : Nat) (k : List UInt8) (w : World) : (Instr.checkKey b (d + 1) K (encS k)).run P w = .ok () w := by
  simp [Instr.checkKey, run_underlying hK, Result.andThen]
theorem run_findKey_s {K : Nat} (hK : P.underlying K = some .string) (k : List UInt8) {arr : List MapEntry} {r : Option (Nat × Value)} (h : Instr.findNow .string (encS k) arr 0 = some r) (w : World) :
    (Instr.findKey K (encS k) arr).run P w = .ok r w := by
  simp [Instr.findKey, run_underlying hK, Result.andThen, h]

theorem run_lookup_s {M V : Nat} {z : Value} (hM : MapT P M V z) {mb : Nat} {es : List (List UInt8 × Value)} (h : MapW w mb es) (k : List UInt8) (ok : Bool) :
    (Instr.lookup M (.map (some mb)) (encS k) ok).run P w = .ok (if ok then .tuple #[(aget k es).getD z, .bool (aget k es).isSome] else (aget k es).getD z) w := by
  obtain ⟨K, hu, hK⟩ := hM.ex
  obtain ⟨i, hi, hz⟩ := hM.zero
  obtain ⟨arr, clock, hb, he, _⟩ := h.ex
  have hc := run_checkKey_s hK arr.isEmpty 9999 k w
  have hg : (getObj mb).run P w = .ok (.map arr clock) w := MapKept.run_getObj_map hb
  rcases find_ents k arr.toList es 0 he with ⟨g1, g2⟩ | ⟨j, v, g1, g2, _⟩
  · have hf := run_findKey_s (P := P) hK k g2 w
    rw [g1]
    cases ok <;> simp [Instr.lookup, run_underlying hu, hg, hc, hf, Result.andThen, zeroValue, typeInfo, hi, hz]
  · have hf := run_findKey_s (P := P) hK k g2 w
    rw [g1]
    cases ok <;> simp [Instr.lookup, run_underlying hu, hg, hc, hf, Result.andThen]

/-- m[k]. -/
theorem wpl_lookup {M V : Nat} {z : Value} (hM : MapT P M V z) (hw : Region.wanted o (yielded ops a.tmps) = true) {m x : Operand} (ho : o.op = .lookup M m x false)
    {mb : Nat} {es : List (List UInt8 × Value)} (h : MapW w mb es) (hm : a.eval m = .map (some mb)) (k : List UInt8) (hk : a.eval x = encS k)
    (v : Value) (hv : (aget k es).getD z = v) (hK : wpList P ops Q rest (a.put o.dst v) w) : wpList P ops Q (o :: rest) a w := by
  subst hv
  refine wpl_run hw ?_ hK
  simp [execOp, ho, hm, hk, run_lookup_s hM h, Result.andThen]
/-- v, ok := m[k]. -/
theorem wpl_lookup_ok {M V : Nat} {z : Value} (hM : MapT P M V z) (hw : Region.wanted o (yielded ops a.tmps) = true) {m x : Operand} (ho : o.op = .lookup M m x true)
    {mb : Nat} {es : List (List UInt8 × Value)} (h : MapW w mb es) (hm : a.eval m = .map (some mb)) (k : List UInt8) (hk : a.eval x = encS k)
    (v : Value) (hv : (aget k es).getD z = v) (b : Bool) (hb : (aget k es).isSome = b) (hK : wpList P ops Q rest (a.put o.dst (.tuple #[v, .bool b])) w) : wpList P ops Q (o :: rest) a w := by
  subst hv
  subst hb
  refine wpl_run hw ?_ hK
  simp [execOp, ho, hm, hk, run_lookup_s hM h, Result.andThen]

theorem aput_keys {α : Type} (k : List UInt8) (v : α) (es : List (List UInt8 × α)) : (aput k v es).map (·.1) = if (aget k es).isSome then es.map (·.1) else es.map (·.1) ++ [k] := by
  induction es with
  | nil => simp [aput, aget]
  | cons p r ih =>
    by_cases h : p.1 = k
    · simp [aput, aget, h]
    · simp only [aput, aget, if_neg h, List.map_cons, ih]
      split <;> simp
theorem aput_nodup {α : Type} (k : List UInt8) (v : α) {es : List (List UInt8 × α)} (h : (es.map (·.1)).Nodup) : ((aput k v es).map (·.1)).Nodup := by
  rw [aput_keys]
  split
  · exact h
  · rename_i hn
    have hn' : aget k es = none := by simpa using hn
    rw [List.nodup_append]
    refine ⟨h, by simp, ?_⟩
    intro x hx y hy e
    simp only [List.mem_singleton] at hy
    exact aget_none.1 hn' (hy ▸ e ▸ hx)
theorem adel_sublist {α : Type} (k : List UInt8) (es : List (List UInt8 × α)) : (adel k es).Sublist es := by
  induction es with
  | nil => exact List.Sublist.refl _
  | cons p r ih =>
    by_cases h : p.1 = k
    · simp only [adel, if_pos h]; exact List.sublist_cons_self _ _
    · simp only [adel, if_neg h]; exact ih.cons_cons _
theorem adel_none {α : Type} {k : List UInt8} {es : List (List UInt8 × α)} (h : aget k es = none) : adel k es = es := by
  induction es with
  | nil => rfl
  | cons p r ih =>
    by_cases hp : p.1 = k
    · simp [aget, hp] at h
    · simp only [aget, if_neg hp] at h
      simp only [adel, if_neg hp, ih h]
theorem aput_none {α : Type} {k : List UInt8} {v : α} {es : List (List UInt8 × α)} (h : aget k es = none) : aput k v es = es ++ [(k, v)] := by
  induction es with
  | nil => rfl
  | cons p r ih =>
    by_cases hp : p.1 = k
    · simp [aget, hp] at h
    · simp only [aget, if_neg hp] at h
      simp only [aput, if_neg hp, ih h, List.cons_append]

theorem setMap_upd {mb : Nat} {arr : Array MapEntry} {clock : Nat} (hb : w.heap[mb]? = some (.map arr clock)) (o' : Obj) : Upd [mb] w { w with heap := w.heap.setIfInBounds mb o' } := by
  refine ⟨rfl, rfl, rfl, by simp, fun k hk hn => ?_⟩
  simp only [Array.getElem?_setIfInBounds]
  rw [if_neg (by simp at hn; omega)]
theorem setMap_get {mb : Nat} {arr : Array MapEntry} {clock : Nat} (hb : w.heap[mb]? = some (.map arr clock)) (o' : Obj) : ({ w with heap := w.heap.setIfInBounds mb o' } : World).heap[mb]? = some o' := by
  have := lt_of_get hb
  simp [this]

theorem mapw_set {mb : Nat} {arr arr' : Array MapEntry} {clock clock' : Nat} {es' : List (List UInt8 × Value)} (hb : w.heap[mb]? = some (.map arr clock)) (he : Ents arr'.toList es') (hn : (arr'.toList.map (·.born)).Nodup)
    (hl : ∀ b ∈ arr'.toList.map (·.born), b < clock') (hd : (es'.map (·.1)).Nodup) :
    MapW { w with heap := w.heap.setIfInBounds mb (.map arr' clock') } mb es' ∧ Upd [mb] w { w with heap := w.heap.setIfInBounds mb (.map arr' clock') } :=
  ⟨⟨⟨arr', clock', setMap_get hb _, he, hn, hl⟩, hd⟩, setMap_upd hb _⟩
theorem born_modify (f : MapEntry → MapEntry) (hf : ∀ e, (f e).born = e.born) : ∀ (l : List MapEntry) (j : Nat), (l.modify j f).map (·.born) = l.map (·.born) := by
  intro l
  induction l with
  | nil => intro j; simp
  | cons e l ih =>
    intro j
    cases j with
    | zero => simp [List.modify_zero_cons, hf]
    | succ j => simp [List.modify_succ_cons, ih]

theorem run_mapUpdate_s {M V : Nat} {z : Value} (hM : MapT P M V z) {mb : Nat} {es : List (List UInt8 × Value)} (h : MapW w mb es) (k : List UInt8) (v : Value) :
    ∃ w', (Instr.mapUpdate M (.map (some mb)) (encS k) v).run P w = .ok () w' ∧ MapW w' mb (aput k v es) ∧ Upd [mb] w w' := by
  obtain ⟨K, hu, hK⟩ := hM.ex
  obtain ⟨arr, clock, hb, he, hbn, hbl⟩ := h.ex
  have hc := run_checkKey_s hK false 9999 k w
  have hg : (getObj mb).run P w = .ok (.map arr clock) w := MapKept.run_getObj_map hb
  rcases find_ents k arr.toList es 0 he with ⟨g1, g2⟩ | ⟨j, v0, g1, g2, e', g3, g4, g5, g6, g7⟩
  · have hf := run_findKey_s (P := P) hK k g2 w
    have hs := MapKept.run_setObj_map (P := P) (w := w) (.map (arr.push { key := encS k, val := v, born := clock }) (clock + 1)) hb
    have hW := mapw_set (w := w) (arr' := arr.push { key := encS k, val := v, born := clock }) (clock' := clock + 1) (es' := aput k v es) hb (by
      rw [aput_none g1]
      simp only [Ents, Array.toList_push, List.map_append, List.map_cons, List.map_nil] at he ⊢
      rw [he]) (by
      simp only [Array.toList_push, List.map_append, List.map_cons, List.map_nil]
      rw [List.nodup_append]
      refine ⟨hbn, by simp, ?_⟩
      intro x hx y hy e
      simp only [List.mem_singleton] at hy
      have := hbl x hx
      omega) (by
      intro b hb'
      simp only [Array.toList_push, List.map_append, List.map_cons, List.map_nil, List.mem_append, List.mem_singleton] at hb'
      rcases hb' with hb' | rfl
      · have := hbl b hb'; omega
      · exact Nat.lt_succ_self _) (aput_nodup k v h.nodup)
    exact ⟨_, by simp [Instr.mapUpdate, run_underlying hu, hg, hc, hf, hs, Result.andThen], hW⟩
  · have hf := run_findKey_s (P := P) hK k g2 w
    have hj : arr[j]? = some e' := by simpa using g3
    rw [Nat.zero_add] at hf
    have hks : (Instr.keyThatStays (encS k) (encS k)).run P w = .ok (encS k) w := by
      have hb : ((⟨k.toArray⟩ : ByteArray) == ⟨k.toArray⟩) = true := by rw [beq_str]; simp
      simp [Instr.keyThatStays, Instr.sameBits, hb]
    have hs := MapKept.run_setObj_map (P := P) (w := w) (.map (arr.modify j fun e => { e with key := encS k, val := v }) clock) hb
    have hbm := born_modify (fun e => { e with key := encS k, val := v }) (fun _ => rfl) arr.toList j
    have hW := mapw_set (w := w) (arr' := arr.modify j fun e => { e with key := encS k, val := v }) (clock' := clock) (es' := aput k v es) hb
      (by rw [Array.toList_modify]; exact g6 v) (by rw [Array.toList_modify, hbm]; exact hbn) (by rw [Array.toList_modify, hbm]; exact hbl) (aput_nodup k v h.nodup)
    exact ⟨_, by simp [Instr.mapUpdate, run_underlying hu, hg, hc, hf, hj, g4, hks, hs, Result.andThen], hW⟩

theorem wpl_mapUpdate {M V : Nat} {z : Value} (hM : MapT P M V z) (hw : Region.wanted o (yielded ops a.tmps) = true) {m x y : Operand} (ho : o.op = .mapUpdate M m x y)
    {mb : Nat} {es : List (List UInt8 × Value)} (h : MapW w mb es) (hm : a.eval m = .map (some mb)) (k : List UInt8) (hk : a.eval x = encS k) {v : Value} (hv : a.eval y = v)
    (hK : ∀ w', MapW w' mb (aput k v es) → Upd [mb] w w' → wpList P ops Q rest (a.put o.dst undef) w') : wpList P ops Q (o :: rest) a w := by
  obtain ⟨w', hr, h1, h2⟩ := run_mapUpdate_s hM h k v
  refine wpl_skip hw (w' := w') ?_ (hK w' h1 h2)
  simp [execOp, ho, hm, hk, hv, hr, Result.andThen]

theorem run_delete_s {M V ty : Nat} {z : Value} (hM : MapT P M V z) {K : Nat} {mb : Nat} {es : List (List UInt8 × Value)} (h : MapW w mb es) (k : List UInt8) :
    ∃ w', (Builtin.delete_ #[M, K] ty #[.map (some mb), encS k]).run P w = .ok (.tuple #[]) w' ∧ MapW w' mb (adel k es) ∧ Upd [mb] w w' := by
  obtain ⟨K', hu, hK⟩ := hM.ex
  obtain ⟨arr, clock, hb, he, hbn, hbl⟩ := h.ex
  have hc := run_checkKey_s hK arr.isEmpty 9999 k w
  have hg : (getObj mb).run P w = .ok (.map arr clock) w := MapKept.run_getObj_map hb
  have hnd : ((adel k es).map (·.1)).Nodup := h.nodup.sublist ((adel_sublist k es).map _)
  rcases find_ents k arr.toList es 0 he with ⟨g1, g2⟩ | ⟨j, v0, g1, g2, e', g3, g4, g5, g6, g7⟩
  · have hf := run_findKey_s (P := P) hK k g2 w
    have hs := MapKept.run_setObj_map (P := P) (w := w) (.map arr clock) hb
    have hW := mapw_set (w := w) (arr' := arr) (clock' := clock) (es' := adel k es) hb (by rw [adel_none g1]; exact he) hbn hbl hnd
    exact ⟨_, by simp [Builtin.delete_, run_underlying hu, hg, hc, hf, hs, Result.andThen], hW⟩
  · have hf := run_findKey_s (P := P) hK k g2 w
    rw [Nat.zero_add] at hf
    have hs := MapKept.run_setObj_map (P := P) (w := w) (.map (arr.eraseIdxIfInBounds j) clock) hb
    have e1 : (arr.eraseIdxIfInBounds j).toList = arr.toList.eraseIdx j := by
      unfold Array.eraseIdxIfInBounds
      split
      · simp
      · rename_i hn
        rw [List.eraseIdx_of_length_le (by simpa using hn)]
    have hsub : ((arr.toList.eraseIdx j).map (·.born)).Sublist (arr.toList.map (·.born)) := (List.eraseIdx_sublist _ _).map _
    have hW := mapw_set (w := w) (arr' := arr.eraseIdxIfInBounds j) (clock' := clock) (es' := adel k es) hb (by rw [e1]; exact g7) (by rw [e1]; exact hbn.sublist hsub) (by rw [e1]; exact fun b hb' => hbl b (hsub.subset hb')) hnd
    exact ⟨_, by simp [Builtin.delete_, run_underlying hu, hg, hc, hf, hs, Result.andThen], hW⟩

theorem wpl_delete {M V K : Nat} {z : Value} (hM : MapT P M V z) (hw : Region.wanted o (yielded ops a.tmps) = true) {m x : Operand} (ho : o.op = .call { callee := .builtin .delete, args := #[m, x], argTypes := #[M, K] })
    {mb : Nat} {es : List (List UInt8 × Value)} (h : MapW w mb es) (hm : a.eval m = .map (some mb)) (k : List UInt8) (hk : a.eval x = encS k)
    (hK : ∀ w', MapW w' mb (adel k es) → Upd [mb] w w' → wpList P ops Q rest (a.put o.dst (.tuple #[])) w') : wpList P ops Q (o :: rest) a w := by
  obtain ⟨w', hr, h1, h2⟩ := run_delete_s (ty := o.type) (K := K) hM h k
  refine wpl_run hw (w' := w') ?_ (hK w' h1 h2)
  simp [execOp, ho, resolve, invoke, builtin, hm, hk, hr, Result.andThen]

theorem ents_length {arr : List MapEntry} {es : List (List UInt8 × Value)} (h : Ents arr es) : arr.length = es.length := by
  have := congrArg List.length h
  simpa using this
theorem wpl_len {M V : Nat} {z : Value} (hM : MapT P M V z) (hw : Region.wanted o (yielded ops a.tmps) = true) {m : Operand} (ho : o.op = .call { callee := .builtin .len, args := #[m], argTypes := #[M] })
    {mb : Nat} {es : List (List UInt8 × Value)} (h : MapW w mb es) (hm : a.eval m = .map (some mb))
    (hK : wpList P ops Q rest (a.put o.dst (.int .i64 es.length)) w) : wpList P ops Q (o :: rest) a w := by
  obtain ⟨arr, clock, hb, he, _⟩ := h.ex
  have hg : (getObj mb).run P w = .ok (.map arr clock) w := MapKept.run_getObj_map hb
  have hl : arr.size = es.length := by rw [← ents_length he]; simp
  obtain ⟨K', hu, hK'⟩ := hM.ex
  refine wpl_run hw (w' := w) ?_ hK
  simp [execOp, ho, resolve, invoke, builtin, Builtin.len_, hm, run_underlying hu, hg, hl, Result.andThen, goInt]
end
end Go.Proofs.YthfbfdkjgkkpcaaGreat

namespace Go.Proofs.YthfbfdkjgkkpcaaGreat
open Go Go.RowKit

/-- Two lists, member by member. -/
inductive All2 {α β : Type} (R : α → β → Prop) : List α → List β → Prop
  | nil : All2 R [] []
  | cons {a : α} {b : β} {l : List α} {m : List β} (h : R a b) (t : All2 R l m) : All2 R (a :: l) (b :: m)

/-- Pairs of names and byte slices read as pairs of names and bytes. -/
def Vals (w : World) (es : List (List UInt8 × Value)) (m : List (List UInt8 × List UInt8)) : Prop := All2 (fun p q => p.1 = q.1 ∧ By w p.2 q.2) es m
theorem Vals.upd {S : List Nat} {w w' : World} {es : List (List UInt8 × Value)} {m : List (List UInt8 × List UInt8)} (h : Vals w es m) (hU : Upd S w w') (hS : Off w 5 S) : Vals w' es m := by
  induction h with
  | nil => exact .nil
  | cons h1 _ ih => exact .cons ⟨h1.1, h1.2.upd hU hS⟩ ih
theorem Vals.get {w : World} {es : List (List UInt8 × Value)} {m : List (List UInt8 × List UInt8)} (h : Vals w es m) (k : List UInt8) :
    (aget k es = none ∧ aget k m = none) ∨ ∃ v l, aget k es = some v ∧ aget k m = some l ∧ By w v l := by
  induction h with
  | nil => exact .inl ⟨rfl, rfl⟩
  | @cons p q es m h1 _ ih =>
    by_cases hk : p.1 = k
    · exact .inr ⟨p.2, q.2, by simp [aget, hk], by simp [aget, ← h1.1, hk], h1.2⟩
    · rw [show aget k (p :: es) = aget k es from by simp [aget, hk], show aget k (q :: m) = aget k m from by simp [aget, ← h1.1, hk]]
      exact ih
theorem Vals.keys {w : World} {es : List (List UInt8 × Value)} {m : List (List UInt8 × List UInt8)} (h : Vals w es m) : es.map (·.1) = m.map (·.1) := by
  induction h with
  | nil => rfl
  | cons h1 _ ih => simp [h1.1, ih]
theorem Vals.put {w : World} {es : List (List UInt8 × Value)} {m : List (List UInt8 × List UInt8)} (h : Vals w es m) (k : List UInt8) {v : Value} {l : List UInt8} (hv : By w v l) : Vals w (aput k v es) (aput k l m) := by
  induction h with
  | nil => exact .cons ⟨rfl, hv⟩ .nil
  | @cons p q es m h1 h2 ih =>
    by_cases hk : p.1 = k
    · rw [show aput k v (p :: es) = (k, v) :: es from by simp [aput, hk], show aput k l (q :: m) = (k, l) :: m from by simp [aput, ← h1.1, hk]]
      exact .cons ⟨rfl, hv⟩ h2
    · rw [show aput k v (p :: es) = p :: aput k v es from by simp [aput, hk], show aput k l (q :: m) = q :: aput k l m from by simp [aput, ← h1.1, hk]]
      exact .cons h1 ih
theorem Vals.del {w : World} {es : List (List UInt8 × Value)} {m : List (List UInt8 × List UInt8)} (h : Vals w es m) (k : List UInt8) : Vals w (adel k es) (adel k m) := by
  induction h with
  | nil => exact .nil
  | @cons p q es m h1 h2 ih =>
    by_cases hk : p.1 = k
    · rw [show adel k (p :: es) = es from by simp [adel, hk], show adel k (q :: m) = m from by simp [adel, ← h1.1, hk]]
      exact h2
    · rw [show adel k (p :: es) = p :: adel k es from by simp [adel, hk], show adel k (q :: m) = q :: adel k m from by simp [adel, ← h1.1, hk]]
      exact .cons h1 ih

/-- A block is a map of names to bytes: in some order the pairs of m. -/
def MapB (w : World) (mb : Nat) (m : List (List UInt8 × List UInt8)) : Prop := ∃ es m', MapW w mb es ∧ Vals w es m' ∧ m'.Perm m
theorem MapB.upd {S : List Nat} {w w' : World} {mb : Nat} {m : List (List UInt8 × List UInt8)} (h : MapB w mb m) (hU : Upd S w w') (hS : Off w 5 S) (hn : mb ∉ S) : MapB w' mb m := by
  obtain ⟨es, m', h1, h2, h3⟩ := h
  exact ⟨es, m', h1.upd hU hn, h2.upd hU hS, h3⟩

theorem MapB.nodup {w : World} {mb : Nat} {m : List (List UInt8 × List UInt8)} (h : MapB w mb m) : (m.map (·.1)).Nodup := by
  obtain ⟨es, m', h1, h2, h3⟩ := h
  rw [← (h3.map _).nodup_iff, ← h2.keys]
  exact h1.nodup
theorem MapB.lt {w : World} {mb : Nat} {m : List (List UInt8 × List UInt8)} (h : MapB w mb m) : mb < w.heap.size := by
  obtain ⟨es, m', h1, _⟩ := h
  exact h1.lt
theorem MapB.off {w : World} {mb : Nat} {m : List (List UInt8 × List UInt8)} (h : MapB w mb m) {e : TypeId} {S : List Nat} (hS : Off w e S) : Off w e (mb :: S) := by
  obtain ⟨es, m', h1, _⟩ := h
  exact h1.off hS
theorem MapB.perm {w : World} {mb : Nat} {m m1 : List (List UInt8 × List UInt8)} (h : MapB w mb m) (hp : m.Perm m1) : MapB w mb m1 := by
  obtain ⟨es, m', h1, h2, h3⟩ := h
  exact ⟨es, m', h1, h2, h3.trans hp⟩
/-- Behind a store of bytes at a key. -/
theorem MapB.put {w w' : World} {mb : Nat} {es : List (List UInt8 × Value)} {m' m : List (List UInt8 × List UInt8)} (h2 : Vals w es m') (h3 : m'.Perm m) (hn : (m.map (·.1)).Nodup) {k : List UInt8} {v : Value} {l : List UInt8}
    (hv : By w v l) (hW : MapW w' mb (aput k v es)) (hU : Upd [mb] w w') (hoff : Off w 5 [mb]) : MapB w' mb (fput k l m) := by
  have hn' : (m'.map (·.1)).Nodup := (h3.map _).nodup_iff.2 hn
  exact ⟨_, _, hW, (h2.put k hv).upd hU hoff, (aput_perm hn').trans (fput_perm_of h3)⟩
theorem MapB.del {w w' : World} {mb : Nat} {es : List (List UInt8 × Value)} {m' m : List (List UInt8 × List UInt8)} (h2 : Vals w es m') (h3 : m'.Perm m) (hn : (m.map (·.1)).Nodup) {k : List UInt8}
    (hW : MapW w' mb (adel k es)) (hU : Upd [mb] w w') (hoff : Off w 5 [mb]) : MapB w' mb (fdel k m) := by
  have hn' : (m'.map (·.1)).Nodup := (h3.map _).nodup_iff.2 hn
  exact ⟨_, _, hW, (h2.del k).upd hU hoff, by rw [adel_eq hn']; exact fdel_perm h3⟩

theorem mapFiles : MapT Tryz.prog 113 36 (.slice none 0 0) := ⟨⟨9, by kernel_rfl, by kernel_rfl⟩, by
  obtain ⟨i, h1, h2, _⟩ := info_parts (P := Tryz.prog) (e := 36) (z := .slice none 0 0) (size := 1) (bytes := 24) (by kernel_rfl)
  exact ⟨i, h1, h2⟩⟩

/-- A change as a value. -/
abbrev chgV (c : Chg) (pv : Value) : Value := .agg #[.int .i64 c.kind, encS c.a, encS c.b, pv]

theorem Vals.getD {w : World} {es : List (List UInt8 × Value)} {m : List (List UInt8 × List UInt8)} (h : Vals w es m) (k : List UInt8) : By w ((aget k es).getD (.slice none 0 0)) ((aget k m).getD []) := by
  rcases h.get k with ⟨h1, h2⟩ | ⟨v, l, h1, h2, h3⟩
  · rw [h1, h2]; exact Rd.nil _ _ _
  · rw [h1, h2]; exact h3

/-- What a change done to a map of files leaves. -/
def DoPost (w : World) (mb : Nat) (m : List (List UInt8 × List UInt8)) (e : Ending) (w' : World) : Prop := e = .returned (.tuple #[]) ∧ MapB w' mb m ∧ Upd [mb] w w'

theorem files_do_0 (w : World) (mb : Nat) (m : List (List UInt8 × List UInt8)) (h : MapB w mb m) (a b : List UInt8) (pv : Value) :
    Calls Tryz.prog 119 #[.map (some mb), .agg #[.int .i64 0, encS a, encS b, pv]] w (DoPost w mb (fput a [] m)) := by
  obtain ⟨es, m', h1, h2, h3⟩ := h
  have hn : (m.map (·.1)).Nodup := MapB.nodup ⟨es, m', h1, h2, h3⟩
  have hoff : Off w 5 [mb] := h1.off (Off.nil _ _)
  go_enter Tryz.func119, Tryz.ntmps119
  go_wp2_with ((with_reducible show wpList _ _ _ (⟨_, .mapUpdate _ _ _ _, _, _, _, _⟩ :: _) _ _); refine wpl_mapUpdate mapFiles rfl rfl (h1.upd (Upd.alloc [] _ _) (by simp)) rfl a rfl rfl ?_; intro w1 hW hU)
  go_end0
  have hU1 : Upd [mb] w w1 := (Upd.alloc [mb] w _).trans hU (fun i hi _ => hi)
  exact ⟨rfl, MapB.put h2 h3 hn (Rd.nil _ _ _) hW hU1 hoff, hU1⟩

theorem files_do_2 (w : World) (mb : Nat) (m : List (List UInt8 × List UInt8)) (h : MapB w mb m) (a b : List UInt8) (pv : Value) :
    Calls Tryz.prog 119 #[.map (some mb), .agg #[.int .i64 2, encS a, encS b, pv]] w (DoPost w mb (fdel a m)) := by
  obtain ⟨es, m', h1, h2, h3⟩ := h
  have hn : (m.map (·.1)).Nodup := MapB.nodup ⟨es, m', h1, h2, h3⟩
  have hoff : Off w 5 [mb] := h1.off (Off.nil _ _)
  go_enter Tryz.func119, Tryz.ntmps119
  go_wp2_with ((with_reducible show wpList _ _ _ (⟨_, .call ⟨.builtin .delete, _, _⟩, _, _, _, _⟩ :: _) _ _); refine wpl_delete mapFiles rfl rfl (h1.upd (Upd.alloc [] _ _) (by simp)) rfl a rfl ?_; intro w1 hW hU)
  go_end0
  have hU1 : Upd [mb] w w1 := (Upd.alloc [mb] w _).trans hU (fun i hi _ => hi)
  exact ⟨rfl, MapB.del h2 h3 hn hW hU1 hoff, hU1⟩

set_option maxRecDepth 100000 in
theorem files_do_1 (w : World) (mb : Nat) (m : List (List UInt8 × List UInt8)) (h : MapB w mb m) (a b p : List UInt8) (pv : Value) (hp : By w pv p) (hb : ((aget a m).getD []).length + p.length ≤ 1073741824) :
    Calls Tryz.prog 119 #[.map (some mb), .agg #[.int .i64 1, encS a, encS b, pv]] w (DoPost w mb (fput a ((aget a m).getD [] ++ p) m)) := by
  obtain ⟨es, m', h1, h2, h3⟩ := h
  have hn : (m.map (·.1)).Nodup := MapB.nodup ⟨es, m', h1, h2, h3⟩
  have hoff : Off w 5 [mb] := h1.off (Off.nil _ _)
  have hv := h2.getD a
  have hag : aget a m' = aget a m := aget_perm h3 ((h3.map _).nodup_iff.2 hn)
  rw [hag] at hv
  generalize hl0 : (aget a m).getD [] = l0 at *
  obtain ⟨ao, cap, hsh⟩ := hv.val
  have hcap : l0.length ≤ cap := by
    obtain ⟨ao', cap', h5, h6⟩ := Rd.shape hv
    rw [hsh] at h5
    cases h5
    exact h6
  have HSH := Lib.hid hsh
  rw [hsh] at hv
  clear hsh
  have Hl0 := Lib.hid hl0; clear hl0 hag
  obtain ⟨aop, capp, rfl⟩ := hp.val
  go_enter Tryz.func119, Tryz.ntmps119
  go_wp2_with ((with_reducible show wpList _ _ _ (⟨_, .lookup _ _ _ _, _, _, _, _⟩ :: _) _ _); refine wpl_lookup mapFiles rfl rfl (h1.upd (Upd.alloc [] _ _) (by simp)) rfl a rfl _ HSH.out ?_)
  have hU0 : Upd [] w ((w.alloc (Obj.cells #[Value.int IntKind.i64 1, encS a, encS b, Value.slice aop p.length capp] 190)).drew) := (Upd.alloc [] _ _).trans0 (Upd.drew [] _)
  have hl : Rd w 5 1 (.slice ao l0.length l0.length) l0.length (l0.map enc) := by
    have := run_cut elU8 hv 0 l0.length l0.length (by omega) (by omega) (by omega) hcap
    simp only [Nat.zero_mul, Nat.mul_one, List.drop_zero, Nat.sub_zero] at this
    rw [List.take_of_length_le (by simp)] at this
    have e : (if l0.length = 0 then ao else ao.map (·.add 0)) = ao := by split <;> simp [Addr.add]
    rw [e] at this
    exact this
  obtain ⟨v1, w1, hr1, hv1, hU1⟩ := run_append_full (P := Tryz.prog) (ty := 36) elU8 (hl.upd0 hU0) (hp.upd0 hU0) (by unfold maxLen; omega) (by omega)
  rw [← List.map_append, ← List.length_append] at hv1
  have hU01 := hU0.trans0 hU1
  obtain ⟨w2, hr2, hW2, hU2⟩ := run_mapUpdate_s mapFiles (h1.upd hU01 (by simp)) a v1
  have hUall : Upd [mb] w w2 := (hU01.mono (T := [mb]) (by simp)).trans hU2 (fun i hi _ => hi)
  have hcut : ∀ W, (Instr.sliceAt 36 (.slice ao l0.length cap) none (some (.int .i64 l0.length)) (some (.int .i64 l0.length))).run Tryz.prog W = .ok (.slice ao l0.length l0.length) W := by
    intro W
    have b1 := run_bound (P := Tryz.prog) (k := .i64) l0.length cap .slice3Acap W (by omega) (by omega)
    have b2 := run_bound (P := Tryz.prog) (k := .i64) l0.length l0.length .slice3B W (by omega) (by omega)
    have e : ao.map (fun x : Addr => x.add 0) = ao := by cases ao <;> simp [Addr.add]
    simp [Instr.sliceAt, Instr.slice, run_underlying elU8.und, Instr.sliceBounds, b1, b2, sizeOf_run elU8 W, Result.andThen, e]
  have hW1 := h1.upd hU01 (by simp)
  have FIN := Lib.hid (MapB.put (h2.upd hU01 (Off.nil _ _)) h3 hn hv1 hW2 hU2 (hW1.off (Off.nil _ _)))
  have HU := Lib.hid hUall
  have hne : w.heap.size ∉ [mb] := by have := h1.lt; simp; omega
  have d1 : (w.alloc (Obj.cells #[Value.int IntKind.i64 1, encS a, encS b, Value.slice aop p.length capp] 190)).drew.cell? ⟨w.heap.size, 1, none⟩ = some (encS a) := by simp
  have d3 : (w.alloc (Obj.cells #[Value.int IntKind.i64 1, encS a, encS b, Value.slice aop p.length capp] 190)).drew.cell? ⟨w.heap.size, 3, none⟩ = some (.slice aop p.length capp) := by simp
  have c1 := hU1.cell d1 (by simp)
  have c3 := hU1.cell d3 (by simp)
  have e1 := hU2.cell c1 hne
  have e3 := hU2.cell c3 hne
  clear hU01 hUall hW2 hU2 hU1 hU0 hl hv1 hW1 hne hv hcap hb hoff hn
  go_region_held3 (fun w' => w'.cell? ⟨w.heap.size, 1, none⟩ = some (encS a) ∧ w'.cell? ⟨w.heap.size, 3, none⟩ = some (.slice aop p.length capp)) (go_keep) ((refine step_run rfl (run_append_op rfl rfl rfl hr1) ?_))
  go_wp2_with fail
  go_end0
  exact ⟨rfl, FIN.out, HU.out⟩

theorem fdel_comm {α : Type} (a b : List UInt8) (m : List (List UInt8 × α)) : fdel a (fdel b m) = fdel b (fdel a m) := by
  simp only [fdel_eq_filter, List.filter_filter]
  congr 1
  funext p
  rw [Bool.and_comm]
theorem fput_fdel_perm {α : Type} {a b : List UInt8} (h : a ≠ b) (v : α) (m : List (List UInt8 × α)) : (fdel a (fput b v m)).Perm (fput b v (fdel a m)) := by
  refine (fdel_perm (fput_perm b v m)).trans (List.Perm.trans ?_ (fput_perm b v (fdel a m)).symm)
  simp only [fdel, if_neg (Ne.symm h)]
  rw [fdel_comm]
theorem fput_same_perm {α : Type} (a : List UInt8) (v : α) (m : List (List UInt8 × α)) : (fput a v m).Perm (fput a v (fdel a m)) := by
  refine (fput_perm a v m).trans (List.Perm.trans ?_ (fput_perm a v (fdel a m)).symm)
  rw [show fdel a (fdel a m) = fdel a m from by simp [fdel_eq_filter, List.filter_filter]]

set_option maxRecDepth 100000 in
theorem files_do_3 (w : World) (mb : Nat) (m : List (List UInt8 × List UInt8)) (h : MapB w mb m) (a b : List UInt8) (pv : Value) :
    Calls Tryz.prog 119 #[.map (some mb), .agg #[.int .i64 3, encS a, encS b, pv]] w (DoPost w mb (fput b ((aget a m).getD []) (fdel a m))) := by
  obtain ⟨es, m', h1, h2, h3⟩ := h
  have hn : (m.map (·.1)).Nodup := MapB.nodup ⟨es, m', h1, h2, h3⟩
  have hoff : Off w 5 [mb] := h1.off (Off.nil _ _)
  have hv := h2.getD a
  have hag : aget a m' = aget a m := aget_perm h3 ((h3.map _).nodup_iff.2 hn)
  rw [hag] at hv
  have hU0 : Upd [] w (w.alloc (Obj.cells #[Value.int IntKind.i64 3, encS a, encS b, pv] 190)) := Upd.alloc [] _ _
  have hW0 := h1.upd hU0 (by simp)
  have hlt := h1.lt
  have hne : w.heap.size ∉ [mb] := by simp; omega
  have d1 : (w.alloc (Obj.cells #[Value.int IntKind.i64 3, encS a, encS b, pv] 190)).cell? ⟨w.heap.size, 1, none⟩ = some (encS a) := by simp
  have d2 : (w.alloc (Obj.cells #[Value.int IntKind.i64 3, encS a, encS b, pv] 190)).cell? ⟨w.heap.size, 2, none⟩ = some (encS b) := by simp
  have D1 := Lib.hid d1; have D2 := Lib.hid d2; have HN := Lib.hid hne
  clear d1 d2 hne
  by_cases hab : a = b
  · subst hab
    go_enter Tryz.func119, Tryz.ntmps119
    go_wp2_with (first
      | ((with_reducible show wpList _ _ _ (⟨_, .lookup _ _ _ _, _, _, _, _⟩ :: _) _ _); refine wpl_lookup mapFiles rfl rfl hW0 rfl a rfl _ rfl ?_)
      | ((with_reducible show wpList _ _ _ (⟨_, .mapUpdate _ _ _ _, _, _, _, _⟩ :: _) _ _); refine wpl_mapUpdate mapFiles rfl rfl hW0 rfl a rfl rfl ?_; intro w1 hW hU; have k1 := hU.cell D1.out HN.out; have k2 := hU.cell D2.out HN.out))
    go_end0
    have hU1 : Upd [mb] w w1 := (hU0.mono (T := [mb]) (by simp)).trans hU (fun i hi _ => hi)
    exact ⟨rfl, (MapB.put (h2.upd hU0 (Off.nil _ _)) h3 hn (hv.upd0 hU0) hW hU (hW0.off (Off.nil _ _))).perm (fput_same_perm _ _ _), hU1⟩
  · have hab' : (a == b) = false := by simpa using hab
    go_enter Tryz.func119, Tryz.ntmps119
    go_wp2_with (first
      | ((with_reducible show wpList _ _ _ (⟨_, .lookup _ _ _ _, _, _, _, _⟩ :: _) _ _); refine wpl_lookup mapFiles rfl rfl hW0 rfl a rfl _ rfl ?_)
      | ((with_reducible show wpList _ _ _ (⟨_, .mapUpdate _ _ _ _, _, _, _, _⟩ :: _) _ _); refine wpl_mapUpdate mapFiles rfl rfl hW0 rfl b rfl rfl ?_; intro w1 hW hU; have k1 := hU.cell D1.out HN.out; have k2 := hU.cell D2.out HN.out)
      | ((with_reducible show wpList _ _ _ (⟨_, .call ⟨.builtin .delete, _, _⟩, _, _, _, _⟩ :: _) _ _); refine wpl_delete mapFiles rfl rfl hW rfl a rfl ?_; intro w2 hW2 hU2))
    go_end0
    have hU1 : Upd [mb] w w1 := (hU0.mono (T := [mb]) (by simp)).trans hU (fun i hi _ => hi)
    have hM1 := MapB.put (h2.upd hU0 (Off.nil _ _)) h3 hn (hv.upd0 hU0) hW hU (hW0.off (Off.nil _ _))
    have hoff1 : Off w1 5 [mb] := hW.off (Off.nil _ _)
    have hU12 : Upd [mb] w w2 := hU1.trans hU2 (fun i hi _ => hi)
    have hvals := ((h2.upd hU0 (Off.nil _ _)).put b (hv.upd0 hU0)).upd hU (hW0.off (Off.nil _ _))
    have hnm' : (m'.map (·.1)).Nodup := (h3.map _).nodup_iff.2 hn
    have hp1 : (aput b ((aget a m).getD []) m').Perm (fput b ((aget a m).getD []) m) := (aput_perm hnm').trans (fput_perm_of h3)
    exact ⟨rfl, (MapB.del hvals hp1 (fput_nodup hn) hW2 hU2 hoff1).perm (fput_fdel_perm hab _ _), hU12⟩
theorem files_do (w : World) (mb : Nat) (m : List (List UInt8 × List UInt8)) (h : MapB w mb m) (c : Chg) (hk : c.kind ≤ 3) (pv : Value) (hp : By w pv c.p) (hb : used m + c.p.length ≤ 1073741824) :
    Calls Tryz.prog 119 #[.map (some mb), chgV c pv] w (DoPost w mb (fdo m c)) := by
  obtain ⟨k, a, b, p⟩ := c
  have hk' : k = 0 ∨ k = 1 ∨ k = 2 ∨ k = 3 := by simp only at hk; omega
  rcases hk' with rfl | rfl | rfl | rfl
  · exact files_do_0 w mb m h a b pv
  · refine files_do_1 w mb m h a b p pv hp ?_
    simp only at hb
    cases hg : aget a m with
    | none => simp; omega
    | some l => have := aget_le_used hg; simp; omega
  · exact files_do_2 w mb m h a b pv
  · exact files_do_3 w mb m h a b pv
end Go.Proofs.YthfbfdkjgkkpcaaGreat

namespace Go.Proofs.YthfbfdkjgkkpcaaGreat
open Go Go.RowKit

section
variable {P : Program} {ops : Array Oper} {Q : Exit → Act → World → Prop} {md : Region.Mode} {m : Nat} {S : World → Prop}

/-- Whatever order is picked from here on; behind each operation S holds, or the operation m has come up. -/
def wpAnyM (P : Program) (md : Region.Mode) (ops : Array Oper) (Q : Exit → Act → World → Prop) (m : Nat) (S : World → Prop) : Nat → Array Bool → Act → World → Prop
  | 0, listed, a, w => Region.ready md ops listed = [] ∧ Q .normal a w
  | fuel + 1, listed, a, w =>
    (Region.ready md ops listed = [] → Q .normal a w) ∧
    ∀ i ∈ Region.ready md ops listed, wpOp P ops Q i (fun a' w' => ((listed.setIfInBounds i true).getD m false = true ∨ S w') ∧ wpAnyM P md ops Q m S fuel (listed.setIfInBounds i true) a' w') a w

theorem wpAny_of_M : ∀ (fuel : Nat) (listed : Array Bool) (a : Act) (w : World), wpAnyM P md ops Q m S fuel listed a w → wpAny P md ops Q fuel listed a w
  | 0, _, _, _, h => h
  | fuel + 1, _, _, _, h => ⟨h.1, fun i hi => wpOp_mono (fun a' w' h' => wpAny_of_M fuel _ a' w' h'.2) (h.2 i hi)⟩

theorem wpAnyM_first {i : Nat} {oi om : Oper} {v : Value} (hi : ops[i]? = some oi) (hm : ops[m]? = some om) (hedge : ∃ e ∈ om.after, Region.binds md e = true ∧ e.on = i) (hmi : m ≠ i)
    (hsel : ∀ (j : Nat) (o : Oper) cs b, ops[j]? = some o → o.op ≠ .select cs b)
    (hQ : ∀ c a w, Q (.panic c) (a.put oi.dst v) w → Q (.panic c) a w) :
    ∀ (fuel : Nat) (listed : Array Bool) (a : Act) (w : World),
      (∀ j oj, ops[j]? = some oj → j ≠ i → listed.getD j true = false → (∀ e ∈ oj.after, Region.binds md e = true → e.on ≠ i) → oi.apart ops oj = true) →
      i ∈ Region.ready md ops listed → listed.getD m false = false → YieldsIf P ops S oi v a → S w →
      wpAnyM P md ops Q m S fuel (listed.setIfInBounds i true) (a.put oi.dst v) w → wpAnyM P md ops Q m S (fuel + 1) listed a w := by
  intro fuel
  induction fuel with
  | zero =>
    intro listed a w _ hr _ hy hS H
    refine ⟨fun h => (by rw [h] at hr; cases hr), fun j hj => ?_⟩
    by_cases hji : j = i
    · subst hji; exact hy.wpOp hi hS ⟨.inr hS, H⟩
    · have := ready_mono hj hji
      rw [H.1] at this
      cases this
  | succ fuel ih =>
    intro listed a w hfree hr hlm hy hS H
    refine ⟨fun h => (by rw [h] at hr; cases hr), fun j hj => ?_⟩
    by_cases hji : j = i
    · subst hji; exact hy.wpOp hi hS ⟨.inr hS, H⟩
    · have h1 := H.2 j (ready_mono hj hji)
      obtain ⟨hjun, oj, hoj, hall⟩ := mem_ready.1 hj
      have hnot : ∀ e ∈ oj.after, Region.binds md e = true → e.on ≠ i := fun e he hb heq => by
        have h1 := hall e he hb
        have h0 := (mem_ready.1 hr).1
        rw [heq] at h1
        rcases Nat.lt_or_ge i listed.size with h' | h'
        · simp [h'] at h0 h1; rw [h0] at h1; cases h1
        · simp [Array.getElem?_eq_none h'] at h1
      have hjm : j ≠ m := by
        intro e
        subst e
        rw [hm] at hoj
        cases hoj
        obtain ⟨e, he, hb, ho⟩ := hedge
        exact hnot e he hb ho
      have h2 := wpOp_putIf hoj (hfree j oj hoj hji hjun hnot) (fun cs b => hsel i oi cs b hi) (fun cs b => hsel j oj cs b hoj) hQ hy h1
      have hfree' : ∀ k ok, ops[k]? = some ok → k ≠ i → (listed.setIfInBounds j true).getD k true = false →
          (∀ e ∈ ok.after, Region.binds md e = true → e.on ≠ i) → oi.apart ops ok = true := fun k ok hk hki hun hno => by
        refine hfree k ok hk hki ?_ hno
        by_cases hjk : j = k
        · subst hjk; exact hjun
        · rw [getD_set_ne true hjk] at hun; exact hun
      have hlm' : (listed.setIfInBounds j true).getD m false = false := by rw [getD_set_ne false hjm]; exact hlm
      have hlm2 : ((listed.setIfInBounds i true).setIfInBounds j true).getD m false = false := by
        rw [getD_set_ne false hjm, getD_set_ne false (Ne.symm hmi)]; exact hlm
      refine wpOp_mono (fun a' w' h3 => ?_) h2
      have hS' : S w' := h3.2.1.resolve_left (by rw [hlm2]; simp)
      refine ⟨.inr hS', ih (listed.setIfInBounds j true) a' w' hfree' (ready_mono hr (Ne.symm hji)) hlm' h3.1 hS' ?_⟩
      rw [Array.setIfInBounds_comm _ _ hji]
      exact h3.2.2

/-- m waits for i, by an edge of its own. -/
def waitsFor (md : Region.Mode) (ops : Array Oper) (m i : Nat) : Bool := match ops[m]? with | some om => om.after.any (fun e => Region.binds md e && e.on == i) && m != i | none => false
theorem waitsFor_spec {i : Nat} (h : waitsFor md ops m i = true) : ∃ om, ops[m]? = some om ∧ (∃ e ∈ om.after, Region.binds md e = true ∧ e.on = i) ∧ m ≠ i := by
  unfold waitsFor at h
  split at h
  · rename_i om hom
    simp only [Bool.and_eq_true, Array.any_eq_true', bne_iff_ne, ne_eq, beq_iff_eq] at h
    obtain ⟨⟨e, he, hb, ho⟩, hne⟩ := h
    exact ⟨om, hom, ⟨e, he, hb, ho⟩, hne⟩
  · cases h

theorem wpAnyM_take {i : Nat} {oi : Oper} {v : Value} {fuel : Nat} {listed : Array Bool} {a : Act} {w : World} (hi : ops[i]? = some oi)
    (hs : Region.noSelect ops = true) (hf : Region.free md ops listed i = true) (hr : (Region.ready md ops listed).contains i = true) (hwf : waitsFor md ops m i = true) (hlm : listed.getD m false = false)
    (hQ : ∀ c a w, Q (.panic c) (a.put oi.dst v) w → Q (.panic c) a w) (hy : YieldsIf P ops S oi v a) (hS : S w)
    (h : wpAnyM P md ops Q m S fuel (listed.setIfInBounds i true) (a.put oi.dst v) w) : wpAnyM P md ops Q m S (fuel + 1) listed a w := by
  obtain ⟨om, h1, h2, h3⟩ := waitsFor_spec hwf
  exact wpAnyM_first hi h1 h2 h3 (Region.noSelect_spec hs) hQ fuel listed a w (Region.free_spec hi hf) (by simpa using hr) hlm hy hS h

/-- The one operation that may come up now runs. -/
theorem wpAnyM_only {i : Nat} {oi : Oper} {fuel : Nat} {listed : Array Bool} {a : Act} {w : World} (hr : Region.ready md ops listed = [i]) (hi : ops[i]? = some oi)
    (h : ∀ K : Act → World → Prop, (∀ a' w', ((listed.setIfInBounds i true).getD m false = true ∨ S w') → wpAnyM P md ops Q m S fuel (listed.setIfInBounds i true) a' w' → K a' w') →
      if Region.wanted oi (yielded ops a.tmps) = true then Oper.wp P oi a w K Q else K (a.put oi.dst undef) w) : wpAnyM P md ops Q m S (fuel + 1) listed a w := by
  refine ⟨fun h0 => (by rw [hr] at h0; cases h0), fun j hj => ?_⟩
  rw [hr] at hj
  obtain rfl : j = i := by simpa using hj
  exact wpOp_step hi (fun K' hK => h K' (fun a' w' h1 h2 => hK a' w' ⟨h1, h2⟩))
theorem wpAnyM_done {listed : Array Bool} {a : Act} {w : World} (hr : Region.ready md ops listed = []) (h : Q .normal a w) : ∀ fuel, wpAnyM P md ops Q m S fuel listed a w
  | 0 => ⟨hr, h⟩
  | _ + 1 => ⟨fun _ => h, by rw [hr]; simp⟩
theorem wp_region_M {id : Nat} {a : Act} {w : World} (m : Nat) (S : World → Prop) (hm : P.follows .mixedOrders = true)
    (h : wpAnyM P .any ops Q m S ops.size (Array.replicate ops.size false) a w.drew) : (Code.region id ops true).wp P Q a w :=
  wp_region_any hm (wpAny_of_M _ _ _ _ h)
theorem append_ty (A : Array TypeId) (t t' : TypeId) (B : Array Value) : Builtin.append_ A t B = Builtin.append_ A t' B := rfl

/-- An operation as it stands in a region, without a guard. -/
abbrev opr (dst : Option Tmp) (op : Op) (ty : TypeId) (pos : String) (after : Array Edge) : Oper := ⟨dst, op, ty, pos, after, none⟩
theorem opr_of {i : Nat} {dst : Option Tmp} {op : Op} (hi : (ops[i]?).map (fun o => (o.dst, o.op, o.guard)) = some (dst, op, none)) : ∃ ty pos after, ops[i]? = some (opr dst op ty pos after) := by
  obtain ⟨o, ho, he⟩ := Option.map_eq_some_iff.1 hi
  simp only [Prod.mk.injEq] at he
  obtain ⟨rfl, rfl, h3⟩ := he
  cases o
  simp only at h3
  subst h3
  exact ⟨_, _, _, ho⟩
/-- What reads alike in every world that meets S is taken first. -/
theorem wpAnyM_takeO {i : Nat} {dst : Option Tmp} {op : Op} {v : Value} {fuel : Nat} {listed : Array Bool} {a : Act} {w : World} (hi : (ops[i]?).map (fun o => (o.dst, o.op, o.guard)) = some (dst, op, none))
    (hs : Region.noSelect ops = true) (hf : Region.free md ops listed i = true) (hr : (Region.ready md ops listed).contains i = true) (hwf : waitsFor md ops m i = true) (hlm : listed.getD m false = false)
    (hQ : ∀ c a w, Q (.panic c) (a.put dst v) w → Q (.panic c) a w) (hy : ∀ ty pos after W, S W → (execOp a.eval (opr dst op ty pos after)).run P W = .ok (.value v) W) (hS : S w)
    (h : wpAnyM P md ops Q m S fuel (listed.setIfInBounds i true) (a.put dst v) w) : wpAnyM P md ops Q m S (fuel + 1) listed a w := by
  obtain ⟨ty, pos, after, ho⟩ := opr_of hi
  exact wpAnyM_take ho hs hf hr hwf hlm hQ (.inl ⟨rfl, fun W hW => hy ty pos after W hW⟩) hS h
/-- The one operation that may come up now runs to a value. -/
theorem wpAnyM_val {i : Nat} {dst : Option Tmp} {op : Op} {fuel : Nat} {listed : Array Bool} {a : Act} {w w' : World} {v : Value} (hi : (ops[i]?).map (fun o => (o.dst, o.op, o.guard)) = some (dst, op, none))
    (hr : Region.ready md ops listed = [i]) (hrun : ∀ ty pos after, (execOp a.eval (opr dst op ty pos after)).run P w = .ok (.value v) w')
    (hS : (listed.setIfInBounds i true).getD m false = true ∨ S w') (h : wpAnyM P md ops Q m S fuel (listed.setIfInBounds i true) (a.put dst v) w') : wpAnyM P md ops Q m S (fuel + 1) listed a w := by
  obtain ⟨ty, pos, after, ho⟩ := opr_of hi
  refine wpAnyM_only hr ho fun K hK => ?_
  rw [if_pos (show Region.wanted (opr dst op ty pos after) _ = true from rfl)]
  unfold Oper.wp
  rw [hrun ty pos after]
  exact hK _ _ hS h
theorem wpAnyM_skip {i : Nat} {dst : Option Tmp} {op : Op} {fuel : Nat} {listed : Array Bool} {a : Act} {w w' : World} (hi : (ops[i]?).map (fun o => (o.dst, o.op, o.guard)) = some (dst, op, none))
    (hr : Region.ready md ops listed = [i]) (hrun : ∀ ty pos after, (execOp a.eval (opr dst op ty pos after)).run P w = .ok .skip w')
    (hS : (listed.setIfInBounds i true).getD m false = true ∨ S w') (h : wpAnyM P md ops Q m S fuel (listed.setIfInBounds i true) (a.put dst undef) w') : wpAnyM P md ops Q m S (fuel + 1) listed a w := by
  obtain ⟨ty, pos, after, ho⟩ := opr_of hi
  refine wpAnyM_only hr ho fun K hK => ?_
  rw [if_pos (show Region.wanted (opr dst op ty pos after) _ = true from rfl)]
  unfold Oper.wp
  rw [hrun ty pos after]
  exact hK _ _ hS h
/-- One operation out of those that may come up, run to a value. -/
theorem opM_val {i : Nat} {dst : Option Tmp} {op : Op} {fuel : Nat} {listed : Array Bool} {a : Act} {w w' : World} {v : Value} (hi : (ops[i]?).map (fun o => (o.dst, o.op, o.guard)) = some (dst, op, none))
    (hrun : ∀ ty pos after, (execOp a.eval (opr dst op ty pos after)).run P w = .ok (.value v) w')
    (hS : (listed.setIfInBounds i true).getD m false = true ∨ S w') (h : wpAnyM P md ops Q m S fuel (listed.setIfInBounds i true) (a.put dst v) w') :
    wpOp P ops Q i (fun a' w' => ((listed.setIfInBounds i true).getD m false = true ∨ S w') ∧ wpAnyM P md ops Q m S fuel (listed.setIfInBounds i true) a' w') a w := by
  obtain ⟨ty, pos, after, ho⟩ := opr_of hi
  refine wpOp_step ho fun K hK => ?_
  rw [if_pos (show Region.wanted (opr dst op ty pos after) _ = true from rfl)]
  unfold Oper.wp
  rw [hrun ty pos after]
  exact hK _ _ ⟨hS, h⟩
/-- One operation, a call of a function by its contract. -/
theorem opM_call {i : Nat} {dst : Option Tmp} {op : Op} {f : Nat} {vs : Array Value} {fuel : Nat} {listed : Array Bool} {a : Act} {w : World} (hi : (ops[i]?).map (fun o => (o.dst, o.op, o.guard)) = some (dst, op, none))
    (hrun : ∀ ty pos after, (execOp a.eval (opr dst op ty pos after)).run P w = .ok (.enter f vs) w)
    (hc : Calls P f vs w fun e w' => ∃ v, e = .returned v ∧ ((listed.setIfInBounds i true).getD m false = true ∨ S w') ∧ wpAnyM P md ops Q m S fuel (listed.setIfInBounds i true) (a.put dst v) w') :
    wpOp P ops Q i (fun a' w' => ((listed.setIfInBounds i true).getD m false = true ∨ S w') ∧ wpAnyM P md ops Q m S fuel (listed.setIfInBounds i true) a' w') a w := by
  obtain ⟨ty, pos, after, ho⟩ := opr_of hi
  refine wpOp_step ho fun K hK => ?_
  rw [if_pos (show Region.wanted (opr dst op ty pos after) _ = true from rfl)]
  unfold Oper.wp
  rw [hrun ty pos after]
  refine hc.mono ?_
  rintro e w' ⟨v, rfl, h1, h2⟩
  exact hK _ _ ⟨h1, h2⟩
theorem wpAnyM_one {i : Nat} {fuel : Nat} {listed : Array Bool} {a : Act} {w : World} (hr : Region.ready md ops listed = [i])
    (h : wpOp P ops Q i (fun a' w' => ((listed.setIfInBounds i true).getD m false = true ∨ S w') ∧ wpAnyM P md ops Q m S fuel (listed.setIfInBounds i true) a' w') a w) : wpAnyM P md ops Q m S (fuel + 1) listed a w := by
  refine ⟨fun h0 => (by rw [hr] at h0; cases h0), fun j hj => ?_⟩
  rw [hr] at hj
  obtain rfl : j = i := by simpa using hj
  exact h
theorem wpAnyM_two {i k : Nat} {fuel : Nat} {listed : Array Bool} {a : Act} {w : World} (hr : Region.ready md ops listed = [i, k])
    (h : wpOp P ops Q i (fun a' w' => ((listed.setIfInBounds i true).getD m false = true ∨ S w') ∧ wpAnyM P md ops Q m S fuel (listed.setIfInBounds i true) a' w') a w)
    (h' : wpOp P ops Q k (fun a' w' => ((listed.setIfInBounds k true).getD m false = true ∨ S w') ∧ wpAnyM P md ops Q m S fuel (listed.setIfInBounds k true) a' w') a w) : wpAnyM P md ops Q m S (fuel + 1) listed a w := by
  refine ⟨fun h0 => (by rw [hr] at h0; cases h0), fun j hj => ?_⟩
  rw [hr] at hj
  have : j = i ∨ j = k := by simpa using hj
  rcases this with rfl | rfl
  · exact h
  · exact h'
theorem ex_append {a : Act} {w w' : World} {s x : Operand} {T t0 : Nat} {v y v' : Value} (hr : (Builtin.append_ #[T, T] t0 #[v, y]).run P w = .ok v' w') (hs : a.eval s = v) (hx : a.eval x = y) {dst : Option Tmp} :
    ∀ ty pos after, (execOp a.eval (opr dst (.call { callee := .builtin .append, args := #[s, x], argTypes := #[T, T] }) ty pos after)).run P w = .ok (.value v') w' := fun ty pos after => by
  rw [append_ty _ t0 ty] at hr
  exact run_append_op (o := opr dst (.call { callee := .builtin .append, args := #[s, x], argTypes := #[T, T] }) ty pos after) rfl hs hx hr
theorem ex_lit {a : Act} {w w' : World} {x : Operand} {T : Nat} {u v' : Value} (hr : (Instr.buildSlice T 1 #[(0, u)]).run P w = .ok v' w') (hx : a.eval x = u) {dst : Option Tmp} :
    ∀ ty pos after, (execOp a.eval (opr dst (.buildSlice T 1 #[(0, x)]) ty pos after)).run P w = .ok (.value v') w' := fun ty pos after => run_lit_op (o := opr dst (.buildSlice T 1 #[(0, x)]) ty pos after) rfl hx hr
theorem ex_store {a : Act} {w : World} {x y : Operand} {T : Nat} {ad : Addr} {u v : Value} (hr : (storeVar T ad v).run P w = .ok () (w.setCell ad u)) (hx : a.eval x = .pointer (some ad)) (hy : a.eval y = v) {dst : Option Tmp} :
    ∀ ty pos after, (execOp a.eval (opr dst (.store T x y) ty pos after)).run P w = .ok .skip (w.setCell ad u) := fun ty pos after => by
  simp [execOp, hx, hy, Instr.storeAt, Instr.sureAddr, hr, Result.andThen]
theorem run_store_slice {w : World} {T : Nat} (hT : (P.info? T).map (·.size) = some 1) {ad : Addr} {old : Value} (hc : w.cell? ad = some old) (hf : w.frozen? ad = false) (ao : Option Addr) (n cap : Nat) :
    (storeVar T ad (.slice ao n cap)).run P w = .ok () (w.setCell ad (.slice ao n cap)) := by
  obtain ⟨i, hi, hs⟩ := Option.map_eq_some_iff.1 hT
  have h0 : ad.add 0 = ad := by simp [Addr.add]
  have hst : (store ad (.slice ao n cap)).run P w = .ok () (w.setCell ad (.slice ao n cap)) := by
    simp [store, Sem.run, hc, hf]
  simp [storeVar, sizeOf, typeInfo, hi, hs, Value.cells, storeCells, h0, hst, Result.andThen]
end
end Go.Proofs.YthfbfdkjgkkpcaaGreat

namespace Go.Proofs.YthfbfdkjgkkpcaaGreat
open Go Go.RowKit

/-- The cells of loose changes. -/
def ChgCells (w : World) : List Value → List Chg → Prop
  | [], [] => True
  | k :: a :: b :: p :: r, c :: l => k = .int .i64 c.kind ∧ a = encS c.a ∧ b = encS c.b ∧ By w p c.p ∧ ChgCells w r l
  | _, _ => False
theorem ChgCells.upd {S : List Nat} {w w' : World} (hU : Upd S w w') (hS : Off w 5 S) : ∀ {cs : List Value} {l : List Chg}, ChgCells w cs l → ChgCells w' cs l
  | [], [], _ => trivial
  | _ :: _ :: _ :: _ :: _, _ :: _, h => ⟨h.1, h.2.1, h.2.2.1, h.2.2.2.1.upd hU hS, ChgCells.upd hU hS h.2.2.2.2⟩
theorem ChgCells.snoc {w : World} {c : Chg} {pv : Value} (hp : By w pv c.p) : ∀ {cs : List Value} {l : List Chg}, ChgCells w cs l → ChgCells w (cs ++ [.int .i64 c.kind, encS c.a, encS c.b, pv]) (l ++ [c])
  | [], [], _ => ⟨rfl, rfl, rfl, hp, trivial⟩
  | _ :: _ :: _ :: _ :: _, _ :: _, h => ⟨h.1, h.2.1, h.2.2.1, h.2.2.2.1, ChgCells.snoc hp h.2.2.2.2⟩

/-- Block d is a disk; S: the blocks that it alone turns. -/
structure DiskAt (w : World) (d : Nat) (S : List Nat) (D : DSt) : Prop where
  ex : ∃ nb sb lv cells, S = d :: nb :: sb :: lv.ownBlock.toList ∧ w.heap[d]? = some (.cells #[.int .i64 D.room, .map (some nb), .map (some sb), lv, .int .i64 D.fuse, .bool D.down] 116 (0, 0)) ∧
    MapB w nb D.now ∧ MapB w sb D.sure ∧ nb ≠ sb ∧ w.ownsRow 0 190 4 lv D.loose.length cells ∧ ChgCells w cells D.loose
  inv : DInv D
  most : D.fuse ≤ 9223372036854775807

theorem own_off {w : World} {B e t sz n : Nat} {v : Value} {xs : List Value} (h : w.ownsRow B t sz v n xs) (hn : t ≠ e) : Off w e v.ownBlock.toList := by
  rcases h.2 with ⟨rfl, _⟩ | ⟨g, cap, cur, rfl, _, hg, _⟩
  · exact Off.nil _ _
  · exact Off.cons_cells hg hn (Off.nil _ _)
theorem DiskAt.off {w : World} {d : Nat} {S : List Nat} {D : DSt} (h : DiskAt w d S D) {e : TypeId} (h1 : 116 ≠ e) (h2 : 190 ≠ e) : Off w e S := by
  obtain ⟨nb, sb, lv, cells, rfl, hd, hn, hs, hne, ho, hc⟩ := h.ex
  exact Off.cons_cells hd h1 (hn.off (hs.off (own_off ho h2)))
theorem DiskAt.off8 {w : World} {d : Nat} {S : List Nat} {D : DSt} (h : DiskAt w d S D) : Off w 5 S := h.off (by decide) (by decide)
theorem DiskAt.lt {w : World} {d : Nat} {S : List Nat} {D : DSt} (h : DiskAt w d S D) : ∀ k ∈ S, k < w.heap.size := by
  obtain ⟨nb, sb, lv, cells, rfl, hd, hn, hs, hne, ho, hc⟩ := h.ex
  intro k hk
  simp only [List.mem_cons, Option.mem_toList] at hk
  rcases hk with rfl | rfl | rfl | hk
  · exact lt_of_get hd
  · exact hn.lt
  · exact hs.lt
  · exact (ho.lt k hk).2
/-- What turns none of its blocks leaves a disk as it is. -/
theorem DiskAt.upd {S T : List Nat} {w w' : World} {d : Nat} {D : DSt} (h : DiskAt w d S D) (hU : Upd T w w') (h8 : Off w 5 T) (hn : ∀ k ∈ S, k ∉ T) : DiskAt w' d S D := by
  obtain ⟨nb, sb, lv, cells, rfl, hd, hnb, hsb, hne, ho, hc⟩ := h.ex
  refine ⟨⟨nb, sb, lv, cells, rfl, hU.get hd (hn d (by simp)), hnb.upd hU h8 (hn nb (by simp)), hsb.upd hU h8 (hn sb (by simp)), hne, Own.upd ho hU ?_, hc.upd hU h8⟩, h.inv, h.most⟩
  intro g hg
  exact hn g (by simp [hg])
theorem DiskAt.upd0 {S : List Nat} {w w' : World} {d : Nat} {D : DSt} (h : DiskAt w d S D) (hU : Upd [] w w') : DiskAt w' d S D := h.upd hU (Off.nil _ _) (fun _ _ hm => by cases hm)

/-- The blocks of S' are those of S, or new. -/
def Sub (w : World) (S S' : List Nat) : Prop := ∀ k ∈ S', k ∈ S ∨ w.heap.size ≤ k
theorem Sub.refl (w : World) (S : List Nat) : Sub w S S := fun _ h => .inl h
theorem Sub.trans {w w' : World} {S S' S'' : List Nat} (h : Sub w S S') (h' : Sub w' S' S'') (hs : w.heap.size ≤ w'.heap.size) : Sub w S S'' := by
  intro k hk
  rcases h' k hk with h1 | h1
  · exact h k h1
  · exact .inr (Nat.le_trans hs h1)
theorem Sub.not_mem {w : World} {S S' : List Nat} (h : Sub w S S') {k : Nat} (hk : k < w.heap.size) (hn : k ∉ S) : k ∉ S' := by
  intro hm
  rcases h k hm with h1 | h1
  · exact hn h1
  · omega
/-- Two steps at one object, one behind the other. -/
theorem Upd.sub {S S' : List Nat} {a b c : World} (h : Upd S a b) (hs : Sub a S S') (k : Upd S' b c) : Upd S a c :=
  h.trans k (fun i hi hlt => (hs i hi).resolve_right (by omega))

/-- What a disk's step leaves: an answer, and the disk behind it. -/
def DPost (w : World) (d : Nat) (S : List Nat) (r : DSt × Nat) (e : Ending) (w' : World) : Prop :=
  e = .returned (.int .i64 r.2) ∧ ∃ S', DiskAt w' d S' r.1 ∧ Upd S w w' ∧ Sub w S S'

theorem setCell_get {w : World} {d i : Nat} {c : Array Value} {e : TypeId} {f : Nat × Nat} (h : w.heap[d]? = some (.cells c e f)) (v : Value) :
    (w.setCell ⟨d, i, none⟩ v).heap[d]? = some (.cells (c.setIfInBounds i v) e f) := by
  simp only [World.setCell, Array.getElem?_modify, if_true, h, Option.map_some]
  rfl
/-- A field of the disk's own block is written: the power. -/
theorem DiskAt.poke {w w' : World} {d : Nat} {S : List Nat} {D : DSt} (h : DiskAt w d S D) (fuse : Int) (down : Bool) (hU : Upd [d] w w')
    (hd' : ∀ c, w.heap[d]? = some (.cells c 116 (0, 0)) → w'.heap[d]? = some (.cells ((c.setIfInBounds 4 (.int .i64 fuse)).setIfInBounds 5 (.bool down)) 116 (0, 0))) (h1 : -1 ≤ fuse) (h2 : fuse ≤ 9223372036854775807) :
    DiskAt w' d S { D with fuse := fuse, down := down } := by
  obtain ⟨nb, sb, lv, cells, rfl, hd, hn, hs, hne, ho, hc⟩ := h.ex
  have h8 : Off w 5 [d] := Off.cons_cells hd (by decide) (Off.nil _ _)
  have e1 : nb ∉ [d] := by
    obtain ⟨es, m', hw, _⟩ := hn
    obtain ⟨arr, cl, hb, _⟩ := hw.ex
    intro hm; simp at hm; subst hm; rw [hd] at hb; cases hb
  have e2 : sb ∉ [d] := by
    obtain ⟨es, m', hw, _⟩ := hs
    obtain ⟨arr, cl, hb, _⟩ := hw.ex
    intro hm; simp at hm; subst hm; rw [hd] at hb; cases hb
  refine ⟨⟨nb, sb, lv, cells, rfl, ?_, hn.upd hU h8 e1, hs.upd hU h8 e2, hne, Own.upd ho hU ?_, hc.upd hU h8⟩, ?_, h2⟩
  · rw [hd' _ hd]; rfl
  · intro g hg hm
    simp only [List.mem_singleton] at hm
    subst hm
    rcases ho.2 with ⟨rfl, _⟩ | ⟨g', cap, cur, rfl, _, hg', _⟩
    · simp [Value.ownBlock] at hg
    · simp [Value.ownBlock] at hg; subst hg; rw [hd] at hg'; cases hg'
  · exact ⟨h.inv.room, h.inv.nodup, h.inv.now, h.inv.fits, h1, h.inv.kinds⟩

theorem disk_up (w : World) (d : Nat) (S : List Nat) (D : DSt) (h : DiskAt w d S D) :
    Calls Tryz.prog 118 #[.pointer (some ⟨d, 0, none⟩)] w fun e w' => e = .returned (.int .i64 (if D.down then 5 else 0)) ∧ w = w' := by
  obtain ⟨nb, sb, lv, cells, rfl, hd, _⟩ := h.ex
  have c : w.cell? ⟨d, 5, none⟩ = some (.bool D.down) := by rw [cell_lit w d 5 _ _ _ hd]; rfl
  clear hd h
  cases hb : D.down <;> rw [hb] at c
  all_goals
    clear hb
    go_enter Tryz.func118, Tryz.ntmps118
    go_wp2
    go_ret
    exact ⟨rfl, rfl⟩
theorem disk_up_nil (w : World) : Calls Tryz.prog 118 #[.pointer none] w fun e w' => e = .returned (.int .i64 2) ∧ w = w' := by
  go_enter Tryz.func118, Tryz.ntmps118
  go_wp2
  go_ret
  exact ⟨rfl, rfl⟩

/-- A disk behind the power of a step. -/
def DSt.spend (D : DSt) : DSt × Nat := if D.fuse = 0 then ({ D with down := true }, 5) else ({ D with fuse := burn D.fuse }, 0)
def SpendPost (w : World) (d : Nat) (S : List Nat) (D : DSt) (e : Ending) (w' : World) : Prop :=
  e = .returned (.int .i64 D.spend.2) ∧ DiskAt w' d S D.spend.1 ∧ Upd [d] w w'

theorem disk_spend (w : World) (d : Nat) (S : List Nat) (D : DSt) (h : DiskAt w d S D) :
    Calls Tryz.prog 124 #[.pointer (some ⟨d, 0, none⟩)] w (SpendPost w d S D) := by
  obtain ⟨nb, sb, lv, cells, hS, hd, _⟩ := h.ex
  have c4 : w.cell? ⟨d, 4, none⟩ = some (.int .i64 D.fuse) := by rw [cell_lit w d 4 _ _ _ hd]; rfl
  have c5 : w.cell? ⟨d, 5, none⟩ = some (.bool D.down) := by rw [cell_lit w d 5 _ _ _ hd]; rfl
  have f4 := frozen_lit w d 4 _ _ hd
  have f5 := frozen_lit w d 5 _ _ hd
  have hlo := h.inv.fuse
  have hhi := h.most
  have HD := Lib.hid hd; clear hd
  by_cases h0 : D.fuse = 0
  · have hP : D.spend = ({ D with down := true }, 5) := by simp [DSt.spend, h0]
    have HP := Lib.hid hP; clear hP
    rw [h0] at c4
    have hK := h.poke D.fuse true (w' := w.setCell ⟨d, 5, none⟩ (.bool true)) (Upd.setCell _ _ _ (by simp)) (by
      intro c hc
      rw [setCell_get hc]
      rw [HD.out] at hc
      cases hc
      rfl) hlo hhi
    have HK := Lib.hid hK; clear hK h h0 hlo hhi HD hS
    go_enter Tryz.func124, Tryz.ntmps124
    go_wp2
    go_ret
    exact ⟨by rw [HP.out]; rfl, by rw [HP.out]; exact HK.out, Upd.setCell _ _ _ (by simp)⟩
  · have t0 : (D.fuse == 0) = false := by simpa using h0
    by_cases hpos : 0 < D.fuse
    · have hP : D.spend = ({ D with fuse := D.fuse - 1 }, 0) := by simp [DSt.spend, h0, burn, hpos]
      have HP := Lib.hid hP; clear hP
      have hK := h.poke (D.fuse - 1) D.down (w' := w.setCell ⟨d, 4, none⟩ (.int .i64 (D.fuse - 1))) (Upd.setCell _ _ _ (by simp)) (by
        intro c hc
        rw [setCell_get hc]
        rw [HD.out] at hc
        cases hc
        rfl) (by omega) (by omega)
      have HK := Lib.hid hK; clear hK h h0 HD hS
      go_enter Tryz.func124, Tryz.ntmps124
      go_wp2
      go_ret
      exact ⟨by rw [HP.out]; rfl, by rw [HP.out]; exact HK.out, Upd.setCell _ _ _ (by simp)⟩
    · have hP : D.spend = (D, 0) := by simp [DSt.spend, h0, burn, hpos]
      have HP := Lib.hid hP; clear hP
      have t1 : decide (0 < D.fuse) = false := by simpa using hpos
      have H := Lib.hid h; clear h hS
      go_enter Tryz.func124, Tryz.ntmps124
      go_wp2
      go_ret
      exact ⟨by rw [HP.out]; rfl, by rw [HP.out]; exact H.out, Upd.refl _ _⟩
theorem disk_spend_no (w : World) (d : Nat) (S : List Nat) (D : DSt) (h : DiskAt w d S D) (h0 : D.fuse = 0) :
    Calls Tryz.prog 124 #[.pointer (some ⟨d, 0, none⟩)] w fun e w' => e = .returned (.int .i64 5) ∧ DiskAt w' d S { D with down := true } ∧ Upd [d] w w' := by
  refine (disk_spend w d S D h).mono ?_
  rintro e w' ⟨rfl, h1, h2⟩
  simp only [DSt.spend, if_pos h0] at h1 ⊢
  exact ⟨rfl, h1, h2⟩
theorem disk_spend_yes (w : World) (d : Nat) (S : List Nat) (D : DSt) (h : DiskAt w d S D) (h0 : D.fuse ≠ 0) :
    Calls Tryz.prog 124 #[.pointer (some ⟨d, 0, none⟩)] w fun e w' => e = .returned (.int .i64 0) ∧ DiskAt w' d S { D with fuse := burn D.fuse } ∧ Upd [d] w w' := by
  refine (disk_spend w d S D h).mono ?_
  rintro e w' ⟨rfl, h1, h2⟩
  simp only [DSt.spend, if_neg h0] at h1 ⊢
  exact ⟨rfl, h1, h2⟩

theorem disk_does_no (w : World) (d : Nat) (S : List Nat) (D : DSt) (h : DiskAt w d S D) (c : Chg) (pv : Value) (h0 : D.fuse = 0) :
    Calls Tryz.prog 123 #[.pointer (some ⟨d, 0, none⟩), chgV c pv] w (DPost w d S (D.does c)) := by
  have hU0 : Upd [] w (w.alloc (Obj.cells #[Value.int IntKind.i64 c.kind, encS c.a, encS c.b, pv] 190)) := Upd.alloc [] _ _
  have h1 := h.upd0 hU0
  have H0 := Lib.hid h0; clear h0
  have HS : d ∈ S := by obtain ⟨nb, sb, lv, cells, rfl, _⟩ := h.ex; simp
  go_enter Tryz.func123, Tryz.ntmps123
  go_wp2_with (go_at_call 124; refine (disk_spend_no _ d S D h1 H0.out).mono ?_; rintro e w1 ⟨rfl, hD1, hU1⟩)
  go_ret
  refine ⟨by simp [DSt.does, H0.out], S, by simpa [DSt.does, H0.out] using hD1, (hU0.mono (T := S) (by simp)).trans hU1 (fun i hi _ => by simp at hi; subst hi; exact HS), Sub.refl _ _⟩


theorem MapB.ne_cells {w : World} {mb d : Nat} {m : List (List UInt8 × List UInt8)} {c : Array Value} {e : TypeId} {f : Nat × Nat} (h : MapB w mb m) (hd : w.heap[d]? = some (.cells c e f)) : mb ≠ d := by
  obtain ⟨es, m', hw, _⟩ := h
  obtain ⟨arr, cl, hb, _⟩ := hw.ex
  rintro rfl
  rw [hd] at hb
  cases hb
theorem own_ne_map {w : World} {mb B e sz n : Nat} {v : Value} {xs : List Value} {m : List (List UInt8 × List UInt8)} (h : MapB w mb m) (ho : w.ownsRow B e sz v n xs) : ∀ g, v.ownBlock = some g → g ≠ mb := by
  intro g hg
  rcases ho.2 with ⟨rfl, _⟩ | ⟨g', cap, cur, rfl, _, hg', _⟩
  · simp [Value.ownBlock] at hg
  · simp [Value.ownBlock] at hg; subst hg
    exact (h.ne_cells hg').symm
theorem own_ne_cells {w : World} {d B e t sz n : Nat} {v : Value} {xs : List Value} {c : Array Value} {f : Nat × Nat} (hd : w.heap[d]? = some (.cells c t f)) (ho : w.ownsRow B e sz v n xs) (hne : t ≠ e) : ∀ g, v.ownBlock = some g → g ≠ d := by
  intro g hg
  rcases ho.2 with ⟨rfl, _⟩ | ⟨g', cap, cur, rfl, _, hg', _⟩
  · simp [Value.ownBlock] at hg
  · simp [Value.ownBlock] at hg; subst hg
    rintro rfl
    rw [hd] at hg'
    cases hg'
    exact hne rfl

theorem elChange : Elem Tryz.prog 114 190 4 64 := ⟨by kernel_rfl, by omega, by
  obtain ⟨i, h1, h2, h3, h4⟩ := info_parts (P := Tryz.prog) (e := 190) (z := .agg #[.int .i64 0, .string ⟨#[]⟩, .string ⟨#[]⟩, .slice none 0 0]) (size := 4) (bytes := 64) (by kernel_rfl)
  exact ⟨i, _, h1, h2, h3, h4, rfl⟩⟩

/-- A change is laid behind the loose ones. -/
theorem loose_push (w : World) (d nb sb : Nat) (lv : Value) (cells : List Value) (D : DSt) (c : Chg) (pv : Value) (loose : List Chg) (hD : D.loose = loose ++ [c])
    (hd : w.heap[d]? = some (.cells #[.int .i64 D.room, .map (some nb), .map (some sb), lv, .int .i64 D.fuse, .bool D.down] 116 (0, 0)))
    (hnb : MapB w nb D.now) (hsb : MapB w sb D.sure) (hne : nb ≠ sb) (ho : w.ownsRow 0 190 4 lv loose.length cells) (hc : ChgCells w cells loose) (hp : By w pv c.p) (hl : loose.length ≤ 1000000000)
    (inv : DInv D) (most : D.fuse ≤ 9223372036854775807) (O : Obj) (hO : O = Obj.cells #[Value.int IntKind.i64 c.kind, encS c.a, encS c.b, pv] 190) (ty : Nat) :
    ∃ v' w4, (∃ ao n cap, v' = .slice ao n cap) ∧ (Builtin.append_ #[114, 114] ty #[lv, .slice (some ⟨w.heap.size, 0, none⟩) 1 1]).run Tryz.prog (w.drew.alloc O) = .ok v' w4 ∧
      Upd lv.ownBlock.toList w w4 ∧ w4.cell? ⟨d, 3, none⟩ = some lv ∧ w4.frozen? ⟨d, 3, none⟩ = false ∧
      DiskAt (w4.setCell ⟨d, 3, none⟩ v') d (d :: nb :: sb :: v'.ownBlock.toList) D ∧ Upd (d :: lv.ownBlock.toList) w (w4.setCell ⟨d, 3, none⟩ v') ∧ Sub w (d :: nb :: sb :: lv.ownBlock.toList) (d :: nb :: sb :: v'.ownBlock.toList) := by
  subst hO
  have hU0 : Upd [] w (w.drew.alloc (.cells #[Value.int IntKind.i64 c.kind, encS c.a, encS c.b, pv] 190)) := (Upd.drew [] w).trans0 (Upd.alloc [] _ _)
  have hR : Rd (w.drew.alloc (.cells #[Value.int IntKind.i64 c.kind, encS c.a, encS c.b, pv] 190)) 190 4 (.slice (some ⟨w.heap.size, 0, none⟩) 1 1) 1 [.int .i64 c.kind, encS c.a, encS c.b, pv] :=
    Rd.new (w := w.drew) (by simp) (Nat.le_refl _) (by decide) rfl rfl
  obtain ⟨v', w4, r1, r2, r3, r4⟩ := run_append_rd (P := Tryz.prog) (ty := ty) elChange (Own.upd0 ho hU0) hR (by
    intro u hu
    simp only [List.mem_cons, List.not_mem_nil, or_false] at hu
    rcases hu with rfl | rfl | rfl | rfl
    · rfl
    · rfl
    · rfl
    · obtain ⟨ao, cap, rfl⟩ := hp.val; rfl) (by unfold maxLen; omega) (by omega) (Nat.zero_le _)
  have hU1 : Upd lv.ownBlock.toList (w.drew.alloc (.cells #[Value.int IntKind.i64 c.kind, encS c.a, encS c.b, pv] 190)) w4 := Upd.grown r3 (fun k hk => by rw [hk]; simp)
  have hU : Upd lv.ownBlock.toList w w4 := (hU0.mono (T := lv.ownBlock.toList) (by simp)).trans hU1 (fun i hi _ => hi)
  have hlvd := own_ne_cells hd ho (by decide)
  have hlvn := own_ne_map hnb ho
  have hlvs := own_ne_map hsb ho
  have dn : d ∉ lv.ownBlock.toList := by intro hm; exact hlvd d (by simpa using hm) rfl
  have nn : nb ∉ lv.ownBlock.toList := by intro hm; exact hlvn nb (by simpa using hm) rfl
  have sn : sb ∉ lv.ownBlock.toList := by intro hm; exact hlvs sb (by simpa using hm) rfl
  have off : Off w 5 lv.ownBlock.toList := own_off ho (by decide)
  have hd4 := hU.get hd dn
  have hnb4 := hnb.upd hU off nn
  have hsb4 := hsb.upd hU off sn
  have hc4 := (hc.upd hU off).snoc (hp.upd hU off)
  have hU2 : Upd [d] w4 (w4.setCell ⟨d, 3, none⟩ v') := Upd.setCell _ _ _ (by simp)
  have off4 : Off w4 5 [d] := Off.cons_cells hd4 (by decide) (Off.nil _ _)
  have hn4 : nb ∉ [d] := by simp; exact hnb4.ne_cells hd4
  have hs4 : sb ∉ [d] := by simp; exact hsb4.ne_cells hd4
  have hv4 := own_ne_cells hd4 r2 (by decide)
  refine ⟨v', w4, (by obtain ⟨ao, cap, h9, _⟩ := (Rd.of_own r2).shape; exact ⟨ao, _, cap, h9⟩), r1, hU, ?_, frozen_lit w4 d 3 _ _ hd4, ⟨⟨nb, sb, v', cells ++ [.int .i64 c.kind, encS c.a, encS c.b, pv], rfl, ?_, hnb4.upd hU2 off4 hn4, hsb4.upd hU2 off4 hs4, hne, ?_, ?_⟩, inv, most⟩, ?_, ?_⟩
  · rw [cell_lit w4 d 3 _ _ _ hd4]; rfl
  · rw [setCell_get hd4]; rfl
  · rw [hD, List.length_append]
    exact Own.upd r2 hU2 (fun g hg => by simp; exact hv4 g hg)
  · rw [hD]; exact hc4.upd hU2 off4
  · exact (hU.mono (T := d :: lv.ownBlock.toList) (fun i hi _ => List.mem_cons_of_mem _ hi)).trans hU2 (fun i hi _ => by simp at hi; subst hi; simp)
  · intro k hk
    simp only [List.mem_cons, Option.mem_toList] at hk
    rcases hk with rfl | rfl | rfl | hk
    · left; simp
    · left; simp
    · left; simp
    · rcases r4 with r4 | r4
      · left; rw [r4] at hk; simp [hk]
      · right; rw [r4] at hk
        have hk' : (w.drew.alloc (.cells #[Value.int IntKind.i64 c.kind, encS c.a, encS c.b, pv] 190)).heap.size = k := Option.some.inj hk
        rw [← hk']; exact hU0.size

set_option maxRecDepth 100000 in
set_option maxHeartbeats 2000000 in
theorem disk_does_yes (w : World) (d : Nat) (S : List Nat) (D : DSt) (h : DiskAt w d S D) (c : Chg) (pv : Value) (h0 : D.fuse ≠ 0) (hk : c.kind ≤ 3) (hp : By w pv c.p) (hpl : c.p.length ≤ 1048576)
    (hr : c.kind = 1 → used D.now + c.p.length ≤ D.room) (hl : D.loose.length ≤ 1000000000) :
    Calls Tryz.prog 123 #[.pointer (some ⟨d, 0, none⟩), chgV c pv] w (DPost w d S (D.does c)) := by
  have hU0 : Upd [] w (w.alloc (Obj.cells #[Value.int IntKind.i64 c.kind, encS c.a, encS c.b, pv] 190)) := Upd.alloc [] _ _
  have h1 := h.upd0 hU0
  have H0 := Lib.hid h0; clear h0
  have hmem : ∀ k ∈ S, k < w.heap.size := h.lt
  have hb0 : (w.alloc (Obj.cells #[Value.int IntKind.i64 c.kind, encS c.a, encS c.b, pv] 190)).heap[w.heap.size]? = some (Obj.cells #[Value.int IntKind.i64 c.kind, encS c.a, encS c.b, pv] 190) := heap_alloc_new w _
  have Hb0 := Lib.hid hb0; clear hb0
  have HM := Lib.hid hmem; clear hmem
  have HL := Lib.hid hl
  have hinv : DInv { D with fuse := burn D.fuse, now := fdo D.now c, loose := D.loose ++ [c] } := by
    have h2 := h.inv.does c hk hpl hr
    simpa [DSt.does, H0.out] using h2
  have HINV := Lib.hid hinv; clear hinv
  obtain ⟨_, _, _, _, _, hd0, _⟩ := h.ex
  have HD0 := Lib.hid (Off.cons_cells (e := 5) (by rw [hU0.keep d (lt_of_get hd0) (by simp)]; exact hd0) (by decide) (Off.nil (w.alloc (Obj.cells #[Value.int IntKind.i64 c.kind, encS c.a, encS c.b, pv] 190)) _))
  clear hd0
  go_enter Tryz.func123, Tryz.ntmps123
  go_wp2_with (go_at_call 124; refine (disk_spend_yes _ d S D h1 H0.out).mono ?_; rintro e w1 ⟨rfl, hD1, hU1⟩)
  obtain ⟨nb, sb, lv, cells, hS, hd1, hnb, hsb, hne, hown, hcc⟩ := hD1.ex
  have hdlt : d < w.heap.size := HM.out d (by rw [hS]; simp)
  have hb1 := hU1.get Hb0.out (show w.heap.size ∉ [d] by simp; omega)
  have b0 : w1.cell? ⟨w.heap.size, 0, none⟩ = some (.int .i64 c.kind) := by rw [cell_lit w1 _ 0 _ _ _ hb1]; rfl
  have b1 : w1.cell? ⟨w.heap.size, 1, none⟩ = some (encS c.a) := by rw [cell_lit w1 _ 1 _ _ _ hb1]; rfl
  have b2 : w1.cell? ⟨w.heap.size, 2, none⟩ = some (encS c.b) := by rw [cell_lit w1 _ 2 _ _ _ hb1]; rfl
  have b3 : w1.cell? ⟨w.heap.size, 3, none⟩ = some pv := by rw [cell_lit w1 _ 3 _ _ _ hb1]; rfl
  have c1 : w1.cell? ⟨d, 1, none⟩ = some (.map (some nb)) := by rw [cell_lit w1 _ 1 _ _ _ hd1]; rfl
  have hpw1 : By w1 pv c.p := (hp.upd0 hU0).upd hU1 HD0.out
  have hbnd : used D.now + c.p.length ≤ 1073741824 := by have := h.inv.usedNow; have := h.inv.room; omega
  have hnd : d ∉ [nb] := by
    obtain ⟨es, m', hw, _⟩ := hnb
    obtain ⟨arr, cl, hb, _⟩ := hw.ex
    intro hm; simp at hm; subst hm; rw [hd1] at hb; cases hb
  have hnb2 : w.heap.size ∉ [nb] := by
    have := HM.out nb (by rw [hS]; simp)
    simp; omega
  have hdo := files_do w1.drew nb D.now (hnb.upd (Upd.drew [] w1) (Off.nil _ _) (by simp)) c hk pv (hpw1.upd0 (Upd.drew [] w1)) hbnd
  have HDO := Lib.hid hdo
  have HS := Lib.hid hS; have Hd1 := Lib.hid hd1; have Hb1 := Lib.hid hb1; have HND := Lib.hid hnd; have HNB2 := Lib.hid hnb2; have HNE := Lib.hid hne
  clear hdo hS hd1 hb1 hnd hnb2 hne hp hr hpl hl hk hbnd
  go_region_held3 (fun W => W.cell? ⟨w.heap.size, 0, none⟩ = some (.int .i64 c.kind) ∧ W.cell? ⟨w.heap.size, 1, none⟩ = some (encS c.a) ∧ W.cell? ⟨w.heap.size, 2, none⟩ = some (encS c.b) ∧ W.cell? ⟨w.heap.size, 3, none⟩ = some pv ∧ W.cell? ⟨d, 1, none⟩ = some (.map (some nb)))
    (first | go_keep | exact ⟨hU2.cell b0 HNB2.out, hU2.cell b1 HNB2.out, hU2.cell b2 HNB2.out, hU2.cell b3 HNB2.out, hU2.cell c1 HND.out⟩)
    ((go_at_call 119; refine HDO.out.mono ?_; rintro e w2 ⟨rfl, hM2, hU2⟩))
  -- the second region: the change is laid behind the loose ones
  have hU2' : Upd [nb] w1 w2 := (Upd.drew [nb] w1).trans hU2 (fun i hi _ => hi)
  have hoff2 : Off w1 5 [nb] := hnb.off (Off.nil _ _)
  have hd2 := hU2'.get Hd1.out HND.out
  have hb2 := hU2'.get Hb1.out HNB2.out
  have hsb2 : MapB w2 sb D.sure := hsb.upd hU2' hoff2 (by simp; exact fun e => HNE.out e.symm)
  have hcc2 := hcc.upd hU2' hoff2
  have hlvn : ∀ g, lv.ownBlock = some g → g ∉ [nb] := by
    intro g hg hm
    simp only [List.mem_singleton] at hm
    subst hm
    obtain ⟨es, m', hw, _⟩ := hnb
    obtain ⟨arr, cl, hb, _⟩ := hw.ex
    rcases hown.2 with ⟨rfl, _⟩ | ⟨g', cap, cur, rfl, _, hg', _⟩
    · simp [Value.ownBlock] at hg
    · simp [Value.ownBlock] at hg; subst hg; rw [hb] at hg'; cases hg'
  have hown2 := Own.upd hown hU2' hlvn
  have hpw2 : By w2 pv c.p := hpw1.upd hU2' hoff2
  have hSd : d ∈ S := by rw [HS.out]; simp
  have hSn : nb ∈ S := by rw [HS.out]; simp
  have hU12 : Upd S w w2 := ((hU0.mono (T := S) (by simp)).trans hU1 (fun i hi _ => by simp at hi; subst hi; exact hSd)).trans hU2' (fun i hi _ => by simp at hi; subst hi; exact hSn)
  obtain ⟨v', w4, ⟨aov, nv, capv, rfl⟩, r1, r2, r3, r4, r5, r6, r7⟩ := loose_push w2 d nb sb lv cells { D with fuse := burn D.fuse, now := fdo D.now c, loose := D.loose ++ [c] } c pv D.loose rfl hd2 hM2 hsb2 HNE.out hown2 hcc2 hpw2 HL.out HINV.out hD1.most _ rfl 114
  have hboxne : w.heap.size ∉ lv.ownBlock.toList := by
    intro hm
    have := HM.out w.heap.size (by rw [HS.out]; simp at hm ⊢; simp [hm])
    omega
  have hb4 := r2.get hb2 hboxne
  have q0 : ∀ W : World, W.heap[w.heap.size]? = some (Obj.cells #[Value.int IntKind.i64 c.kind, encS c.a, encS c.b, pv] 190) → W.cell? ⟨d, 3, none⟩ = some lv →
      W.cell? ⟨w.heap.size, 0, none⟩ = some (.int .i64 c.kind) ∧ W.cell? ⟨w.heap.size, 1, none⟩ = some (encS c.a) ∧ W.cell? ⟨w.heap.size, 2, none⟩ = some (encS c.b) ∧ W.cell? ⟨w.heap.size, 3, none⟩ = some pv ∧ W.cell? ⟨d, 3, none⟩ = some lv := by
    intro W hW hl
    refine ⟨?_, ?_, ?_, ?_, hl⟩
    all_goals
      rw [cell_lit W _ _ _ _ _ hW]
      rfl
  have e3 : w2.cell? ⟨d, 3, none⟩ = some lv := by rw [cell_lit w2 _ 3 _ _ _ hd2]; rfl
  have hU2a : Upd [] w2 (w2.drew.alloc (Obj.cells #[Value.int IntKind.i64 c.kind, encS c.a, encS c.b, pv] 190)) := (Upd.drew [] w2).trans0 (Upd.alloc [] _ _)
  have HS0 := q0 w2.drew hb2 e3
  have HS1 := q0 _ (hU2a.get hb2 (by simp)) (hU2a.cell e3 (by simp))
  have HS2 := q0 w4 hb4 r3
  have R1 := Lib.hid r1
  have RS := Lib.hid (run_store_slice (P := Tryz.prog) (T := 114) (by kernel_rfl) r3 r4 aov nv capv)
  have RL := Lib.hid (show (Instr.buildSlice 114 1 #[(0, chgV c pv)]).run Tryz.prog w2.drew = .ok (.slice (some ⟨w2.heap.size, 0, none⟩) 1 1) (w2.drew.alloc (Obj.cells #[Value.int IntKind.i64 c.kind, encS c.a, encS c.b, pv] 190)) from run_lit elChange (chgV c pv) rfl (by omega))
  have HF := Lib.hid (show DPost w d S (D.does c) (.returned (.int .i64 (0 : Nat))) (w4.setCell ⟨d, 3, none⟩ (.slice aov nv capv)) from by
    have hdoes : D.does c = ({ D with fuse := burn D.fuse, now := fdo D.now c, loose := D.loose ++ [c] }, 0) := by simp [DSt.does, H0.out]
    rw [hdoes]
    refine ⟨rfl, _, r5, hU12.trans r6 (fun i hi _ => ?_), ?_⟩
    · rw [HS.out]; simp at hi ⊢; rcases hi with hi | hi <;> simp [hi]
    · intro k hk
      rcases r7 k hk with h7 | h7
      · left; rw [HS.out]; exact h7
      · right; exact Nat.le_trans hU12.size h7)
  have H0' := Lib.hid HS0; have H1' := Lib.hid HS1; have H2' := Lib.hid HS2; have F3 := Lib.hid r3; have F4 := Lib.hid r4
  clear q0 HS0 HS1 HS2 r1 r2 r3 r4 r5 r6 r7 hU2a e3 hb4 hboxne hU12 hSd hSn hU2' hoff2 hd2 hb2 hsb2 hcc2 hlvn hown2 hpw2 b0 b1 b2 b3 c1 hnb hsb hown hcc hdlt hpw1 hM2 hU2 hU1 hD1 h1 hU0 h
  go_wp2_with fail
  refine wp_region_noPanic ?_
  refine wp_region_M 10 (fun W => W.cell? ⟨w.heap.size, 0, none⟩ = some (.int .i64 c.kind) ∧ W.cell? ⟨w.heap.size, 1, none⟩ = some (encS c.a) ∧ W.cell? ⟨w.heap.size, 2, none⟩ = some (encS c.b) ∧ W.cell? ⟨w.heap.size, 3, none⟩ = some pv ∧ W.cell? ⟨d, 3, none⟩ = some lv) (by kernel_rfl) ?_
  (refine wpAnyM_takeO (i := 0) (dst := (some 17)) (op := (Go.Op.move (Go.Operand.tmp 0))) (v := ?_) (by rfl) (by kernel_rfl) (by kernel_rfl) (by kernel_rfl) (by kernel_rfl) (by rfl) (fun _ _ _ h => h) ?_ H0'.out ?_; rotate_left; (focus (intro _ _ _ W HW; (try dsimp only at HW); go_simp; (try with_reducible rfl))); (try simp only [Act.put, List.setIfInBounds_toArray, List.set_cons_zero, List.set_cons_succ]))
  (refine wpAnyM_takeO (i := 1) (dst := (some 18)) (op := (Go.Op.move (Go.Operand.tmp 0))) (v := ?_) (by rfl) (by kernel_rfl) (by kernel_rfl) (by kernel_rfl) (by kernel_rfl) (by rfl) (fun _ _ _ h => h) ?_ H0'.out ?_; rotate_left; (focus (intro _ _ _ W HW; (try dsimp only at HW); go_simp; (try with_reducible rfl))); (try simp only [Act.put, List.setIfInBounds_toArray, List.set_cons_zero, List.set_cons_succ]))
  (refine wpAnyM_takeO (i := 2) (dst := (some 19)) (op := (Go.Op.nilCheck (Go.Operand.tmp 18))) (v := ?_) (by rfl) (by kernel_rfl) (by kernel_rfl) (by kernel_rfl) (by kernel_rfl) (by rfl) (fun _ _ _ h => h) ?_ H0'.out ?_; rotate_left; (focus (intro _ _ _ W HW; (try dsimp only at HW); go_simp; (try with_reducible rfl))); (try simp only [Act.put, List.setIfInBounds_toArray, List.set_cons_zero, List.set_cons_succ]))
  (refine wpAnyM_takeO (i := 3) (dst := (some 20)) (op := (Go.Op.fieldAddr 116 (Go.Operand.tmp 19) 3)) (v := ?_) (by rfl) (by kernel_rfl) (by kernel_rfl) (by kernel_rfl) (by kernel_rfl) (by rfl) (fun _ _ _ h => h) ?_ H0'.out ?_; rotate_left; (focus (intro _ _ _ W HW; (try dsimp only at HW); go_simp; (try with_reducible rfl))); (try simp only [Act.put, List.setIfInBounds_toArray, List.set_cons_zero, List.set_cons_succ]))
  (refine wpAnyM_takeO (i := 4) (dst := (some 21)) (op := (Go.Op.load 114 (Go.Operand.tmp 20))) (v := ?_) (by rfl) (by kernel_rfl) (by kernel_rfl) (by kernel_rfl) (by kernel_rfl) (by rfl) (fun _ _ _ h => h) ?_ H0'.out ?_; rotate_left; (focus (intro _ _ _ W HW; (try dsimp only at HW); go_simp; (try with_reducible rfl))); (try simp only [Act.put, List.setIfInBounds_toArray, List.set_cons_zero, List.set_cons_succ]))
  (refine wpAnyM_takeO (i := 5) (dst := (some 22)) (op := (Go.Op.load 190 (Go.Operand.tmp 3))) (v := ?_) (by rfl) (by kernel_rfl) (by kernel_rfl) (by kernel_rfl) (by kernel_rfl) (by rfl) (fun _ _ _ h => h) ?_ H0'.out ?_; rotate_left; (focus (intro _ _ _ W HW; (try dsimp only at HW); go_simp; (try with_reducible rfl))); (try simp only [Act.put, List.setIfInBounds_toArray, List.set_cons_zero, List.set_cons_succ]))
  (refine wpAnyM_val (i := 6) (dst := (some 23)) (op := (Go.Op.buildSlice 114 1 #[(0, (Go.Operand.tmp 22))])) (by rfl) (by kernel_rfl) (ex_lit RL.out (by rfl)) (.inr H1'.out) ?_; (try simp only [Act.put, List.setIfInBounds_toArray, List.set_cons_zero, List.set_cons_succ]))
  (refine wpAnyM_val (i := 7) (dst := (some 24)) (op := (Go.Op.call { callee := (Go.Callee.builtin Go.Builtin.append), args := #[(Go.Operand.tmp 21), (Go.Operand.tmp 23)], argTypes := #[114, 114] })) (by rfl) (by kernel_rfl) (ex_append R1.out (by rfl) (by rfl)) (.inr H2'.out) ?_; (try simp only [Act.put, List.setIfInBounds_toArray, List.set_cons_zero, List.set_cons_succ]))
  (refine wpAnyM_val (i := 8) (dst := (some 25)) (op := (Go.Op.nilCheck (Go.Operand.tmp 17))) (by rfl) (by kernel_rfl) (fun _ _ _ => by go_simp; rfl) (.inr H2'.out) ?_; (try simp only [Act.put, List.setIfInBounds_toArray, List.set_cons_zero, List.set_cons_succ]))
  (refine wpAnyM_val (i := 9) (dst := (some 26)) (op := (Go.Op.fieldAddr 116 (Go.Operand.tmp 25) 3)) (by rfl) (by kernel_rfl) (fun _ _ _ => by go_simp; rfl) (.inr H2'.out) ?_; (try simp only [Act.put, List.setIfInBounds_toArray, List.set_cons_zero, List.set_cons_succ]))
  (refine wpAnyM_skip (i := 10) (dst := none) (op := (Go.Op.store 114 (Go.Operand.tmp 26) (Go.Operand.tmp 24))) (by rfl) (by kernel_rfl) (ex_store RS.out (by rfl) (by rfl)) (.inl (by rfl)) ?_; (try simp only [Act.put, List.setIfInBounds_toArray, List.set_cons_zero, List.set_cons_succ]))
  refine wpAnyM_done (by kernel_rfl) ?_ _
  refine NoPanic.normal ?_
  go_wp2_with fail
  go_ret
  exact HF.out

theorem disk_does (w : World) (d : Nat) (S : List Nat) (D : DSt) (h : DiskAt w d S D) (c : Chg) (pv : Value) (hk : c.kind ≤ 3) (hp : By w pv c.p) (hpl : c.p.length ≤ 1048576)
    (hr : c.kind = 1 → used D.now + c.p.length ≤ D.room) (hl : D.loose.length ≤ 1000000000) :
    Calls Tryz.prog 123 #[.pointer (some ⟨d, 0, none⟩), chgV c pv] w (DPost w d S (D.does c)) := by
  by_cases h0 : D.fuse = 0
  · exact disk_does_no w d S D h c pv h0
  · exact disk_does_yes w d S D h c pv h0 hk hp hpl hr hl
end Go.Proofs.YthfbfdkjgkkpcaaGreat

namespace Go.Proofs.YthfbfdkjgkkpcaaGreat
open Go Go.RowKit

theorem disk_isName (w : World) (s : List UInt8) (hs : s.length ≤ 9223372036854775807) :
    Calls Tryz.prog 53 #[encS s] w fun e w' => e = .returned (.bool (isName s)) ∧ w = w' := by
  by_cases h0 : s = []
  · subst h0
    go_enter Tryz.func53, Tryz.ntmps53
    go_wp2
    go_ret
    exact ⟨rfl, rfl⟩
  · have h1 : s.isEmpty = false := by simpa using h0
    have h2 : isName s = decide ((s.length : Int) ≤ 160) := by
      rw [Bool.eq_iff_iff]; simp [isName, h0]; omega
    rw [h2]
    clear h2
    generalize hq : decide ((s.length : Int) ≤ 160) = q
    go_enter Tryz.func53, Tryz.ntmps53
    go_wp2
    go_ret
    refine ⟨?_, rfl⟩
    simp [h1]

/-- What `there` says. -/
def DSt.there (D : DSt) (name : List UInt8) : Nat := if D.down then 5 else if (aget name D.now).isNone then 6 else 0

/-- The state's files, seen in memory: the map's block and its pairs. -/
theorem MapB.find {w : World} {mb : Nat} {m : List (List UInt8 × List UInt8)} (h : MapB w mb m) : ∃ es, MapW w mb es ∧ es.length = m.length ∧ (∀ k, (aget k es).isSome = (aget k m).isSome) ∧ ∀ k, By w ((aget k es).getD (.slice none 0 0)) ((aget k m).getD []) := by
  obtain ⟨es, m', h1, h2, h3⟩ := h
  have hn : (m.map (·.1)).Nodup := MapB.nodup ⟨es, m', h1, h2, h3⟩
  refine ⟨es, h1, ?_, fun k => ?_, fun k => ?_⟩
  · have := congrArg List.length h2.keys
    simp at this
    rw [this, h3.length_eq]
  · have hag : aget k m' = aget k m := aget_perm h3 ((h3.map _).nodup_iff.2 hn)
    rcases h2.get k with ⟨h4, h5⟩ | ⟨v, l, h4, h5, h6⟩
    · rw [h4, ← hag, h5]; rfl
    · rw [h4, ← hag, h5]; rfl
  · have hag : aget k m' = aget k m := aget_perm h3 ((h3.map _).nodup_iff.2 hn)
    rw [← hag]
    exact h2.getD k

theorem disk_there (w : World) (d : Nat) (S : List Nat) (D : DSt) (h : DiskAt w d S D) (name : List UInt8) :
    Calls Tryz.prog 122 #[.pointer (some ⟨d, 0, none⟩), encS name] w fun e w' => e = .returned (.int .i64 (D.there name)) ∧ w = w' := by
  obtain ⟨nb, sb, lv, cells, rfl, hd, hnb, _⟩ := h.ex
  have c1 : w.cell? ⟨d, 1, none⟩ = some (.map (some nb)) := by rw [cell_lit w d 1 _ _ _ hd]; rfl
  obtain ⟨es, hW, _, hsome, _⟩ := hnb.find
  have hup := disk_up w d _ D h
  clear hd hnb
  unfold DSt.there
  by_cases hdn : D.down = true
  · simp only [hdn, if_true] at hup ⊢
    go_enter Tryz.func122, Tryz.ntmps122
    go_wp2_with (go_at_call 118; refine hup.mono ?_; rintro e w1 ⟨rfl, rfl⟩)
    go_ret
    exact ⟨rfl, rfl⟩
  · have hdn' : D.down = false := by simpa using hdn
    simp only [hdn', Bool.false_eq_true, if_false] at hup ⊢
    have hs := hsome name
    cases hc : aget name D.now with
    | none =>
      rw [hc] at hs
      go_enter Tryz.func122, Tryz.ntmps122
      go_wp2_with (first
        | (go_at_call 118; refine hup.mono ?_; rintro e w1 ⟨rfl, rfl⟩)
        | ((with_reducible show wpList _ _ _ (⟨_, .lookup _ _ _ _, _, _, _, _⟩ :: _) _ _); refine wpl_lookup_ok mapFiles rfl rfl hW rfl name rfl _ rfl false hs ?_))
      go_ret
      exact ⟨rfl, rfl⟩
    | some l =>
      rw [hc] at hs
      go_enter Tryz.func122, Tryz.ntmps122
      go_wp2_with (first
        | (go_at_call 118; refine hup.mono ?_; rintro e w1 ⟨rfl, rfl⟩)
        | ((with_reducible show wpList _ _ _ (⟨_, .lookup _ _ _ _, _, _, _, _⟩ :: _) _ _); refine wpl_lookup_ok mapFiles rfl rfl hW rfl name rfl _ rfl true hs ?_))
      go_ret
      exact ⟨rfl, rfl⟩
theorem disk_there_nil (w : World) (name : List UInt8) :
    Calls Tryz.prog 122 #[.pointer none, encS name] w fun e w' => e = .returned (.int .i64 2) ∧ w = w' := by
  have hup := disk_up_nil w
  go_enter Tryz.func122, Tryz.ntmps122
  go_wp2_with (go_at_call 118; refine hup.mono ?_; rintro e w1 ⟨rfl, rfl⟩)
  go_ret
  exact ⟨rfl, rfl⟩

/-- Size. -/
def DSt.size (D : DSt) (name : List UInt8) : Nat × Nat := if D.there name = 0 then (((aget name D.now).getD []).length, 0) else (0, D.there name)
theorem disk_size (w : World) (d : Nat) (S : List Nat) (D : DSt) (h : DiskAt w d S D) (name : List UInt8) :
    Calls Tryz.prog 55 #[.pointer (some ⟨d, 0, none⟩), encS name] w fun e w' => e = .returned (.tuple #[.int .i64 (D.size name).1, .int .i64 (D.size name).2]) ∧ w = w' := by
  have ht := disk_there w d S D h name
  obtain ⟨nb, sb, lv, cells, rfl, hd, hnb, _⟩ := h.ex
  have c1 : w.cell? ⟨d, 1, none⟩ = some (.map (some nb)) := by rw [cell_lit w d 1 _ _ _ hd]; rfl
  obtain ⟨es, hW, _, _, hby⟩ := hnb.find
  obtain ⟨ao, cap, hv⟩ := (hby name).val
  clear hd hnb hby
  unfold DSt.size
  generalize D.there name = t at ht
  by_cases h0 : t = 0
  · subst h0
    simp only [if_true]
    go_enter Tryz.func55, Tryz.ntmps55
    go_wp2_with (first
      | (go_at_call 122; refine ht.mono ?_; rintro e w1 ⟨rfl, rfl⟩)
      | ((with_reducible show wpList _ _ _ (⟨_, .lookup _ _ _ _, _, _, _, _⟩ :: _) _ _); refine wpl_lookup mapFiles rfl rfl hW rfl name rfl _ hv ?_))
    go_ret2
    exact ⟨rfl, rfl⟩
  · simp only [if_neg h0]
    have h1 : ((t : Int) == 0) = false := by simp; omega
    have h2 : ((t : Int) = 0) = False := by simp; omega
    go_enter Tryz.func55, Tryz.ntmps55
    go_wp2_with (first
      | (go_at_call 122; refine ht.mono ?_; rintro e w1 ⟨rfl, rfl⟩))
    go_ret2
    exact ⟨rfl, rfl⟩

/-- All bytes of a map's entries. -/
def lenSum : List MapEntry → Array Nat → Nat
  | [], _ => 0
  | x :: l, seen => (if seen.contains x.born then (match x.val with | .slice _ n _ => n | _ => 0) else 0) + lenSum l seen
theorem lenSum_other (seen : Array Nat) (b : Nat) : ∀ (es : List MapEntry), b ∉ es.map (·.born) → lenSum es (seen.push b) = lenSum es seen
  | [], _ => rfl
  | x :: l, h => by
    have hx : (x.born == b) = false := by
      cases hc : x.born == b with
      | false => rfl
      | true => exact absurd (List.mem_cons.2 (Or.inl (beq_iff_eq.1 hc).symm)) h
    have ih := lenSum_other seen b l (fun e => h (List.mem_cons.2 (Or.inr e)))
    simp only [lenSum, contains_push, hx, Bool.or_false, ih]
theorem lenSum_push (seen : Array Nat) (e : MapEntry) (hs : seen.contains e.born = false) {ao : Option Addr} {n cap : Nat} (hv : e.val = .slice ao n cap) : ∀ (es : List MapEntry), (es.map (·.born)).Nodup → e ∈ es → lenSum es (seen.push e.born) = lenSum es seen + n
  | x :: l, hn, he => by
    have hn' : x.born ∉ l.map (·.born) ∧ (l.map (·.born)).Nodup := List.nodup_cons.1 hn
    rcases List.mem_cons.1 he with rfl | h
    · simp only [lenSum, contains_push, hs, beq_self_eq_true, Bool.or_true, if_true, Bool.false_eq_true, if_false, lenSum_other seen e.born l hn'.1, hv]
      omega
    · have hx : (x.born == e.born) = false := by
        cases hc : x.born == e.born with
        | false => rfl
        | true => exact absurd (by rw [beq_iff_eq.1 hc]; exact List.mem_map.2 ⟨e, h, rfl⟩) hn'.1
      simp only [lenSum, contains_push, hx, Bool.or_false, lenSum_push seen e hs hv l hn'.2 h]
      omega
theorem lenSum_none : ∀ (es : List MapEntry), lenSum es #[] = 0
  | [] => rfl
  | x :: l => by
    have : (#[] : Array Nat).contains x.born = false := by simp
    simp only [lenSum, this, Bool.false_eq_true, if_false, lenSum_none l]
theorem lenSum_le (seen : Array Nat) : ∀ (es : List MapEntry) (m : List (List UInt8 × List UInt8)) (ps : List (List UInt8 × Value)) (w : World), Ents es ps → Vals w ps m → lenSum es seen ≤ used m ∧ ((∀ x ∈ es, seen.contains x.born = true) → lenSum es seen = used m) ∧ ∀ x ∈ es, ∃ ao n cap, x.val = .slice ao n cap
  | [], m, ps, w, h, hv => by
    cases ps with
    | cons p ps => cases h
    | nil =>
      cases m with
      | cons q m => cases hv
      | nil => exact ⟨Nat.le_refl _, fun _ => rfl, by simp⟩
  | x :: l, m, ps, w, h, hv => by
    cases ps with
    | nil => cases h
    | cons p ps =>
      cases m with
      | nil => cases hv
      | cons q m =>
        simp only [Ents, List.map_cons, List.cons.injEq, Prod.mk.injEq] at h
        obtain ⟨h1, h2⟩ := h
        cases hv with | cons h34 h5 =>
        obtain ⟨h3, h4⟩ := h34
        obtain ⟨i1, i2, i3⟩ := lenSum_le seen l m ps w h2 h5
        obtain ⟨ao, cap, hsl⟩ := h4.val
        have hxv : x.val = .slice ao q.2.length cap := by rw [h1.2, hsl]
        refine ⟨?_, fun hall => ?_, fun y hy => ?_⟩
        · simp only [lenSum, used, hxv]; split <;> omega
        · have := i2 (fun y hy => hall y (List.mem_cons_of_mem _ hy))
          simp only [lenSum, used, hxv, hall x (by simp), if_true, this]
        · rcases List.mem_cons.1 hy with rfl | hy
          · exact ⟨_, _, _, hxv⟩
          · exact i3 y hy
theorem left_none {es : Array MapEntry} {seen : Array Nat} (h0 : (leftOf es seen).size = 0) : ∀ x ∈ es.toList, seen.contains x.born = true := by
  intro x hx
  cases hc : seen.contains x.born with
  | true => rfl
  | false =>
    have hm : x ∈ leftOf es seen := Array.mem_filter.2 ⟨by simpa using hx, by rw [hc]; rfl⟩
    have := Array.eq_empty_of_size_eq_zero h0
    rw [this] at hm
    simp at hm

def UsedRel (w : World) (nb clock : Nat) (es : Array MapEntry) (s : Value) (w' : World) : Prop :=
  ∃ (w1 : World) (seen : Array Nat), w1.Alike w ∧ w1.tape = w.tape ∧ w' = w1.alloc (.mapIter (some nb) clock seen clock) ∧ s = .int .i64 (lenSum es.toList seen)
/-- A step that leaves the tape. -/
def KeepsT {α : Type} (P : Program) (s : Sem α) : Prop := ∀ w v w', s.run P w = .ok v w' → w'.tape = w.tape
theorem keepsT_pure {α : Type} {P : Program} (a : α) : KeepsT P (pure a : Sem α) := fun w v w' h => by
  cases h; rfl
theorem keepsT_bind {α β : Type} {P : Program} {s : Sem α} {k : α → Sem β} (h1 : KeepsT P s) (h2 : ∀ a, KeepsT P (k a)) : KeepsT P (s >>= k) := fun w v w' h => by
  rw [Sem.run_bind] at h
  cases hs : s.run P w with
  | ok a w1 =>
    rw [hs] at h
    exact (h2 a w1 v w' h).trans (h1 w a w1 hs)
  | halt e w1 =>
    rw [hs] at h
    cases h
theorem keepsT_getObj {P : Program} (r : Nat) : KeepsT P (getObj r) := fun w v w' h => by
  simp only [getObj, Sem.run] at h
  split at h
  · cases h
  · cases h; rfl
  · cases h
theorem keepsT_setObj {P : Program} (r : Nat) (o : Obj) : KeepsT P (setObj r o) := fun w v w' h => by
  simp only [setObj, Sem.run] at h
  split at h
  · cases h
  · cases h; rfl
  · cases h
theorem keepsT_choose {P : Program} (q : Question) : KeepsT P (choose q) := fun w v w' h => by
  simp only [choose, Sem.run] at h
  split at h
  · cases h; rfl
  · cases h; rfl
theorem keepsT_halt {α : Type} {P : Program} (e : Halt) : KeepsT P (Sem.halt e : Sem α) := fun w v w' h => by cases h
theorem next_tape {P : Program} {it : Value} {ty : TypeId} : KeepsT P (Instr.next it false ty) := by
  unfold Instr.next
  repeat' first | exact keepsT_pure _ | exact keepsT_getObj _ | exact keepsT_setObj _ _ | exact keepsT_choose _ | exact keepsT_halt _ | (refine keepsT_bind ?_ (fun _ => ?_)) | split
theorem upd_alike {w w1 : World} (h : w1.Alike w) (ht : w1.tape = w.tape) : Upd [] w w1 := by
  obtain ⟨h1, h2, h3⟩ := h
  exact ⟨h2, ht, h3, by rw [h1]; exact Nat.le_refl _, fun k _ _ => by rw [h1]⟩

set_option maxRecDepth 100000 in
theorem disk_used (w : World) (d : Nat) (S : List Nat) (D : DSt) (h : DiskAt w d S D) :
    Calls Tryz.prog 94 #[.pointer (some ⟨d, 0, none⟩)] w fun e w' => e = .returned (.int .i64 (used D.now)) ∧ Upd [] w w' := by
  have hroom : used D.now ≤ 67108864 := Nat.le_trans h.inv.usedNow h.inv.room
  obtain ⟨nb, sb, lv, cells, rfl, hd, hnb, _⟩ := h.ex
  have c1 : w.cell? ⟨d, 1, none⟩ = some (.map (some nb)) := by rw [cell_lit w d 1 _ _ _ hd]; rfl
  obtain ⟨ps, m', hW, hV, hp⟩ := hnb
  obtain ⟨es, clock, hb, hE, hbn, hbl⟩ := hW.ex
  have hu : used m' = used D.now := used_perm hp
  have hsl := fun seen => lenSum_le seen es.toList m' ps w hE hV
  rw [hu] at hsl
  have hold : ∀ x ∈ es.toList, x.born < clock := fun x hx => hbl _ (List.mem_map_of_mem hx)
  have hrg := run_range_map (P := Tryz.prog) w 113 9 36 nb es clock (by kernel_rfl) hb
  clear hd hE hV hp hW
  go_enter Tryz.func94, Tryz.ntmps94
  go_wp2_with fail
  go_loopw [3] (fun s w' => UsedRel w nb clock es s w') (fun _ w' => (leftOf es (w'.iterSeen w.heap.size)).size)
  case atStart => exact ⟨w, #[], ⟨rfl, rfl, rfl⟩, rfl, rfl, by rw [lenSum_none]; rfl⟩
  case round =>
    obtain ⟨w1, seen, hal, htp, rfl, rfl⟩ := hrel
    have hsz : w1.heap.size = w.heap.size := by rw [hal.1]
    have hb1 : w1.heap[nb]? = some (.map es clock) := by rw [hal.1]; exact hb
    have law := run_next_map (P := Tryz.prog) w1 0 nb clock clock seen es clock hb1 hold (Nat.le_refl _)
    rw [hsz] at law
    rcases law with ⟨h0, hrun⟩ | ⟨e, he, w2, hal2, hrun⟩
    · have hnx : ∀ ty, (Instr.next (.pointer (some ⟨w.heap.size, 0, none⟩)) false ty).run Tryz.prog (w1.alloc (.mapIter (some nb) clock seen clock)) = _ := fun _ => hrun
      have hfin := (hsl seen).2.1 (left_none h0)
      go_wp2_with fail
      go_ret
      rw [hfin]
      exact ⟨rfl, (upd_alike hal htp).trans0 (Upd.alloc [] _ _)⟩
    · obtain ⟨ao, n, cap, hval⟩ := (hsl seen).2.2 e (mem_left he).1
      have htp2 : w2.tape = w1.tape := by
        have := next_tape (P := Tryz.prog) _ _ _ hrun
        exact this
      rw [hval] at hrun
      have hnx : ∀ ty, (Instr.next (.pointer (some ⟨w.heap.size, 0, none⟩)) false ty).run Tryz.prog (w1.alloc (.mapIter (some nb) clock seen clock)) = _ := fun _ => hrun
      have hsz2 : w2.heap.size = w.heap.size := by rw [hal2.1, hal.1]
      have hb2 : w2.heap[nb]? = some (.map es clock) := by rw [hal2.1]; exact hb1
      have hen := run_entry_map (P := Tryz.prog) w2 nb clock seen es clock e hb2 (mem_left he).1 hbn
      rw [hsz2, hval] at hen
      have hpush := lenSum_push seen e (mem_left he).2 hval es.toList hbn (mem_left he).1
      have hle := (hsl (seen.push e.born)).1
      rw [hpush] at hle
      go_wp2_with fail
      go_roundw
      case rel =>
        refine ⟨w2, seen.push e.born, ⟨hal2.1.trans hal.1, hal2.2.1.trans hal.2.1, hal2.2.2.trans hal.2.2⟩, htp2.trans htp, rfl, ?_⟩
        rw [hpush]
        go_num
      case measure =>
        rw [← hsz2, World.iterSeen_alloc, hsz2, ← hsz, World.iterSeen_alloc]
        exact left_shrinks es seen e he
end Go.Proofs.YthfbfdkjgkkpcaaGreat

namespace Go.Proofs.YthfbfdkjgkkpcaaGreat
open Go Go.RowKit

set_option maxRecDepth 100000 in
theorem slices_clone (w : World) (v : Value) (l : List UInt8) (h : By w v l) (hl : l.length ≤ 1073741824) :
    Calls Tryz.prog 107 #[v] w (RetBy w l) := by
  have h' := h
  have q : ∀ (w : World) (a : Option Addr) (n c n' c' : Nat), (binOp .eql 36 (.slice a n c) (.slice none n' c')).run Tryz.prog w = .ok (.bool a.isNone) w := fun w a n c n' c' => Lib.run_eql_slice_nil w _ _ a n c n' c' (by kernel_rfl : Tryz.prog.underlying 36 = some (.slice 5))
  have HL := Lib.hid hl; clear hl
  obtain ⟨hlen, hmx, ⟨rfl, h0⟩ | ⟨b, off, cap, cur, fz, rfl, h1, h2, h3, h4, h5⟩⟩ := h'
  · have : l = [] := List.eq_nil_of_length_eq_zero h0
    subst this
    go_enter Tryz.func107, Tryz.ntmps107
    go_wp2_with fail
    go_ret
    exact ⟨_, rfl, World.ownsRow_nil _ _ _ _, Upd.refl _ _⟩
  · clear hlen hmx h1 h2 h3 h4 h5
    go_enter Tryz.func107, Tryz.ntmps107
    go_wp2_with (first
      | ((with_reducible show wpList _ _ _ (⟨_, .buildSlice _ _ _, _, _, _, _⟩ :: _) _ _); refine wpl_lit0 elU8 rfl rfl ?_; intro v1 w1 hv1 hU1 hb1)
      | ((with_reducible show wpList _ _ _ (⟨_, .call ⟨.builtin .append, _, _⟩, _, _, _, _⟩ :: _) _ _); refine wpl_append_by elU8 rfl rfl hU1 (l := []) hv1 rfl (h.upd0 hU1) rfl (by simpa using HL.out) ?_; intro v2 w2 hv2 _ hU2 hb2))
    go_ret
    exact ⟨_, rfl, hv2, hU2⟩

theorem DSt.create_full (D : DSt) (name : List UInt8) (h1 : D.down = false) (h2 : isName name = true) (h3 : (aget name D.now).isSome = false) (h4 : ¬ 4096 ≤ D.now.length) : D.create name = D.does ⟨0, name, [], []⟩ := by
  simp only [DSt.create, h1, h2, h3, h4]
  simp
set_option maxRecDepth 100000 in
theorem disk_create (w : World) (d : Nat) (S : List Nat) (D : DSt) (h : DiskAt w d S D) (name : List UInt8) (hn : name.length ≤ 9223372036854775807) (hl : D.loose.length ≤ 1000000000) (hnow : D.now.length ≤ 9223372036854775807) :
    Calls Tryz.prog 58 #[.pointer (some ⟨d, 0, none⟩), encS name] w (DPost w d S (D.create name)) := by
  have hx := h.ex
  obtain ⟨nb, sb, lv, cells, hS, hd, hnb, _⟩ := hx
  have c1 : w.cell? ⟨d, 1, none⟩ = some (.map (some nb)) := by rw [cell_lit w d 1 _ _ _ hd]; rfl
  obtain ⟨es, hW, hlen, hsome, _⟩ := hnb.find
  have hup := disk_up w d S D h
  have hnm := disk_isName w name hn
  have hs := hsome name
  have hpost : ∀ k, D.create name = (D, k) → DPost w d S (D.create name) (.returned (.int .i64 (k : Nat))) w := by
    intro k hk
    rw [hk]
    exact ⟨rfl, S, h, Upd.refl _ _, Sub.refl _ _⟩
  have hgo : D.create name = D.does ⟨0, name, [], []⟩ → Calls Tryz.prog 123 #[.pointer (some ⟨d, 0, none⟩), chgV ⟨0, name, [], []⟩ (.slice none 0 0)] w (DPost w d S (D.create name)) := by
    intro hc
    rw [hc]
    exact disk_does w d S D h ⟨0, name, [], []⟩ _ (by simp) (Rd.nil _ _ _) (by simp) (by simp) hl
  have HP := Lib.hid hpost; have HG := Lib.hid hgo; have HN := Lib.hid hnow
  clear hd hnb hpost hgo hS hl hn hnow
  by_cases hdn : D.down = true
  · have HP' := Lib.hid (HP.out 5 (by simp [DSt.create, hdn]))
    simp only [hdn, if_true] at hup
    clear hs hnm
    go_enter Tryz.func58, Tryz.ntmps58
    go_wp2_with (go_at_call 118; refine hup.mono ?_; rintro e w1 ⟨rfl, rfl⟩)
    go_ret
    exact HP'.out
  have hdn' : D.down = false := by simpa using hdn
  simp only [hdn', Bool.false_eq_true, if_false] at hup
  cases hnq : isName name with
  | false =>
    rw [hnq] at hnm
    have HP' := Lib.hid (HP.out 1 (by simp [DSt.create, hdn', hnq]))
    generalize hb : (aget name D.now).isSome = b at *
    go_enter Tryz.func58, Tryz.ntmps58
    go_wp2_with (first
      | (go_at_call 118; refine hup.mono ?_; rintro e w1 ⟨rfl, rfl⟩)
      | (go_at_call 53; refine hnm.mono ?_; rintro e w1 ⟨rfl, rfl⟩)
      | ((with_reducible show wpList _ _ _ (⟨_, .lookup _ _ _ _, _, _, _, _⟩ :: _) _ _); refine wpl_lookup_ok mapFiles rfl rfl hW rfl name rfl _ rfl b hs ?_))
    go_ret
    exact HP'.out
  | true =>
    rw [hnq] at hnm
    cases hb : (aget name D.now).isSome with
    | true =>
      rw [hb] at hs
      have HP' := Lib.hid (HP.out 7 (by simp [DSt.create, hdn', hnq, hb]))
      go_enter Tryz.func58, Tryz.ntmps58
      go_wp2_with (first
        | (go_at_call 118; refine hup.mono ?_; rintro e w1 ⟨rfl, rfl⟩)
        | (go_at_call 53; refine hnm.mono ?_; rintro e w1 ⟨rfl, rfl⟩)
        | ((with_reducible show wpList _ _ _ (⟨_, .lookup _ _ _ _, _, _, _, _⟩ :: _) _ _); refine wpl_lookup_ok mapFiles rfl rfl hW rfl name rfl _ rfl true hs ?_))
      go_ret
      exact HP'.out
    | false =>
      rw [hb] at hs
      by_cases hf : 4096 ≤ D.now.length
      · have HP' := Lib.hid (HP.out 4 (by simp [DSt.create, hdn', hnq, hb, hf]))
        have h4 : decide ((4096 : Int) ≤ (es.length : Int)) = true := by have := HN.out; simp; omega
        clear hf hlen
        go_enter Tryz.func58, Tryz.ntmps58
        go_wp2_with (first
          | (go_at_call 118; refine hup.mono ?_; rintro e w1 ⟨rfl, rfl⟩)
          | (go_at_call 53; refine hnm.mono ?_; rintro e w1 ⟨rfl, rfl⟩)
          | ((with_reducible show wpList _ _ _ (⟨_, .lookup _ _ _ _, _, _, _, _⟩ :: _) _ _); refine wpl_lookup_ok mapFiles rfl rfl hW rfl name rfl _ rfl false hs ?_)
          | ((with_reducible show wpList _ _ _ (⟨_, .call ⟨.builtin .len, _, _⟩, _, _, _, _⟩ :: _) _ _); refine wpl_len mapFiles rfl rfl hW rfl ?_))
        go_ret
        exact HP'.out
      · have HG' := Lib.hid (HG.out (DSt.create_full D name hdn' hnq hb hf))
        have h4 : decide ((4096 : Int) ≤ (es.length : Int)) = false := by have := HN.out; simp; omega
        clear hf hlen
        go_enter Tryz.func58, Tryz.ntmps58
        go_wp2_with (first
          | (go_at_call 118; refine hup.mono ?_; rintro e w1 ⟨rfl, rfl⟩)
          | (go_at_call 53; refine hnm.mono ?_; rintro e w1 ⟨rfl, rfl⟩)
          | (go_at_call 123; refine HG'.out.mono ?_; rintro e w1 ⟨rfl, hpo⟩)
          | ((with_reducible show wpList _ _ _ (⟨_, .lookup _ _ _ _, _, _, _, _⟩ :: _) _ _); refine wpl_lookup_ok mapFiles rfl rfl hW rfl name rfl _ rfl false hs ?_)
          | ((with_reducible show wpList _ _ _ (⟨_, .call ⟨.builtin .len, _, _⟩, _, _, _, _⟩ :: _) _ _); refine wpl_len mapFiles rfl rfl hW rfl ?_))
        go_ret
        exact ⟨rfl, hpo⟩

theorem DSt.append_full (D : DSt) (name p : List UInt8) (h1 : D.down = false) (h2 : (aget name D.now).isNone = false) (h3 : ¬ 1048576 < p.length) (h4 : ¬ D.room < used D.now + p.length) : D.append name p = D.does ⟨1, name, [], p⟩ := by
  simp only [DSt.append, h1, h2, if_neg h3, if_neg h4]
  simp
set_option maxRecDepth 100000 in
set_option maxHeartbeats 400000 in
theorem disk_append (w : World) (d : Nat) (S : List Nat) (D : DSt) (h : DiskAt w d S D) (name p : List UInt8) (pv : Value) (hp : By w pv p) (hpl : p.length ≤ 1073741824) (hl : D.loose.length ≤ 1000000000) :
    Calls Tryz.prog 72 #[.pointer (some ⟨d, 0, none⟩), encS name, pv] w (DPost w d S (D.append name p)) := by
  have hx := h.ex
  have hroom := h.inv.room
  have husd := h.inv.usedNow
  obtain ⟨nb, sb, lv, cells, hS, hd, hnb, _⟩ := hx
  have c0 : w.cell? ⟨d, 0, none⟩ = some (.int .i64 D.room) := by rw [cell_lit w d 0 _ _ _ hd]; rfl
  have ht := disk_there w d S D h name
  obtain ⟨ao, cap, hsh⟩ := hp.val
  have hpost : ∀ k, D.append name p = (D, k) → ∀ w', Upd [] w w' → DPost w d S (D.append name p) (.returned (.int .i64 (k : Nat))) w' := by
    intro k hk w' hU
    rw [hk]
    exact ⟨rfl, S, h.upd0 hU, hU.mono (by simp), Sub.refl _ _⟩
  have H := Lib.hid h
  have HP := Lib.hid hpost; have HPL := Lib.hid hpl; have HL := Lib.hid hl; have HBY := Lib.hid hp; have HR := Lib.hid hroom; have HU := Lib.hid husd
  clear hd hnb hpost hS hpl hl hp h hroom husd
  by_cases h0 : D.there name ≠ 0
  · have HP' := Lib.hid (HP.out (D.there name) (by
      unfold DSt.there at h0 ⊢
      unfold DSt.append
      split
      · rfl
      split
      · rfl
      · rename_i h1 h2
        simp [h1, h2] at h0) w (Upd.refl _ _))
    have h1 : ((D.there name : Int) == 0) = false := by simp; omega
    have h2 : ((D.there name : Int) = 0) = False := by simp; omega
    generalize D.there name = t at *
    clear h0
    go_enter Tryz.func72, Tryz.ntmps72
    go_wp2_with (go_at_call 122; refine ht.mono ?_; rintro e w1 ⟨rfl, rfl⟩)
    go_ret
    exact HP'.out
  have h0 : D.there name = 0 := Classical.not_not.1 h0
  rw [h0] at ht
  have h1 : D.down = false := by
    unfold DSt.there at h0
    split at h0
    · cases h0
    · rename_i h1; simpa using h1
  have h2 : (aget name D.now).isNone = false := by
    unfold DSt.there at h0
    rw [h1] at h0
    cases hc : (aget name D.now).isNone with
    | false => rfl
    | true => rw [hc] at h0; cases h0
  have Hpr := Lib.hid h1; have Hpn := Lib.hid h2
  clear h1 h2 h0
  by_cases h3 : 1048576 < p.length
  · have h4 : decide ((1048576 : Int) < (p.length : Int)) = true := by simp; omega
    have HP' := Lib.hid (HP.out 8 (by simp only [DSt.append, Hpr.out, Hpn.out, if_pos h3]; simp) w (Upd.refl _ _))
    clear h3
    subst hsh
    go_enter Tryz.func72, Tryz.ntmps72
    go_wp2_with (go_at_call 122; refine ht.mono ?_; rintro e w1 ⟨rfl, rfl⟩)
    go_ret
    exact HP'.out
  have h4 : decide ((1048576 : Int) < (p.length : Int)) = false := by simp; omega
  have H3 := Lib.hid h3
  clear h3
  have hused := disk_used w.drew d S D (H.out.upd0 (Upd.drew _ _))
  have hsub : IntKind.i64.wrap ((D.room : Int) - (used D.now : Int)) = (D.room : Int) - (used D.now : Int) := by
    have := HR.out; have := HU.out
    simp [IntKind.wrap, show IntKind.i64.bits = 64 from rfl, show IntKind.i64.signed = true from rfl]
    omega
  by_cases h5 : D.room < used D.now + p.length
  · have h6 : decide ((D.room : Int) - (used D.now : Int) < (p.length : Int)) = true := by simp; omega
    have HP' := Lib.hid (HP.out 4 (by simp only [DSt.append, Hpr.out, Hpn.out, if_neg H3.out, if_pos h5]; simp))
    clear h5
    subst hsh
    go_enter Tryz.func72, Tryz.ntmps72
    go_wp2_with (go_at_call 122; refine ht.mono ?_; rintro e w1 ⟨rfl, rfl⟩)
    go_region_held3 (fun W => W.cell? ⟨d, 0, none⟩ = some (.int .i64 D.room)) (first | go_keep | exact hU2.cell c0 (by simp))
      ((go_at_call 94; refine hused.mono ?_; rintro e w2 ⟨rfl, hU2⟩))
    go_wp2_with fail
    go_ret
    exact HP'.out w2 ((Upd.drew [] w).trans0 hU2)
  · have h6 : decide ((D.room : Int) - (used D.now : Int) < (p.length : Int)) = false := by simp; omega
    have HF := Lib.hid (DSt.append_full D name p Hpr.out Hpn.out H3.out h5)
    have hg : ∀ (w3 : World) (v3 : Value), DiskAt w3 d S D → By w3 v3 p → Calls Tryz.prog 123 #[.pointer (some ⟨d, 0, none⟩), .agg #[.int .i64 1, encS name, .string ⟨#[]⟩, v3]] w3 (DPost w3 d S (D.append name p)) := by
      intro w3 v3 hD hv
      rw [HF.out]
      exact disk_does w3 d S D hD ⟨1, name, [], p⟩ v3 (by simp) hv (Nat.le_of_not_lt H3.out) (fun _ => Nat.le_of_not_lt h5) HL.out
    have HG := Lib.hid hg
    clear hg
    clear h5
    subst hsh
    go_enter Tryz.func72, Tryz.ntmps72
    go_wp2_with (go_at_call 122; refine ht.mono ?_; rintro e w1 ⟨rfl, rfl⟩)
    go_region_held3 (fun W => W.cell? ⟨d, 0, none⟩ = some (.int .i64 D.room)) (first | go_keep | exact hU2.cell c0 (by simp))
      ((go_at_call 94; refine hused.mono ?_; rintro e w2 ⟨rfl, hU2⟩))
    have hU2' : Upd [] w w2 := (Upd.drew [] w).trans0 hU2
    go_wp2_with (first
      | (go_at_call 107; refine (slices_clone w2 _ p (HBY.out.upd0 hU2') HPL.out).mono ?_; rintro e w3 ⟨v3, rfl, hv3, hU3⟩; have hU4 := hU2'.trans0 hU3; have hby3 := hv3.by; obtain ⟨ao3, cap3, rfl⟩ := hby3.val)
      | (go_at_call 123; refine (HG.out w3 _ (H.out.upd0 hU4) hby3).mono ?_; rintro e w5 ⟨rfl, S', hD', hU5, hS'⟩))
    go_ret
    refine ⟨rfl, S', hD', ?_, ?_⟩
    · exact (hU4.mono (T := S) (by simp)).trans hU5 (fun i hi _ => hi)
    · intro k hk
      rcases hS' k hk with h | h
      · exact .inl h
      · exact .inr (Nat.le_trans hU4.size h)
end Go.Proofs.YthfbfdkjgkkpcaaGreat

namespace Go.Proofs.YthfbfdkjgkkpcaaGreat
open Go Go.RowKit

theorem ChgCells.get {w : World} : ∀ {cs : List Value} {l : List Chg}, ChgCells w cs l → ∀ {i : Nat} {c : Chg}, l[i]? = some c →
    ∃ pv, cs[i * 4 + 0]? = some (.int .i64 c.kind) ∧ cs[i * 4 + 1]? = some (encS c.a) ∧ cs[i * 4 + 2]? = some (encS c.b) ∧ cs[i * 4 + 3]? = some pv ∧ By w pv c.p
  | [], [], _, _, _, h => by simp at h
  | k :: a :: b :: p :: r, c0 :: l, hc, 0, c, h => by
    simp only [List.getElem?_cons_zero, Option.some.injEq] at h
    subst h
    obtain ⟨rfl, rfl, rfl, hp, _⟩ := hc
    exact ⟨p, rfl, rfl, rfl, rfl, hp⟩
  | k :: a :: b :: p :: r, c0 :: l, hc, i + 1, c, h => by
    simp only [List.getElem?_cons_succ] at h
    obtain ⟨pv, h0, h1, h2, h3, h4⟩ := ChgCells.get hc.2.2.2.2 h
    refine ⟨pv, ?_, ?_, ?_, ?_, h4⟩
    · rw [show (i + 1) * 4 + 0 = (i * 4 + 0) + 4 by omega]; simpa using h0
    · rw [show (i + 1) * 4 + 1 = (i * 4 + 1) + 4 by omega]; simpa using h1
    · rw [show (i + 1) * 4 + 2 = (i * 4 + 2) + 4 by omega]; simpa using h2
    · rw [show (i + 1) * 4 + 3 = (i * 4 + 3) + 4 by omega]; simpa using h3
theorem DSt.mid_succ (D : DSt) (i : Nat) (c : Chg) (h : D.loose[i]? = some c) : D.mid (i + 1) = fdo (D.mid i) c := by
  unfold DSt.mid
  rw [List.take_add_one, h, List.foldl_append]
  rfl

def SyncRel (w1 : World) (sb : Nat) (D : DSt) (x : Value) (wr : World) : Prop := ∃ i : Nat, x = .int .i64 i ∧ i ≤ D.loose.length ∧ Upd [sb] w1 wr ∧ MapB wr sb (D.mid i)

set_option maxRecDepth 100000 in
set_option maxHeartbeats 1000000 in
theorem disk_sync_yes (w : World) (d : Nat) (S : List Nat) (D : DSt) (h : DiskAt w d S D) (hl : D.loose.length ≤ 1000000000) (hdn : D.down = false) (h0 : D.fuse ≠ 0) :
    Calls Tryz.prog 59 #[.pointer (some ⟨d, 0, none⟩)] w (DPost w d S D.sync) := by
  have hup := disk_up w d S D h
  rw [hdn] at hup
  have hsp := disk_spend_yes w d S D h h0
  have HF := Lib.hid (show D.sync = ({ D with fuse := burn D.fuse, sure := D.now, loose := [] }, 0) from by simp [DSt.sync, hdn, h0])
  have hdS : d ∈ S := by obtain ⟨nb, sb, lv, cells, rfl, _⟩ := h.ex; simp
  have HL := Lib.hid hl
  clear hl hdn h0 h
  go_enter Tryz.func59, Tryz.ntmps59
  go_wp2_with (first
    | (go_at_call 118; refine hup.mono ?_; rintro e w1 ⟨rfl, rfl⟩)
    | (go_at_call 124; refine hsp.mono ?_; rintro e w1 ⟨rfl, hD1, hU1⟩; obtain ⟨nb, sb, lv, cells, hS, hd1, hnb, hsb, hne, hown, hcc⟩ := hD1.ex; obtain ⟨ao, cap, hlv, _⟩ := (Rd.of_own hown).shape; subst hlv; (have c2 : w1.cell? ⟨d, 2, none⟩ = some (.map (some sb)) := by rw [cell_lit w1 d 2 _ _ _ hd1]; rfl); (have c3 : w1.cell? ⟨d, 3, none⟩ = some (.slice ao D.loose.length cap) := by rw [cell_lit w1 d 3 _ _ _ hd1]; rfl)))
  have hlt : sb < w1.heap.size := hsb.lt
  have hbd : ∀ (i : Nat) (c : Chg), D.loose[i]? = some c → used (D.mid i) + c.p.length ≤ 1073741824 := by
    intro i c hc
    have e1 := hD1.inv.fits i
    have e2 := hD1.inv.room
    have e3 := (hD1.inv.kinds c (List.mem_of_getElem? hc)).2
    have e4 : used (D.mid i) ≤ D.room := e1
    have e5 : D.room ≤ 67108864 := e2
    omega
  have hkd : ∀ (i : Nat) (c : Chg), D.loose[i]? = some c → c.kind ≤ 3 := fun i c hc => (hD1.inv.kinds c (List.mem_of_getElem? hc)).1
  have HB := Lib.hid hbd; have HK := Lib.hid hkd; have HD1 := Lib.hid hD1; have HC := Lib.hid hcc; have HO := Lib.hid hown; have Hd1 := Lib.hid hd1; have HS := Lib.hid hS
  have hdsb : d ∉ [sb] := by simp; exact (hsb.ne_cells hd1).symm
  clear hbd hkd hD1 hcc hown hd1 hS
  go_loopw [20] (fun x wr => SyncRel w1 sb D x wr) (fun x _ => D.loose.length - (intOf x).toNat)
  case atStart => exact ⟨0, rfl, Nat.zero_le _, Upd.refl _ _, hsb⟩
  case round =>
    obtain ⟨i, rfl, hi, hU, hM⟩ := hrel
    by_cases hlt : i < D.loose.length
    · have ht : decide ((i : Int) < (D.loose.length : Int)) = true := by simp; omega
      obtain ⟨c, hc⟩ : ∃ c, D.loose[i]? = some c := ⟨_, List.getElem?_eq_getElem hlt⟩
      obtain ⟨pv, g0, g1, g2, g3, hpv⟩ := HC.out.get hc
      have off8 : Off w1 5 [sb] := hsb.off (Off.nil _ _)
      have offc : Off w1 190 [sb] := hsb.off (Off.nil _ _)
      have hpr : By wr pv c.p := hpv.upd hU off8
      obtain ⟨ap, cp, hsp⟩ := By.val hpr
      subst hsp
      have hR : Rd wr 190 4 (.slice ao D.loose.length cap) D.loose.length cells := (Rd.of_own HO.out).upd hU offc
      go_wp2_with ((with_reducible show wpList _ _ _ (⟨_, .indexAddr _ _ _, _, _, _, _⟩ :: _) _ _); refine wpl_indexAddr elChange rfl rfl hR rfl rfl (by omega) (by omega) ?_; intro ad hcell hspot; (have k0 := hcell 0 (by omega)); (have k1 := hcell 1 (by omega)); (have k2 := hcell 2 (by omega)); (have k3 := hcell 3 (by omega)); rw [Int.toNat_natCast, g0] at k0; rw [Int.toNat_natCast, g1] at k1; rw [Int.toNat_natCast, g2] at k2; rw [Int.toNat_natCast, g3] at k3; clear hcell; obtain ⟨gb, gof, gs⟩ := ad; cases hspot; simp only [Addr.add_lit, Nat.add_zero] at k0 k1 k2 k3)
      have hUa : Upd [] wr (wr.alloc (Obj.cells #[Value.int IntKind.i64 c.kind, encS c.a, encS c.b, Value.slice ap c.p.length cp] 190)) := Upd.alloc [] _ _
      have hba := heap_alloc_new wr (Obj.cells #[Value.int IntKind.i64 c.kind, encS c.a, encS c.b, Value.slice ap c.p.length cp] 190)
      have b0 : (wr.alloc (Obj.cells #[Value.int IntKind.i64 c.kind, encS c.a, encS c.b, Value.slice ap c.p.length cp] 190)).cell? ⟨wr.heap.size, 0, none⟩ = some (.int .i64 c.kind) := by rw [cell_lit _ _ 0 _ _ _ hba]; rfl
      have b1 : (wr.alloc (Obj.cells #[Value.int IntKind.i64 c.kind, encS c.a, encS c.b, Value.slice ap c.p.length cp] 190)).cell? ⟨wr.heap.size, 1, none⟩ = some (encS c.a) := by rw [cell_lit _ _ 1 _ _ _ hba]; rfl
      have b2 : (wr.alloc (Obj.cells #[Value.int IntKind.i64 c.kind, encS c.a, encS c.b, Value.slice ap c.p.length cp] 190)).cell? ⟨wr.heap.size, 2, none⟩ = some (encS c.b) := by rw [cell_lit _ _ 2 _ _ _ hba]; rfl
      have b3 : (wr.alloc (Obj.cells #[Value.int IntKind.i64 c.kind, encS c.a, encS c.b, Value.slice ap c.p.length cp] 190)).cell? ⟨wr.heap.size, 3, none⟩ = some (Value.slice ap c.p.length cp) := by rw [cell_lit _ _ 3 _ _ _ hba]; rfl
      have d2 := hUa.cell (hU.cell c2 hdsb) (by simp)
      have hwn : wr.heap.size ∉ [sb] := by have := hM.lt; simp; omega
      have hUd : Upd [] wr (wr.alloc (Obj.cells #[Value.int IntKind.i64 c.kind, encS c.a, encS c.b, Value.slice ap c.p.length cp] 190)).drew := hUa.trans0 (Upd.drew [] _)
      have hdo := files_do (wr.alloc (Obj.cells #[Value.int IntKind.i64 c.kind, encS c.a, encS c.b, Value.slice ap c.p.length cp] 190)).drew sb (D.mid i) (hM.upd hUd (Off.nil _ _) (by simp)) c (HK.out i c hc) _ (hpr.upd0 hUd) (HB.out i c hc)
      have HDO := Lib.hid hdo
      have HMS := Lib.hid (D.mid_succ i c hc)
      clear hdo k0 k1 k2 k3 g0 g1 g2 g3 hpv hba hc
      go_region_held3 (fun W => W.cell? ⟨wr.heap.size, 0, none⟩ = some (.int .i64 c.kind) ∧ W.cell? ⟨wr.heap.size, 1, none⟩ = some (encS c.a) ∧ W.cell? ⟨wr.heap.size, 2, none⟩ = some (encS c.b) ∧ W.cell? ⟨wr.heap.size, 3, none⟩ = some (Value.slice ap c.p.length cp) ∧ W.cell? ⟨d, 2, none⟩ = some (.map (some sb)))
        (first | go_keep | exact ⟨hU2.cell b0 hwn, hU2.cell b1 hwn, hU2.cell b2 hwn, hU2.cell b3 hwn, hU2.cell d2 hdsb⟩)
        ((go_at_call 119; refine HDO.out.mono ?_; rintro e w2 ⟨rfl, hM2, hU2⟩))
      have hll := HL.out
      go_wp2_with fail
      go_roundw
      case rel =>
        refine ⟨i + 1, by go_num, hlt, hU.trans ((hUd.mono (T := [sb]) (by simp)).trans hU2 (fun j hj _ => hj)) (fun j hj _ => hj), ?_⟩
        rw [HMS.out]; exact hM2
      case measure => simp [intOf]; omega
    · have ht : decide ((i : Int) < (D.loose.length : Int)) = false := by simp; omega
      have hie : i = D.loose.length := by omega
      have e3 : wr.cell? ⟨d, 3, none⟩ = some (.slice ao D.loose.length cap) := hU.cell c3 hdsb
      have hdr := hU.get Hd1.out hdsb
      have f3 := frozen_lit wr d 3 _ _ hdr
      have HDR := Lib.hid hdr
      clear hdr
      go_wp2_with fail
      go_ret
      rw [HF.out]
      have hmid : D.mid i = D.now := by
        unfold DSt.mid
        rw [hie, List.take_length]
        exact HD1.out.inv.now
      rw [hmid] at hM
      have off8 : Off w1 5 [sb] := hsb.off (Off.nil _ _)
      have hUs : Upd [d] wr (wr.setCell ⟨d, 3, none⟩ (.slice none 0 0)) := Upd.setCell _ _ _ (by simp)
      have offd : Off wr 5 [d] := Off.cons_cells HDR.out (by decide) (Off.nil _ _)
      have hnb' := hnb.upd hU off8 (by simp; exact hne)
      refine ⟨rfl, [d, nb, sb], ⟨⟨nb, sb, .slice none 0 0, [], rfl, ?_, hnb'.upd hUs offd (by simp; exact hnb'.ne_cells HDR.out), hM.upd hUs offd (by simp; exact hM.ne_cells HDR.out), hne, World.ownsRow_nil _ _ _ _, trivial⟩, ?_, HD1.out.most⟩, ?_, ?_⟩
      · rw [setCell_get HDR.out]; rfl
      · have h1 := HD1.out.inv
        refine ⟨h1.room, h1.nodupNow, rfl, ?_, h1.fuse, by intro c hc; cases hc⟩
        intro j
        simp only [DSt.mid, List.take_nil, List.foldl_nil]
        exact h1.usedNow
      · have q : Upd S w wr := (hU1.mono (T := S) (fun j hj _ => by simp at hj; subst hj; exact hdS)).trans hU (fun j hj _ => by simp at hj; subst hj; rw [HS.out]; simp)
        exact q.trans hUs (fun j hj _ => by simp at hj; subst hj; exact hdS)
      · intro k hk
        left; rw [HS.out]
        simp at hk ⊢
        rcases hk with rfl | rfl | rfl <;> simp

theorem disk_sync (w : World) (d : Nat) (S : List Nat) (D : DSt) (h : DiskAt w d S D) (hl : D.loose.length ≤ 1000000000) :
    Calls Tryz.prog 59 #[.pointer (some ⟨d, 0, none⟩)] w (DPost w d S D.sync) := by
  by_cases hdn : D.down = true
  · have hup := disk_up w d S D h
    simp only [hdn, if_true] at hup
    have HP := Lib.hid (show DPost w d S D.sync (.returned (.int .i64 (5 : Nat))) w from by
      have : D.sync = (D, 5) := by simp [DSt.sync, hdn]
      rw [this]
      exact ⟨rfl, S, h, Upd.refl _ _, Sub.refl _ _⟩)
    clear h hl
    go_enter Tryz.func59, Tryz.ntmps59
    go_wp2_with (go_at_call 118; refine hup.mono ?_; rintro e w1 ⟨rfl, rfl⟩)
    go_ret
    exact HP.out
  have hdn' : D.down = false := by simpa using hdn
  by_cases h0 : D.fuse = 0
  · have hup := disk_up w d S D h
    simp only [hdn', Bool.false_eq_true, if_false] at hup
    have hsp := disk_spend_no w d S D h h0
    have hdS : d ∈ S := by obtain ⟨nb, sb, lv, cells, rfl, _⟩ := h.ex; simp
    have HF := Lib.hid (show D.sync = ({ D with down := true }, 5) from by simp [DSt.sync, hdn', h0])
    clear h hl h0 hdn hdn'
    go_enter Tryz.func59, Tryz.ntmps59
    go_wp2_with (first
      | (go_at_call 118; refine hup.mono ?_; rintro e w1 ⟨rfl, rfl⟩)
      | (go_at_call 124; refine hsp.mono ?_; rintro e w1 ⟨rfl, hD1, hU1⟩))
    go_ret
    rw [HF.out]
    exact ⟨rfl, S, hD1, hU1.mono (fun j hj _ => by simp at hj; subst hj; exact hdS), Sub.refl _ _⟩
  · exact disk_sync_yes w d S D h hl hdn' h0

/-- An empty map in a new block. -/
theorem MapW.new (w : World) : MapW (w.alloc (.map #[] 0)) w.heap.size [] :=
  ⟨⟨#[], 0, heap_alloc_new w _, rfl, by simp, by simp⟩, by simp⟩
theorem MapB.new (w : World) : MapB (w.alloc (.map #[] 0)) w.heap.size [] := ⟨[], [], MapW.new w, .nil, List.Perm.nil⟩
/-- The blocks of S are new since w. -/
def NewIn (w : World) (S : List Nat) : Prop := ∀ k ∈ S, w.heap.size ≤ k

def NewPost (w : World) (room : Nat) (e : Ending) (w' : World) : Prop :=
  ∃ d S, e = .returned (.tuple #[.pointer (some ⟨d, 0, none⟩), .int .i64 0]) ∧ DiskAt w' d S ⟨room, [], [], [], -1, false⟩ ∧ Upd [] w w' ∧ NewIn w S
theorem disk_new (w : World) (room : Nat) (h : room ≤ 67108864) :
    Calls Tryz.prog 10 #[.int .i64 room] w (NewPost w room) := by
  have h1 : decide ((room : Int) < 0) = false := by simp
  have h2 : decide ((67108864 : Int) < (room : Int)) = false := by simp; omega
  have H := Lib.hid h; clear h
  have hmm : ∀ W : World, (Instr.makeMap 113 none).run Tryz.prog W = .ok (.map (some W.heap.size)) (W.alloc (.map #[] 0)) := fun _ => rfl
  go_enter Tryz.func10, Tryz.ntmps10
  go_wp2_with fail
  go_ret2
  have hU : Upd [] w ((w.alloc (.map #[] 0)).alloc (.map #[] 0)) := (Upd.alloc [] _ _).trans0 (Upd.alloc [] _ _)
  have hs : (w.alloc (.map #[] 0)).heap.size = w.heap.size + 1 := by simp
  have hs2 : ((w.alloc (.map #[] 0)).alloc (.map #[] 0)).heap.size = w.heap.size + 1 + 1 := by simp
  have hm2 := MapB.new (w.alloc (.map #[] 0))
  rw [hs] at hm2
  generalize hO : Obj.cells #[Value.int IntKind.i64 (room : Int), Value.map (some w.heap.size), Value.map (some (w.heap.size + 1)), Value.slice none 0 0, Value.int IntKind.i64 (-1), Value.bool false] 116 = O
  have hb := heap_alloc_new ((w.alloc (.map #[] 0)).alloc (.map #[] 0)) O
  rw [hs2, ← hO] at hb
  rw [hO] at hb
  refine ⟨w.heap.size + 1 + 1, [w.heap.size + 1 + 1, w.heap.size, w.heap.size + 1], rfl, ⟨⟨w.heap.size, w.heap.size + 1, .slice none 0 0, [], rfl, ?_, ?_, ?_, by omega, World.ownsRow_nil _ _ _ _, trivial⟩, DInv.new H.out, by show (-1 : Int) ≤ 9223372036854775807; omega⟩, hU.trans0 (Upd.alloc [] _ _), ?_⟩
  · rw [hb, ← hO]
  · exact ((MapB.new w).upd (Upd.alloc [] _ _) (Off.nil _ _) (by simp)).upd (Upd.alloc [] _ _) (Off.nil _ _) (by simp)
  · exact hm2.upd (Upd.alloc [] _ _) (Off.nil _ _) (by simp)
  · intro k hk
    simp at hk
    omega
end Go.Proofs.YthfbfdkjgkkpcaaGreat

namespace Go.Proofs.YthfbfdkjgkkpcaaGreat
open Go Go.RowKit

section
variable {P : Program} {ops : Array Oper} {Q : Exit → Act → World → Prop} {rest : List Oper} {o : Oper} {a : Act} {w : World}
/-- append, its run known ahead. -/
theorem wpl_append_run {T t0 : Nat} {v y v' : Value} {w' : World} (hr : (Builtin.append_ #[T, T] t0 #[v, y]).run P w = .ok v' w') (hw : Region.wanted o (yielded ops a.tmps) = true) {s x : Operand}
    (ho : o.op = .call { callee := .builtin .append, args := #[s, x], argTypes := #[T, T] }) (hs : a.eval s = v) (hx : a.eval x = y) (hK : wpList P ops Q rest (a.put o.dst v') w') : wpList P ops Q (o :: rest) a w :=
  wpl_run hw (run_append_op ho hs hx (by rw [append_ty _ _ t0]; exact hr)) hK
end
/-- A record as it stands in a file. -/
def frameB (p : List UInt8) : List UInt8 := putB p.length 4 ++ putB (crcB (putB p.length 4 ++ p)) 4 ++ p
theorem frameB_length (p : List UInt8) : (frameB p).length = p.length + 8 := by simp [frameB, putB_length]; omega
theorem crcB_wrap (p : List UInt8) : IntKind.u64.wrap (crcB p : Nat) = (crcB p : Nat) := by
  have : crcB p ≤ 4294967295 := by unfold crcB; omega
  simp [IntKind.wrap, show IntKind.u64.bits = 64 from rfl, show IntKind.u64.signed = false from rfl]
  omega
theorem crcB_u64 (p : List UInt8) : U64 (crcB p) := ⟨by unfold crcB; omega⟩

set_option maxHeartbeats 400000 in
theorem journal_frame (w : World) (pv : Value) (p : List UInt8) (hp : ByX w pv p) (hl : p.length ≤ 1073741000) :
    Calls Tryz.prog 73 #[pv] w (RetBy w (frameB p)) := by
  obtain ⟨ao, cap, rfl, _⟩ := hp.shape
  have hU : U64 p.length := ⟨by omega⟩
  have HPL := Lib.hid (putB_length p.length 4)
  have hC := crcB_u64 (putB p.length 4 ++ p)
  have hcw := crcB_wrap (putB p.length 4 ++ p)
  have hbl : (putB p.length 4).length + p.length ≤ 1073741824 := by rw [HPL.out]; omega
  have hbl2 : (putB p.length 4 ++ putB (crcB (putB p.length 4 ++ p)) 4).length + p.length ≤ 1073741824 := by simp [putB_length]; omega
  have HB := Lib.hid hbl; have HB2 := Lib.hid hbl2; clear hbl hbl2
  have hm1 : 4 + p.length ≤ maxLen := by unfold maxLen; omega
  have hm2 : (4 + p.length) * 1 ≤ 140737488355328 := by omega
  have HM1 := Lib.hid hm1; have HM2 := Lib.hid hm2; clear hm1 hm2
  go_enter Tryz.func73, Tryz.ntmps73
  go_wp2_with fail
  refine (octet_Put p.length 4 hU (by omega) _).mono ?_
  rintro e w1 ⟨v1, rfl, hv1, hU1⟩
  have hv1' : w1.ownsRow w.heap.size 5 1 v1 4 ((putB p.length 4).map enc) := by have := hv1; unfold OwnBy at this; rwa [HPL.out] at this
  obtain ⟨ao1, cap1, rfl, hc1⟩ := (Rd.of_own hv1').shape
  have hcut : ∀ W, (Instr.sliceAt 36 (.slice ao1 4 cap1) none (some (.int .i64 4)) (some (.int .i64 4))).run Tryz.prog W = .ok (.slice ao1 4 4) W := by
    intro W
    have b1 := run_bound (P := Tryz.prog) (k := .i64) 4 cap1 .slice3Acap W (by omega) (by omega)
    have b2 := run_bound (P := Tryz.prog) (k := .i64) 4 4 .slice3B W (by omega) (by omega)
    have e : ao1.map (fun x : Addr => x.add 0) = ao1 := by cases ao1 <;> simp [Addr.add]
    simp [Instr.sliceAt, Instr.slice, run_underlying elU8.und, Instr.sliceBounds, b1, b2, sizeOf_run elU8 W, Result.andThen, e]
  have hl4 : Rd w1 5 1 (.slice ao1 4 4) 4 ((putB p.length 4).map enc) := by
    have := run_cut elU8 (Rd.of_own hv1') 0 4 4 (by omega) (by omega) (by omega) hc1
    simp only [Nat.zero_mul, Nat.mul_one, List.drop_zero, Nat.sub_zero] at this
    rw [List.take_of_length_le (by simp [putB_length])] at this
    have e : (if (4 : Nat) = 0 then ao1 else ao1.map (·.add 0)) = ao1 := by simp [Addr.add]
    have e2 : (if 4 = 0 then ao1 else ao1.map (·.add 0)) = ao1 := e
    rw [e2] at this
    exact this
  obtain ⟨v2, w2, hr2, hR2, hU2⟩ := run_append_fullx (P := Tryz.prog) (ty := 36) elU8 hl4 (hp.upd0 hU1) HM1.out HM2.out
  have hR2' : By w2 v2 (putB p.length 4 ++ p) := by
    unfold By
    rw [List.map_append, List.length_append, HPL.out]
    exact hR2
  have hown2 := Own.upd0 hv1' hU2
  have hU12 := hU1.trans0 hU2
  clear hl4 hR2 hc1 hv1 hv1'
  go_wp2_with ((with_reducible show wpList _ _ _ (⟨_, .call ⟨.builtin .append, _, _⟩, _, _, _, _⟩ :: _) _ _); refine wpl_append_run hr2 rfl rfl rfl rfl ?_)
  refine (octet_Crc v2 _ w2 hR2').mono ?_
  rintro e w2' ⟨rfl, rfl⟩
  go_wp2_with fail
  refine (octet_Put (crcB (putB p.length 4 ++ p)) 4 hC (by omega) _).mono ?_
  rintro e w3 ⟨v3, rfl, hv3, hU3⟩
  have hownA : OwnBy w3 w.heap.size (.slice ao1 4 cap1) (putB p.length 4) := by
    have := Own.upd0 hown2 hU3
    unfold OwnBy
    rwa [HPL.out]
  have hU13 := hU12.trans0 hU3
  go_wp2_with (first
    | ((with_reducible show wpList _ _ _ (⟨_, .call ⟨.builtin .append, _, _⟩, _, _, _, _⟩ :: _) _ _); refine wpl_append_byx elU8 rfl rfl hU4 hv4 rfl (hp.upd0 hU4) rfl HB2.out ?_; intro v5 w5 hv5 _ hU5 hb5)
    | ((with_reducible show wpList _ _ _ (⟨_, .call ⟨.builtin .append, _, _⟩, _, _, _, _⟩ :: _) _ _); refine wpl_append_by elU8 rfl rfl hU13 hownA rfl hv3.by rfl (by simp [putB_length]) ?_; intro v4 w4 hv4 _ hU4 hb4))
  go_ret
  exact ⟨v5, rfl, hv5, hU5⟩

structure JSt where
  D : DSt
  name : List UInt8
  size : Nat
def JSt.append (J : JSt) (p : List UInt8) : JSt × Nat :=
  if 1048568 < p.length then (J, 8)
  else if (J.D.append J.name (frameB p)).2 = 0 then ({ J with D := (J.D.append J.name (frameB p)).1, size := J.size + (8 + p.length) }, 0)
  else ({ J with D := (J.D.append J.name (frameB p)).1 }, (J.D.append J.name (frameB p)).2)
def JSt.sync (J : JSt) : JSt × Nat := ({ J with D := J.D.sync.1 }, J.D.sync.2)

/-- Block j is a journal on the disk d; S: the blocks that it turns. -/
structure JAt (w : World) (d j : Nat) (S : List Nat) (J : JSt) : Prop where
  ex : ∃ S0, S = j :: S0 ∧ DiskAt w d S0 J.D ∧ w.heap[j]? = some (.cells #[.pointer (some ⟨d, 0, none⟩), encS J.name, .int .i64 J.size] 124 (0, 0))
theorem JAt.upd {S T : List Nat} {w w' : World} {d j : Nat} {J : JSt} (h : JAt w d j S J) (hU : Upd T w w') (h8 : Off w 5 T) (hn : ∀ k ∈ S, k ∉ T) : JAt w' d j S J := by
  obtain ⟨S0, rfl, hD, hj⟩ := h.ex
  exact ⟨S0, rfl, hD.upd hU h8 (fun k hk => hn k (List.mem_cons_of_mem _ hk)), hU.get hj (hn j (by simp))⟩
theorem JAt.upd0 {S : List Nat} {w w' : World} {d j : Nat} {J : JSt} (h : JAt w d j S J) (hU : Upd [] w w') : JAt w' d j S J := h.upd hU (Off.nil _ _) (fun _ _ hm => by cases hm)
theorem JAt.lt {S : List Nat} {w : World} {d j : Nat} {J : JSt} (h : JAt w d j S J) : ∀ k ∈ S, k < w.heap.size := by
  obtain ⟨S0, rfl, hD, hj⟩ := h.ex
  intro k hk
  rcases List.mem_cons.1 hk with rfl | hk
  · exact lt_of_get hj
  · exact hD.lt k hk
theorem JAt.off {w : World} {d j : Nat} {S : List Nat} {J : JSt} (h : JAt w d j S J) {e : TypeId} (h1 : 116 ≠ e) (h2 : 190 ≠ e) (h3 : 124 ≠ e) : Off w e S := by
  obtain ⟨S0, rfl, hD, hj⟩ := h.ex
  exact Off.cons_cells hj h3 (hD.off h1 h2)
theorem not_mem_off {w : World} {e : TypeId} {S : List Nat} {k : Nat} {c : Array Value} {f : Nat × Nat} (h : Off w e S) (hk : w.heap[k]? = some (.cells c e f)) : k ∉ S := fun hm => h k hm c f hk
def JPost (w : World) (d j : Nat) (S : List Nat) (r : JSt × Nat) (e : Ending) (w' : World) : Prop :=
  e = .returned (.int .i64 r.2) ∧ ∃ S', JAt w' d j S' r.1 ∧ Upd S w w' ∧ Sub w S S'

theorem journal_sync (w : World) (d j : Nat) (S : List Nat) (J : JSt) (h : JAt w d j S J) (hl : J.D.loose.length ≤ 1000000000) :
    Calls Tryz.prog 83 #[.pointer (some ⟨j, 0, none⟩)] w (JPost w d j S J.sync) := by
  obtain ⟨S0, hS, hD, hj⟩ := h.ex
  have c0 : w.cell? ⟨j, 0, none⟩ = some (.pointer (some ⟨d, 0, none⟩)) := by rw [cell_lit w j 0 _ _ _ hj]; rfl
  have hs := disk_sync w d S0 J.D hD hl
  have hn : j ∉ S0 := not_mem_off (hD.off (e := 124) (by decide) (by decide)) hj
  have HJ := Lib.hid hj
  clear hj hl h
  go_enter Tryz.func83, Tryz.ntmps83
  go_wp2_with (go_at_call 59; refine hs.mono ?_; rintro e w1 ⟨rfl, S', hD1, hU1, hS1⟩)
  go_ret
  refine ⟨rfl, j :: S', ⟨S', rfl, hD1, hU1.get HJ.out hn⟩, hU1.mono (fun i hi _ => by rw [hS]; exact List.mem_cons_of_mem _ hi), ?_⟩
  intro k hk
  rw [hS]
  rcases List.mem_cons.1 hk with rfl | hk
  · left; simp
  · rcases hS1 k hk with h1 | h1
    · left; exact List.mem_cons_of_mem _ h1
    · right; exact h1
theorem journal_sync_nil (w : World) : Calls Tryz.prog 83 #[.pointer none] w fun e w' => e = .returned (.int .i64 2) ∧ w = w' := by
  go_enter Tryz.func83, Tryz.ntmps83
  go_wp2
  go_ret
  exact ⟨rfl, rfl⟩
theorem journal_size (w : World) (d j : Nat) (S : List Nat) (J : JSt) (h : JAt w d j S J) :
    Calls Tryz.prog 98 #[.pointer (some ⟨j, 0, none⟩)] w fun e w' => e = .returned (.int .i64 J.size) ∧ w = w' := by
  obtain ⟨S0, hS, hD, hj⟩ := h.ex
  have c2 : w.cell? ⟨j, 2, none⟩ = some (.int .i64 J.size) := by rw [cell_lit w j 2 _ _ _ hj]; rfl
  clear hj h
  go_enter Tryz.func98, Tryz.ntmps98
  go_wp2
  go_ret
  exact ⟨rfl, rfl⟩

set_option maxHeartbeats 400000 in
theorem journal_append (w : World) (d j : Nat) (S : List Nat) (J : JSt) (h : JAt w d j S J) (pv : Value) (p : List UInt8) (hp : ByX w pv p) (hpl : p.length ≤ 1073741000) (hl : J.D.loose.length ≤ 1000000000) (hsz : J.size ≤ 4611686018427387904) :
    Calls Tryz.prog 15 #[.pointer (some ⟨j, 0, none⟩), pv] w (JPost w d j S (J.append p)) := by
  obtain ⟨S0, hS, hD, hj⟩ := h.ex
  have c0 : w.cell? ⟨j, 0, none⟩ = some (.pointer (some ⟨d, 0, none⟩)) := by rw [cell_lit w j 0 _ _ _ hj]; rfl
  have c1 : w.cell? ⟨j, 1, none⟩ = some (encS J.name) := by rw [cell_lit w j 1 _ _ _ hj]; rfl
  have hn : j ∉ S0 := not_mem_off (hD.off (e := 124) (by decide) (by decide)) hj
  have HJ := Lib.hid hj; have HSZ := Lib.hid hsz; have H := Lib.hid h; have HD := Lib.hid hD; have HL := Lib.hid hl; have HPL := Lib.hid hpl
  clear hj hl h hsz hD
  obtain ⟨ao, cap, rfl, _⟩ := hp.shape
  by_cases h8 : 1048568 < p.length
  · have h1 : decide ((1048568 : Int) < (p.length : Int)) = true := by simp; omega
    have HF := Lib.hid (show J.append p = (J, 8) from by simp only [JSt.append, if_pos h8])
    clear h8
    go_enter Tryz.func15, Tryz.ntmps15
    go_wp2_with fail
    go_ret
    rw [HF.out]
    exact ⟨rfl, S, H.out, Upd.refl _ _, Sub.refl _ _⟩
  have h1 : decide ((1048568 : Int) < (p.length : Int)) = false := by simp; omega
  have H8 := Lib.hid h8; clear h8
  have hfr := journal_frame w.drew _ p (hp.upd0 (Upd.drew [] w)) HPL.out
  have hap : ∀ (w2 : World) (v : Value), Upd [] w w2 → By w2 v (frameB p) → Calls Tryz.prog 72 #[.pointer (some ⟨d, 0, none⟩), encS J.name, v] w2 (DPost w2 d S0 (J.D.append J.name (frameB p))) := fun w2 v hU hv =>
    disk_append w2 d S0 J.D (HD.out.upd0 hU) J.name (frameB p) v hv (by rw [frameB_length]; have := HPL.out; omega) HL.out
  have HA := Lib.hid hap; clear hap
  generalize hr : J.D.append J.name (frameB p) = r at *
  have HR := Lib.hid hr; clear hr
  clear hpl
  go_enter Tryz.func15, Tryz.ntmps15
  go_wp2_with fail
  go_region_held3 (fun W => W.cell? ⟨j, 0, none⟩ = some (.pointer (some ⟨d, 0, none⟩)) ∧ W.cell? ⟨j, 1, none⟩ = some (encS J.name))
    (first | go_keep | exact ⟨hU4.cell (hU2.cell c0 (by simp)) hn, hU4.cell (hU2.cell c1 (by simp)) hn⟩ | exact ⟨hU2.cell c0 (by simp), hU2.cell c1 (by simp)⟩)
    ((first
      | (go_at_call 73; refine hfr.mono ?_; rintro e w2 ⟨v2, rfl, hv2, hU2⟩)
      | (go_at_call 72; refine (HA.out _ _ ((Upd.drew [] w).trans0 hU2) hv2.by).mono ?_; rintro e w4 ⟨rfl, S', hD4, hU4, hS4⟩)))
  have hU24 : Upd S0 w w4 := (((Upd.drew [] w).trans0 hU2).mono (T := S0) (by simp)).trans hU4 (fun i hi _ => hi)
  have hs0 : w.heap.size ≤ w2.heap.size := ((Upd.drew [] w).trans0 hU2).size
  have hj4 := hU24.get HJ.out hn
  have hsub : Sub w S (j :: S') := by
    intro k hk
    rw [hS]
    rcases List.mem_cons.1 hk with rfl | hk
    · left; simp
    · rcases hS4 k hk with h1 | h1
      · left; exact List.mem_cons_of_mem _ h1
      · right; omega
  have hn4 : j ∉ S' := not_mem_off (hD4.off (e := 124) (by decide) (by decide)) hj4
  have hUS : Upd S w w4 := hU24.mono (fun i hi _ => by rw [hS]; exact List.mem_cons_of_mem _ hi)
  have HSUB := Lib.hid hsub; have HJ4 := Lib.hid hj4
  have hjS : j ∈ S := by rw [hS]; simp
  clear hS
  obtain ⟨D', k⟩ := r
  by_cases hk : k = 0
  · subst hk
    have HF := Lib.hid (show J.append p = ({ J with D := D', size := J.size + (8 + p.length) }, 0) from by simp only [JSt.append, if_neg H8.out, HR.out, if_true])
    have c2 : w4.cell? ⟨j, 2, none⟩ = some (.int .i64 J.size) := by rw [cell_lit w4 j 2 _ _ _ hj4]; rfl
    have f2 := frozen_lit w4 j 2 _ _ hj4
    have e2 : wrap64 ((J.size : Int) + wrap64 (8 + (p.length : Int))) = ((J.size + (8 + p.length) : Nat) : Int) := by
      have := HPL.out; have := HSZ.out
      simp only [wrap64]
      omega
    have E2 := Lib.hid e2
    clear hj4 hsub e2
    go_wp2_with fail
    go_ret
    rw [HF.out, E2.out]
    have hUs : Upd [j] w4 (w4.setCell ⟨j, 2, none⟩ (.int .i64 ((J.size + (8 + p.length) : Nat) : Int))) := Upd.setCell _ _ _ (by simp)
    refine ⟨rfl, j :: S', ⟨S', rfl, hD4.upd hUs (Off.cons_cells HJ4.out (by decide) (Off.nil _ _)) (fun k hk => by simp; rintro rfl; exact hn4 hk), ?_⟩, ?_, HSUB.out⟩
    · rw [setCell_get HJ4.out]; rfl
    · exact hUS.trans hUs (fun i hi _ => by simp at hi; subst hi; exact hjS)
  · have HF := Lib.hid (show J.append p = ({ J with D := D' }, k) from by simp only [JSt.append, if_neg H8.out, HR.out, if_neg hk])
    have h2 : ((k : Int) == 0) = false := by simp; omega
    have h3 : ((k : Int) = 0) = False := by simp; omega
    clear hj4 hsub
    go_wp2_with fail
    go_ret
    rw [HF.out]
    exact ⟨rfl, j :: S', ⟨S', rfl, hD4, HJ4.out⟩, hUS, HSUB.out⟩
end Go.Proofs.YthfbfdkjgkkpcaaGreat

namespace Go.Proofs.YthfbfdkjgkkpcaaGreat
open Go Go.RowKit

structure TChg where
  key : List UInt8
  gone : Bool
  val : List UInt8
def tdo1 (m : List (List UInt8 × List UInt8)) (c : TChg) : List (List UInt8 × List UInt8) := if c.gone then fdel c.key m else fput c.key c.val m
def tdo (m : List (List UInt8 × List UInt8)) (l : List TChg) : List (List UInt8 × List UInt8) := l.foldl tdo1 m
theorem tdo1_nodup {m : List (List UInt8 × List UInt8)} (h : (m.map (·.1)).Nodup) (c : TChg) : ((tdo1 m c).map (·.1)).Nodup := by
  unfold tdo1
  split
  · exact fdel_nodup h
  · exact fput_nodup h
theorem tdo_take_succ (m : List (List UInt8 × List UInt8)) (l : List TChg) (i : Nat) (c : TChg) (h : l[i]? = some c) : tdo m (l.take (i + 1)) = tdo1 (tdo m (l.take i)) c := by
  unfold tdo
  rw [List.take_add_one, h, List.foldl_append]
  rfl

/-- A change in a record. -/
def encStep (c : TChg) : List UInt8 := if c.gone then 0 :: textB c.key else 1 :: (textB c.key ++ textB c.val)
def badChg (c : TChg) : Bool := decide (c.key = [] ∨ 320 < c.key.length ∨ 262144 < c.val.length)
def encGo (out : List UInt8) : List TChg → List UInt8 × Nat
  | [] => (out, 0)
  | c :: r => if badChg c then ([], 1) else if 1048568 < (out ++ encStep c).length then ([], 8) else encGo (out ++ encStep c) r
/-- The record of changes, or why there is none. -/
def encB (l : List TChg) : List UInt8 × Nat := if 256 < l.length then ([], 8) else encGo (countB l.length) l

/-- The cells of changes. -/
def TCells (w : World) : List Value → List TChg → Prop
  | [], [] => True
  | k :: g :: v :: r, c :: l => k = encS c.key ∧ g = .bool c.gone ∧ By w v c.val ∧ TCells w r l
  | _, _ => False
theorem TCells.upd {S : List Nat} {w w' : World} (hU : Upd S w w') (hS : Off w 5 S) : ∀ {cs : List Value} {l : List TChg}, TCells w cs l → TCells w' cs l
  | [], [], _ => trivial
  | _ :: _ :: _ :: _, _ :: _, h => ⟨h.1, h.2.1, h.2.2.1.upd hU hS, TCells.upd hU hS h.2.2.2⟩
theorem TCells.get {w : World} : ∀ {cs : List Value} {l : List TChg}, TCells w cs l → ∀ {i : Nat} {c : TChg}, l[i]? = some c →
    ∃ pv, cs[i * 3 + 0]? = some (encS c.key) ∧ cs[i * 3 + 1]? = some (.bool c.gone) ∧ cs[i * 3 + 2]? = some pv ∧ By w pv c.val
  | [], [], _, _, _, h => by simp at h
  | k :: a :: b :: r, c0 :: l, hc, 0, c, h => by
    simp only [List.getElem?_cons_zero, Option.some.injEq] at h
    subst h
    obtain ⟨rfl, rfl, hp, _⟩ := hc
    exact ⟨b, rfl, rfl, rfl, hp⟩
  | k :: a :: b :: r, c0 :: l, hc, i + 1, c, h => by
    simp only [List.getElem?_cons_succ] at h
    obtain ⟨pv, h0, h1, h2, h4⟩ := TCells.get hc.2.2.2 h
    refine ⟨pv, ?_, ?_, ?_, h4⟩
    · rw [show (i + 1) * 3 + 0 = (i * 3 + 0) + 3 by omega]; simpa using h0
    · rw [show (i + 1) * 3 + 1 = (i * 3 + 1) + 3 by omega]; simpa using h1
    · rw [show (i + 1) * 3 + 2 = (i * 3 + 2) + 3 by omega]; simpa using h2
/-- A slice that reads as changes. -/
def Chgs (w : World) (v : Value) (l : List TChg) : Prop := ∃ cells, Rd w 60 3 v l.length cells ∧ TCells w cells l
theorem Chgs.upd {S : List Nat} {w w' : World} {v : Value} {l : List TChg} (h : Chgs w v l) (hU : Upd S w w') (h1 : Off w 5 S) (h2 : Off w 60 S) : Chgs w' v l := by
  obtain ⟨cells, ha, hb⟩ := h
  exact ⟨cells, ha.upd hU h2, hb.upd hU h1⟩
theorem Chgs.upd0 {w w' : World} {v : Value} {l : List TChg} (h : Chgs w v l) (hU : Upd [] w w') : Chgs w' v l := h.upd hU (Off.nil _ _) (Off.nil _ _)

structure TSt where
  J : JSt
  m : List (List UInt8 × List UInt8)
  down : Bool
/-- Block tb is a table on the disk d; S: the blocks that it turns. -/
structure TAt (w : World) (d tb : Nat) (S : List Nat) (T : TSt) : Prop where
  ex : ∃ jb mb S0, S = tb :: mb :: S0 ∧ mb ∉ S0 ∧ JAt w d jb S0 T.J ∧ MapB w mb T.m ∧ w.heap[tb]? = some (.cells #[.pointer (some ⟨jb, 0, none⟩), .map (some mb), .bool T.down] 146 (0, 0))
theorem TAt.off {w : World} {d tb : Nat} {S : List Nat} {T : TSt} (h : TAt w d tb S T) {e : TypeId} (h1 : 116 ≠ e) (h2 : 190 ≠ e) (h3 : 124 ≠ e) (h4 : 146 ≠ e) : Off w e S := by
  obtain ⟨jb, mb, S0, rfl, _, hJ, hM, ht⟩ := h.ex
  exact Off.cons_cells ht h4 (hM.off (hJ.off h1 h2 h3))
theorem TAt.off8 {w : World} {d tb : Nat} {S : List Nat} {T : TSt} (h : TAt w d tb S T) : Off w 5 S := h.off (by decide) (by decide) (by decide) (by decide)
theorem TAt.upd {S U : List Nat} {w w' : World} {d tb : Nat} {T : TSt} (h : TAt w d tb S T) (hU : Upd U w w') (h8 : Off w 5 U) (hn : ∀ k ∈ S, k ∉ U) : TAt w' d tb S T := by
  obtain ⟨jb, mb, S0, rfl, hm, hJ, hM, ht⟩ := h.ex
  exact ⟨jb, mb, S0, rfl, hm, hJ.upd hU h8 (fun k hk => hn k (by simp [hk])), hM.upd hU h8 (hn mb (by simp)), hU.get ht (hn tb (by simp))⟩
theorem TAt.upd0 {S : List Nat} {w w' : World} {d tb : Nat} {T : TSt} (h : TAt w d tb S T) (hU : Upd [] w w') : TAt w' d tb S T := h.upd hU (Off.nil _ _) (fun _ _ hm => by cases hm)
theorem TAt.lt {w : World} {d tb : Nat} {S : List Nat} {T : TSt} (h : TAt w d tb S T) : ∀ k ∈ S, k < w.heap.size := by
  obtain ⟨jb, mb, S0, rfl, hm, hJ, hM, ht⟩ := h.ex
  intro k hk
  simp only [List.mem_cons] at hk
  rcases hk with rfl | rfl | hk
  · exact lt_of_get ht
  · exact hM.lt
  · exact hJ.lt k hk
end Go.Proofs.YthfbfdkjgkkpcaaGreat

namespace Go.Proofs
open Go.Shelf
def Tryz.keys86_ren : Go.Shelf.Ren := ⟨fun | 7 => 86 | 10 => 147 | n => n, fun | 23 => 112 | 26 => 9 | 3 => 36 | 28 => 161 | 0 => 0 | 27 => 160 | 33 => 121 | 4 => 4 | n => n, fun | n => n⟩
theorem Tryz.keys86 : Go.Proofs.SlLaysZ.n7 Tryz.prog Tryz.keys86_ren := {
  mixed := by kernel_rfl
  f7 := ⟨Tryz.f86.name, by decide, Tryz.func86.trans (congrArg some (by kernel_rfl))⟩
  f10 := ⟨Tryz.f147.name, by decide, Tryz.func147.trans (congrArg some (by kernel_rfl))⟩
  t0 := Tryz.underlying0
  a0 := Tryz.isAgg0
  z0 := Tryz.sizeOf0
  v0 := Tryz.zeroValue0
  t4 := Tryz.underlying4
  a4 := Tryz.isAgg4
  z4 := Tryz.sizeOf4
  v4 := Tryz.zeroValue4
  t23 := Tryz.underlying112
  a23 := Tryz.isAgg112
  z23 := Tryz.sizeOf112
  v23 := Tryz.zeroValue112
  t26 := Tryz.underlying9
  a26 := Tryz.isAgg9
  z26 := Tryz.sizeOf9
  v26 := Tryz.zeroValue9
  t27 := Tryz.underlying160
  a27 := Tryz.isAgg160
  z27 := Tryz.sizeOf160
  v27 := Tryz.zeroValue160
  t28 := Tryz.underlying161
  a28 := Tryz.isAgg161
  z28 := Tryz.sizeOf161
  v28 := Tryz.zeroValue161
  t33 := Tryz.underlying121
  a33 := Tryz.isAgg121
  z33 := Tryz.sizeOf121
  v33 := Tryz.zeroValue121 }
def Tryz.sorted85_ren : Go.Shelf.Ren := ⟨fun | 6 => 85 | 8 => 145 | 9 => 146 | 11 => 166 | 13 => 168 | 12 => 167 | 23 => 185 | 24 => 186 | 14 => 176 | 15 => 177 | 16 => 178 | 17 => 179 | 18 => 180 | 19 => 181 | 20 => 182 | 21 => 183 | 22 => 184 | 25 => 190 | 26 => 191 | 27 => 192 | 28 => 193 | 29 => 194 | 30 => 195 | 31 => 199 | n => n, fun | 26 => 9 | 28 => 161 | 24 => 142 | 0 => 0 | 3 => 3 | 37 => 51 | 48 => 197 | 50 => 185 | 4 => 4 | 40 => 249 | 39 => 248 | 45 => 253 | 5 => 5 | 9 => 9 | 51 => 261 | 55 => 265 | 57 => 268 | 58 => 269 | 33 => 121 | n => n, fun | n => n⟩
theorem Tryz.sorted85 : Go.Proofs.SlLaysZ.n6 Tryz.prog Tryz.sorted85_ren := {
  mixed := by kernel_rfl
  f6 := ⟨Tryz.f85.name, by decide, Tryz.func85.trans (congrArg some (by kernel_rfl))⟩
  f8 := ⟨Tryz.f145.name, by decide, Tryz.func145.trans (congrArg some (by kernel_rfl))⟩
  f11 := ⟨Tryz.f166.name, by decide, Tryz.func166.trans (congrArg some (by kernel_rfl))⟩
  t0 := Tryz.underlying0
  a0 := Tryz.isAgg0
  z0 := Tryz.sizeOf0
  v0 := Tryz.zeroValue0
  t24 := Tryz.underlying142
  a24 := Tryz.isAgg142
  z24 := Tryz.sizeOf142
  v24 := Tryz.zeroValue142
  t26 := Tryz.underlying9
  a26 := Tryz.isAgg9
  z26 := Tryz.sizeOf9
  v26 := Tryz.zeroValue9
  t28 := Tryz.underlying161
  a28 := Tryz.isAgg161
  z28 := Tryz.sizeOf161
  v28 := Tryz.zeroValue161
  i26 := by kernel_rfl }
def Tryz.sort146_ren : Go.Shelf.Ren := ⟨fun | 6 => 146 | 8 => 168 | 9 => 167 | 19 => 185 | 20 => 186 | 21 => 176 | 22 => 177 | 23 => 178 | 24 => 179 | 25 => 180 | 26 => 181 | 27 => 182 | 28 => 183 | 29 => 184 | 36 => 190 | 31 => 191 | 32 => 192 | 37 => 193 | 38 => 194 | 39 => 195 | 41 => 199 | n => n, fun | 27 => 142 | 29 => 9 | 3 => 3 | 32 => 51 | 26 => 142 | 0 => 0 | 44 => 197 | 46 => 185 | 4 => 4 | 36 => 249 | 35 => 248 | 41 => 253 | 5 => 5 | 9 => 9 | 53 => 261 | 57 => 265 | 63 => 268 | 64 => 269 | n => n, fun | n => n⟩
theorem Tryz.sort146 : Go.Proofs.SlLaysM.n6 Tryz.prog Tryz.sort146_ren := {
  mixed := by kernel_rfl
  f6 := ⟨Tryz.f146.name, by decide, Tryz.func146.trans (congrArg some (by kernel_rfl))⟩
  f8 := Tryz.func168.trans (congrArg some (by kernel_rfl))
  f9 := ⟨Tryz.f167.name, by decide, Tryz.func167.trans (congrArg some (by kernel_rfl))⟩
  f19 := Tryz.func185.trans (congrArg some (by kernel_rfl))
  f20 := Tryz.func186.trans (congrArg some (by kernel_rfl))
  f21 := ⟨Tryz.f176.name, by decide, Tryz.func176.trans (congrArg some (by kernel_rfl))⟩
  f22 := ⟨Tryz.f177.name, by decide, Tryz.func177.trans (congrArg some (by kernel_rfl))⟩
  f23 := ⟨Tryz.f178.name, by decide, Tryz.func178.trans (congrArg some (by kernel_rfl))⟩
  f24 := ⟨Tryz.f179.name, by decide, Tryz.func179.trans (congrArg some (by kernel_rfl))⟩
  f25 := ⟨Tryz.f180.name, by decide, Tryz.func180.trans (congrArg some (by kernel_rfl))⟩
  f26 := ⟨Tryz.f181.name, by decide, Tryz.func181.trans (congrArg some (by kernel_rfl))⟩
  f27 := ⟨Tryz.f182.name, by decide, Tryz.func182.trans (congrArg some (by kernel_rfl))⟩
  f28 := ⟨Tryz.f183.name, by decide, Tryz.func183.trans (congrArg some (by kernel_rfl))⟩
  f29 := ⟨Tryz.f184.name, by decide, Tryz.func184.trans (congrArg some (by kernel_rfl))⟩
  f31 := Tryz.func191.trans (congrArg some (by kernel_rfl))
  f32 := Tryz.func192.trans (congrArg some (by kernel_rfl))
  f36 := ⟨Tryz.f190.name, by decide, Tryz.func190.trans (congrArg some (by kernel_rfl))⟩
  f37 := ⟨Tryz.f193.name, by decide, Tryz.func193.trans (congrArg some (by kernel_rfl))⟩
  f38 := ⟨Tryz.f194.name, by decide, Tryz.func194.trans (congrArg some (by kernel_rfl))⟩
  f39 := ⟨Tryz.f195.name, by decide, Tryz.func195.trans (congrArg some (by kernel_rfl))⟩
  f41 := ⟨Tryz.f199.name, by decide, Tryz.func199.trans (congrArg some (by kernel_rfl))⟩
  t0 := Tryz.underlying0
  a0 := Tryz.isAgg0
  z0 := Tryz.sizeOf0
  v0 := Tryz.zeroValue0
  t3 := Tryz.underlying3
  a3 := Tryz.isAgg3
  z3 := Tryz.sizeOf3
  v3 := Tryz.zeroValue3
  t4 := Tryz.underlying4
  a4 := Tryz.isAgg4
  z4 := Tryz.sizeOf4
  v4 := Tryz.zeroValue4
  t5 := Tryz.underlying5
  a5 := Tryz.isAgg5
  z5 := Tryz.sizeOf5
  v5 := Tryz.zeroValue5
  t9 := Tryz.underlying9
  a9 := Tryz.isAgg9
  z9 := Tryz.sizeOf9
  v9 := Tryz.zeroValue9
  t26 := Tryz.underlying142
  a26 := Tryz.isAgg142
  z26 := Tryz.sizeOf142
  v26 := Tryz.zeroValue142
  t27 := Tryz.underlying142
  a27 := Tryz.isAgg142
  z27 := Tryz.sizeOf142
  v27 := Tryz.zeroValue142
  t29 := Tryz.underlying9
  a29 := Tryz.isAgg9
  z29 := Tryz.sizeOf9
  v29 := Tryz.zeroValue9
  t32 := Tryz.underlying51
  a32 := Tryz.isAgg51
  z32 := Tryz.sizeOf51
  v32 := Tryz.zeroValue51
  t35 := Tryz.underlying248
  a35 := Tryz.isAgg248
  z35 := Tryz.sizeOf248
  v35 := Tryz.zeroValue248
  t36 := Tryz.underlying249
  a36 := Tryz.isAgg249
  z36 := Tryz.sizeOf249
  v36 := Tryz.zeroValue249
  t41 := Tryz.underlying253
  a41 := Tryz.isAgg253
  z41 := Tryz.sizeOf253
  v41 := Tryz.zeroValue253
  t44 := Tryz.underlying197
  a44 := Tryz.isAgg197
  z44 := Tryz.sizeOf197
  v44 := Tryz.zeroValue197
  t46 := Tryz.underlying185
  a46 := Tryz.isAgg185
  z46 := Tryz.sizeOf185
  v46 := Tryz.zeroValue185
  t53 := Tryz.underlying261
  a53 := Tryz.isAgg261
  z53 := Tryz.sizeOf261
  v53 := Tryz.zeroValue261
  t57 := Tryz.underlying265
  a57 := Tryz.isAgg265
  z57 := Tryz.sizeOf265
  v57 := Tryz.zeroValue265
  t63 := Tryz.underlying268
  a63 := Tryz.isAgg268
  z63 := Tryz.sizeOf268
  v63 := Tryz.zeroValue268
  t64 := Tryz.underlying269
  a64 := Tryz.isAgg269
  z64 := Tryz.sizeOf269
  v64 := Tryz.zeroValue269 }
def Tryz.keys149_ren : Go.Shelf.Ren := ⟨fun | 7 => 149 | 10 => 169 | n => n, fun | 23 => 113 | 26 => 9 | 3 => 36 | 28 => 161 | 0 => 0 | 27 => 160 | 33 => 121 | 4 => 4 | n => n, fun | n => n⟩
theorem Tryz.keys149 : Go.Proofs.SlLaysZ.n7 Tryz.prog Tryz.keys149_ren := {
  mixed := by kernel_rfl
  f7 := ⟨Tryz.f149.name, by decide, Tryz.func149.trans (congrArg some (by kernel_rfl))⟩
  f10 := ⟨Tryz.f169.name, by decide, Tryz.func169.trans (congrArg some (by kernel_rfl))⟩
  t0 := Tryz.underlying0
  a0 := Tryz.isAgg0
  z0 := Tryz.sizeOf0
  v0 := Tryz.zeroValue0
  t4 := Tryz.underlying4
  a4 := Tryz.isAgg4
  z4 := Tryz.sizeOf4
  v4 := Tryz.zeroValue4
  t23 := Tryz.underlying113
  a23 := Tryz.isAgg113
  z23 := Tryz.sizeOf113
  v23 := Tryz.zeroValue113
  t26 := Tryz.underlying9
  a26 := Tryz.isAgg9
  z26 := Tryz.sizeOf9
  v26 := Tryz.zeroValue9
  t27 := Tryz.underlying160
  a27 := Tryz.isAgg160
  z27 := Tryz.sizeOf160
  v27 := Tryz.zeroValue160
  t28 := Tryz.underlying161
  a28 := Tryz.isAgg161
  z28 := Tryz.sizeOf161
  v28 := Tryz.zeroValue161
  t33 := Tryz.underlying121
  a33 := Tryz.isAgg121
  z33 := Tryz.sizeOf121
  v33 := Tryz.zeroValue121 }
open Go.RowKit Go.Maps Go.Sort
theorem Tryz.sorts85 (m : Nat) : AnyZ.SortsIn Tryz.prog Tryz.sorted85_ren Fence.wide m :=
  ⟨fun blk off cap ss W hH hblk hsz => callsIn_wide.2 (AnyM.slices_Sort_string Tryz.sort146 blk off cap ss W hH hblk hsz),
   fun p cap W => callsIn_wide.2 (AnyM.slices_Sort_string_none Tryz.sort146 p cap W)⟩

theorem Tryz.maps_Keys_86 (mb : Option Nat) (W : World) : CallsIn Fence.wide 5 Tryz.prog 86 #[.map mb] W fun e w' => e = .returned (.func (.func 147) #[] #[.pointer (some ⟨W.heap.size, 0, none⟩)]) ∧ w' = W.alloc (.cells #[.map mb] 112) :=
  AnyZ.keys_in Tryz.keys86 Fence.wide 5 trivial rfl mb W

set_option maxHeartbeats 1000000 in
theorem Tryz.slices_Sorted_keys_85_86 {H : Type} (b nn : Nat) (D0 : DataW H) (R : Value → Option (DataW H × List MemPlace)) (w : World) (hown : w.ownsMap Tryz.prog 9 R b nn D0) (hmax : Maps.size D0 ≤ maxLen) (hbytes : Maps.size D0 * 16 ≤ 140737488355328) :
    CallsIn Fence.wide 5 Tryz.prog 85 #[.func (.func 147) #[] #[.pointer (some ⟨w.heap.size, 0, none⟩)]] (w.alloc (.cells #[.map (some b)] 112)) fun e w' => ∃ (v : Value) (ss : List (List UInt8)), e = .returned v ∧ ss.Perm (strKeys D0) ∧
      w'.ownsRow (w.alloc (.cells #[.map (some b)] 112)).heap.size 9 1 v ss.length ((ss.mergeSort (fun x y => decide (x ≤ y))).map encStr) ∧ (v = .slice none 0 0 ↔ ss = []) ∧ Below (w.alloc (.cells #[.map (some b)] 112)).heap.size (w.alloc (.cells #[.map (some b)] 112)) w' := by
  have hbl := hown.lt
  have hseq : SeqGives Fence.wide 2 Tryz.prog 147 #[.pointer (some ⟨w.heap.size, 0, none⟩)] encStr (fun ss => ss.Perm (strKeys D0)) (Maps.size D0) (w.alloc (.cells #[.map (some b)] 112)) :=
    AnyZ.keys_gives (ρ := Tryz.keys86_ren) { Tryz.keys86 with } Fence.wide _ trivial rfl (by omega) w.heap.size b nn D0 _ (by simp) (by simp) (by
      obtain ⟨es, clock, hb, Ft, hs, hD⟩ := hown
      exact ⟨es, clock, (Below.heap_alloc _ _ b hbl).trans hb, Ft, hs, hD⟩)
  exact AnyZ.sorted_in Tryz.sorted85 Fence.wide 5 trivial trivial trivial trivial rfl (by omega) (Tryz.sorts85 _) (enters_of Tryz.func146 (by kernel_rfl) rfl) 147 #[.pointer (some ⟨w.heap.size, 0, none⟩)] trivial (enters_of Tryz.func147 (by kernel_rfl) rfl) _ _ hmax hbytes _ hseq

set_option maxHeartbeats 1000000 in
theorem Tryz.slices_Sorted_keys_nil_85_86 (w : World) :
    CallsIn Fence.wide 5 Tryz.prog 85 #[.func (.func 147) #[] #[.pointer (some ⟨w.heap.size, 0, none⟩)]] (w.alloc (.cells #[.map none] 112)) fun e w' => ∃ (v : Value) (ss : List (List UInt8)), e = .returned v ∧ ss = [] ∧
      w'.ownsRow (w.alloc (.cells #[.map none] 112)).heap.size 9 1 v ss.length ((ss.mergeSort (fun x y => decide (x ≤ y))).map encStr) ∧ (v = .slice none 0 0 ↔ ss = []) ∧ Below (w.alloc (.cells #[.map none] 112)).heap.size (w.alloc (.cells #[.map none] 112)) w' := by
  have hseq : SeqGives Fence.wide 2 Tryz.prog 147 #[.pointer (some ⟨w.heap.size, 0, none⟩)] encStr (fun ss : List (List UInt8) => ss = []) 0 (w.alloc (.cells #[.map none] 112)) :=
    AnyZ.keys_gives_nil (ρ := Tryz.keys86_ren) { Tryz.keys86 with } Fence.wide _ trivial rfl w.heap.size _ (by simp) (by simp)
  exact AnyZ.sorted_in Tryz.sorted85 Fence.wide 5 trivial trivial trivial trivial rfl (by omega) (Tryz.sorts85 _) (enters_of Tryz.func146 (by kernel_rfl) rfl) 147 #[.pointer (some ⟨w.heap.size, 0, none⟩)] trivial (enters_of Tryz.func147 (by kernel_rfl) rfl) _ 0 (Nat.zero_le _) (by omega) _ hseq



theorem Tryz.maps_Keys_149 (mb : Option Nat) (W : World) : CallsIn Fence.wide 5 Tryz.prog 149 #[.map mb] W fun e w' => e = .returned (.func (.func 169) #[] #[.pointer (some ⟨W.heap.size, 0, none⟩)]) ∧ w' = W.alloc (.cells #[.map mb] 113) :=
  AnyZ.keys_in Tryz.keys149 Fence.wide 5 trivial rfl mb W

set_option maxHeartbeats 1000000 in
theorem Tryz.slices_Sorted_keys_85_149 {H : Type} (b nn : Nat) (D0 : DataW H) (R : Value → Option (DataW H × List MemPlace)) (w : World) (hown : w.ownsMap Tryz.prog 9 R b nn D0) (hmax : Maps.size D0 ≤ maxLen) (hbytes : Maps.size D0 * 16 ≤ 140737488355328) :
    CallsIn Fence.wide 5 Tryz.prog 85 #[.func (.func 169) #[] #[.pointer (some ⟨w.heap.size, 0, none⟩)]] (w.alloc (.cells #[.map (some b)] 113)) fun e w' => ∃ (v : Value) (ss : List (List UInt8)), e = .returned v ∧ ss.Perm (strKeys D0) ∧
      w'.ownsRow (w.alloc (.cells #[.map (some b)] 113)).heap.size 9 1 v ss.length ((ss.mergeSort (fun x y => decide (x ≤ y))).map encStr) ∧ (v = .slice none 0 0 ↔ ss = []) ∧ Below (w.alloc (.cells #[.map (some b)] 113)).heap.size (w.alloc (.cells #[.map (some b)] 113)) w' := by
  have hbl := hown.lt
  have hseq : SeqGives Fence.wide 2 Tryz.prog 169 #[.pointer (some ⟨w.heap.size, 0, none⟩)] encStr (fun ss => ss.Perm (strKeys D0)) (Maps.size D0) (w.alloc (.cells #[.map (some b)] 113)) :=
    AnyZ.keys_gives (ρ := Tryz.keys149_ren) { Tryz.keys149 with } Fence.wide _ trivial rfl (by omega) w.heap.size b nn D0 _ (by simp) (by simp) (by
      obtain ⟨es, clock, hb, Ft, hs, hD⟩ := hown
      exact ⟨es, clock, (Below.heap_alloc _ _ b hbl).trans hb, Ft, hs, hD⟩)
  exact AnyZ.sorted_in Tryz.sorted85 Fence.wide 5 trivial trivial trivial trivial rfl (by omega) (Tryz.sorts85 _) (enters_of Tryz.func146 (by kernel_rfl) rfl) 169 #[.pointer (some ⟨w.heap.size, 0, none⟩)] trivial (enters_of Tryz.func169 (by kernel_rfl) rfl) _ _ hmax hbytes _ hseq

set_option maxHeartbeats 1000000 in
theorem Tryz.slices_Sorted_keys_nil_85_149 (w : World) :
    CallsIn Fence.wide 5 Tryz.prog 85 #[.func (.func 169) #[] #[.pointer (some ⟨w.heap.size, 0, none⟩)]] (w.alloc (.cells #[.map none] 113)) fun e w' => ∃ (v : Value) (ss : List (List UInt8)), e = .returned v ∧ ss = [] ∧
      w'.ownsRow (w.alloc (.cells #[.map none] 113)).heap.size 9 1 v ss.length ((ss.mergeSort (fun x y => decide (x ≤ y))).map encStr) ∧ (v = .slice none 0 0 ↔ ss = []) ∧ Below (w.alloc (.cells #[.map none] 113)).heap.size (w.alloc (.cells #[.map none] 113)) w' := by
  have hseq : SeqGives Fence.wide 2 Tryz.prog 169 #[.pointer (some ⟨w.heap.size, 0, none⟩)] encStr (fun ss : List (List UInt8) => ss = []) 0 (w.alloc (.cells #[.map none] 113)) :=
    AnyZ.keys_gives_nil (ρ := Tryz.keys149_ren) { Tryz.keys149 with } Fence.wide _ trivial rfl w.heap.size _ (by simp) (by simp)
  exact AnyZ.sorted_in Tryz.sorted85 Fence.wide 5 trivial trivial trivial trivial rfl (by omega) (Tryz.sorts85 _) (enters_of Tryz.func146 (by kernel_rfl) rfl) 169 #[.pointer (some ⟨w.heap.size, 0, none⟩)] trivial (enters_of Tryz.func169 (by kernel_rfl) rfl) _ 0 (Nat.zero_le _) (by omega) _ hseq
end Go.Proofs

namespace Go.Proofs.YthfbfdkjgkkpcaaGreat
open Go Go.RowKit Go.Maps Go.Sort

/-- How an element reads: it is not looked into. -/
def blindR (_ : Value) : Option (DataW Unit × List MemPlace) := some (.lit (.bool true), [])
def leK : List UInt8 → List UInt8 → Bool := fun x y => decide (x ≤ y)
/-- The keys in order. -/
def sortK (m : List (List UInt8 × List UInt8)) : List (List UInt8) := (m.map (·.1)).mergeSort leK

theorem keyOf_enc (k : List UInt8) (h : k.length ≤ maxLen) : keyOf Tryz.prog 9 (encS k) = some (.string k) := by
  have hu : Tryz.prog.underlying 9 = some .string := by kernel_rfl
  have hs : ByteArray.size ⟨k.toArray⟩ ≤ maxLen := by simpa [ByteArray.size] using h
  simp [keyOf, hu, mapKey, hs]
theorem ownsMap_of {w : World} {mb : Nat} {es : List (List UInt8 × Value)} (h : MapW w mb es) (hk : ∀ p ∈ es, p.1.length ≤ maxLen) (hn : es.length ≤ maxLen) :
    ∃ D : DataW Unit, w.ownsMap Tryz.prog 9 blindR mb es.length D ∧ Maps.size D = es.length ∧ (strKeys D).Perm (es.map (·.1)) := by
  obtain ⟨arr, clock, hb, hE, hbn, hbl⟩ := h.ex
  have hlen : arr.toList.length = es.length := ents_length hE
  have hrd : ∀ (l : List MapEntry) (q : List (List UInt8 × Value)), Ents l q → (∀ p ∈ q, p.1.length ≤ maxLen) → l.map (WideElems.rg Tryz.prog 9 blindR) = q.map (fun p => (Lit.string p.1, DataW.lit (.bool true))) ∧ ∀ x ∈ l, ∃ y, WideElems.rd Tryz.prog 9 blindR x = some y := by
    intro l
    induction l with
    | nil => intro q hq _; cases q with
      | nil => exact ⟨rfl, by simp⟩
      | cons _ _ => cases hq
    | cons x l ih =>
      intro q hq hk
      cases q with
      | nil => cases hq
      | cons p q =>
        simp only [Ents, List.map_cons, List.cons.injEq, Prod.mk.injEq] at hq
        obtain ⟨⟨h1, h2⟩, h3⟩ := hq
        obtain ⟨i1, i2⟩ := ih q h3 (fun p hp => hk p (List.mem_cons_of_mem _ hp))
        have hx : WideElems.rd Tryz.prog 9 blindR x = some (Lit.string p.1, DataW.lit (.bool true)) := by
          unfold WideElems.rd
          rw [h1, keyOf_enc p.1 (hk p (by simp))]
          rfl
        refine ⟨?_, fun y hy => ?_⟩
        · rw [List.map_cons, List.map_cons, i1]
          unfold WideElems.rg
          rw [hx]
          rfl
        · rcases List.mem_cons.1 hy with rfl | hy
          · exact ⟨_, hx⟩
          · exact i2 y hy
  obtain ⟨hrg, hreads⟩ := hrd arr.toList es hE hk
  have hkeys : arr.toList.map (·.key) = es.map (fun p => encS p.1) := by
    have := congrArg (List.map Prod.fst) hE
    simpa [List.map_map, Function.comp_def] using this
  refine ⟨.map ((arr.toList.map (WideElems.rg Tryz.prog 9 blindR)).foldr DataW.insert []), ⟨arr, clock, hb, ⟨?_, ?_, ?_⟩, ?_, rfl⟩, ?_, ?_⟩
  · rw [← Array.length_toList, hlen]; exact hn
  · rw [MapKept.stamped_iff]
    refine ⟨fun x hx => hbl _ (List.mem_map_of_mem hx), hbn, ?_⟩
    have hnd : (arr.toList.map (·.key)).Nodup := by
      rw [hkeys]
      have := h.nodup
      rw [List.nodup_iff_pairwise_ne, List.pairwise_map] at this ⊢
      exact this.imp (fun hne he => hne (encS_inj he))
    rw [List.nodup_iff_pairwise_ne, List.pairwise_map] at hnd
    exact hnd
  · exact hreads
  · rw [← Array.length_toList, hlen]
    exact Nat.le_refl _
  · show List.length _ = _
    rw [(WideShapes.sorted_perm _).length_eq, hrg]
    simp
  · show (List.map (fun (p : Lit × DataW Unit) => strOf p.1) _).Perm _
    refine ((WideShapes.sorted_perm _).map _).trans ?_
    rw [hrg]
    simp [List.map_map, Function.comp_def, strOf]
theorem sortK_perm {l l' : List (List UInt8)} (h : l.Perm l') : l.mergeSort leK = l'.mergeSort leK := mergeSort_of_perm h

/-- maps.Keys' function value over a block. -/
abbrev keysV (b : Nat) : Value := .func (.func 147) #[] #[.pointer (some ⟨b, 0, none⟩)]
theorem maps_keys (w : World) (mb : Nat) : Calls Tryz.prog 86 #[.map (some mb)] w fun e w' => e = .returned (keysV w.heap.size) ∧ w' = w.alloc (.cells #[.map (some mb)] 112) :=
  callsIn_wide.1 (Tryz.maps_Keys_86 (some mb) w)
theorem sorted_keys (w : World) (mb : Nat) (m : List (List UInt8 × List UInt8)) (hM : MapB w mb m) (hk : ∀ p ∈ m, p.1.length ≤ maxLen) (hn : m.length ≤ 1000000000) :
    Calls Tryz.prog 85 #[keysV w.heap.size] (w.alloc (.cells #[.map (some mb)] 112)) fun e w' => ∃ v, e = .returned v ∧
      w'.ownsRow w.heap.size 9 1 v m.length ((sortK m).map encS) ∧ Upd [] (w.alloc (.cells #[.map (some mb)] 112)) w' := by
  obtain ⟨es, m', hW, hV, hP⟩ := hM
  have hkeys : (es.map (·.1)).Perm (m.map (·.1)) := by rw [hV.keys]; exact hP.map _
  have hlen : es.length = m.length := by have := hkeys.length_eq; simpa using this
  have hk' : ∀ p ∈ es, p.1.length ≤ maxLen := by
    intro p hp
    have h1 : p.1 ∈ m.map (·.1) := hkeys.subset (List.mem_map_of_mem hp)
    obtain ⟨q, hq, he⟩ := List.mem_map.1 h1
    rw [← he]; exact hk q hq
  obtain ⟨D, hown, hsz, hst⟩ := ownsMap_of hW hk' (by rw [hlen]; unfold maxLen; omega)
  have hc := callsIn_wide.1 (Tryz.slices_Sorted_keys_85_86 mb es.length D blindR w hown (by rw [hsz, hlen]; unfold maxLen; omega) (by rw [hsz, hlen]; omega))
  refine hc.mono ?_
  rintro e w' ⟨v, ss, rfl, hp, hrow, _, hbel⟩
  have hpm : ss.Perm (m.map (·.1)) := (hp.trans hst).trans hkeys
  have hl : ss.length = m.length := by have := hpm.length_eq; simpa using this
  have e1 : (ss.mergeSort (fun x y => decide (x ≤ y))).map encStr = (sortK m).map encS := by
    rw [show ss.mergeSort (fun x y => decide (x ≤ y)) = sortK m from sortK_perm hpm]
  rw [e1, hl] at hrow
  exact ⟨v, rfl, Own.mono hrow (by simp), Upd.of_below hbel⟩
end Go.Proofs.YthfbfdkjgkkpcaaGreat
