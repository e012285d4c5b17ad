/-
  The document's disk, plainly: files by names, the loose changes, what each step comes to.
-/
import Derived.Test.YthfbfdkjgkkpcaaFm
namespace Go.Proofs.Ythfbfdkjgkkpcaa

/-- A change: 0 Create a, 1 Append p to a, 2 Remove a, 3 Rename a to b. -/
structure Chg where
  kind : Nat
  a : List UInt8
  b : List UInt8
  p : List UInt8

/-- A change done. -/
def fdo (m : List (List UInt8 × List UInt8)) (c : Chg) : List (List UInt8 × List UInt8) :=
  if c.kind = 0 then fput c.a [] m
  else if c.kind = 1 then fput c.a ((aget c.a m).getD [] ++ c.p) m
  else if c.kind = 2 then fdel c.a m
  else fput c.b ((aget c.a m).getD []) (fdel c.a m)
/-- All bytes. -/
def used : List (List UInt8 × List UInt8) → Nat
  | [] => 0
  | p :: r => p.2.length + used r

structure DSt where
  room : Nat
  now : List (List UInt8 × List UInt8)
  sure : List (List UInt8 × List UInt8)
  loose : List Chg
  fuse : Int
  down : Bool

/-- What power a step takes. -/
def burn (n : Int) : Int := if 0 < n then n - 1 else n
/-- A change, if there is power. -/
def DSt.does (D : DSt) (c : Chg) : DSt × Nat :=
  if D.fuse = 0 then ({ D with down := true }, 5) else ({ D with fuse := burn D.fuse, now := fdo D.now c, loose := D.loose ++ [c] }, 0)
def isName (s : List UInt8) : Bool := decide (s ≠ [] ∧ s.length ≤ 160)
def DSt.create (D : DSt) (name : List UInt8) : DSt × Nat :=
  if D.down then (D, 5) else if isName name = false then (D, 1) else if (aget name D.now).isSome then (D, 7) else if 4096 ≤ D.now.length then (D, 4)
  else D.does ⟨0, name, [], []⟩
def DSt.append (D : DSt) (name p : List UInt8) : DSt × Nat :=
  if D.down then (D, 5) else if (aget name D.now).isNone then (D, 6) else if 1048576 < p.length then (D, 8) else if D.room < used D.now + p.length then (D, 4)
  else D.does ⟨1, name, [], p⟩
def DSt.remove (D : DSt) (name : List UInt8) : DSt × Nat :=
  if D.down then (D, 5) else if (aget name D.now).isNone then (D, 6) else D.does ⟨2, name, [], []⟩
def DSt.rename (D : DSt) (a b : List UInt8) : DSt × Nat :=
  if D.down then (D, 5) else if (aget a D.now).isNone then (D, 6) else if isName b = false then (D, 1) else D.does ⟨3, a, b, []⟩
def DSt.sync (D : DSt) : DSt × Nat :=
  if D.down then (D, 5) else if D.fuse = 0 then ({ D with down := true }, 5) else ({ D with fuse := burn D.fuse, sure := D.now, loose := [] }, 0)
def DSt.setFuse (D : DSt) (n : Int) : DSt × Nat := if D.down then (D, 5) else ({ D with fuse := max n (-1) }, 0)

/-- The files behind the first i loose changes. -/
def DSt.mid (D : DSt) (i : Nat) : List (List UInt8 × List UInt8) := (D.loose.take i).foldl fdo D.sure
structure DInv (D : DSt) : Prop where
  room : D.room ≤ 67108864
  nodup : (D.sure.map (·.1)).Nodup
  now : D.loose.foldl fdo D.sure = D.now
  fits : ∀ i, used (D.mid i) ≤ D.room
  fuse : -1 ≤ D.fuse
  kinds : ∀ c ∈ D.loose, c.kind ≤ 3 ∧ c.p.length ≤ 1048576

theorem fdo_nodup {m : List (List UInt8 × List UInt8)} (hn : (m.map (·.1)).Nodup) (c : Chg) : ((fdo m c).map (·.1)).Nodup := by
  unfold fdo
  split
  · exact fput_nodup hn
  split
  · exact fput_nodup hn
  split
  · exact fdel_nodup hn
  · exact fput_nodup (fdel_nodup hn)
theorem foldl_fdo_nodup (l : List Chg) : ∀ {m : List (List UInt8 × List UInt8)}, (m.map (·.1)).Nodup → ((l.foldl fdo m).map (·.1)).Nodup := by
  induction l with
  | nil => intro m h; exact h
  | cons c l ih => intro m h; exact ih (fdo_nodup h c)
theorem DInv.nodupNow {D : DSt} (h : DInv D) : (D.now.map (·.1)).Nodup := by rw [← h.now]; exact foldl_fdo_nodup _ h.nodup
theorem DInv.usedNow {D : DSt} (h : DInv D) : used D.now ≤ D.room := by
  have := h.fits D.loose.length
  unfold DSt.mid at this
  rwa [List.take_length, h.now] at this

theorem used_perm {m m' : List (List UInt8 × List UInt8)} (h : m.Perm m') : used m = used m' := by
  induction h with
  | nil => rfl
  | cons p _ ih => simp [used, ih]
  | swap p q l => simp [used]; omega
  | trans _ _ ih1 ih2 => rw [ih1, ih2]
theorem used_fput (k l : List UInt8) (m : List (List UInt8 × List UInt8)) : used (fput k l m) = l.length + used (fdel k m) := used_perm (fput_perm k l m)
theorem used_fdel (k : List UInt8) {m : List (List UInt8 × List UInt8)} (hn : (m.map (·.1)).Nodup) : used (fdel k m) + ((aget k m).getD []).length = used m := by
  induction m with
  | nil => simp [fdel, used, aget]
  | cons p r ih =>
    simp only [List.map_cons, List.nodup_cons] at hn
    by_cases h : p.1 = k
    · simp only [fdel, if_pos h, aget, used]
      rw [fdel_none (h ▸ hn.1)]
      simp; omega
    · simp only [fdel, if_neg h, aget, used]
      have := ih hn.2
      omega
theorem aget_le_used {k l : List UInt8} {m : List (List UInt8 × List UInt8)} (h : aget k m = some l) : l.length ≤ used m := by
  induction m with
  | nil => simp [aget] at h
  | cons p r ih =>
    unfold aget at h
    unfold used
    split at h
    · cases h; omega
    · have := ih h; omega
theorem used_fdo {m : List (List UInt8 × List UInt8)} (hn : (m.map (·.1)).Nodup) (c : Chg) : used (fdo m c) ≤ used m + (if c.kind = 1 then c.p.length else 0) := by
  have h1 := used_fdel c.a hn
  unfold fdo
  split
  · rw [used_fput]; simp; omega
  split
  · rw [used_fput]; simp; omega
  split
  · omega
  · rw [used_fput]
    have h2 := used_fdel c.b (fdel_nodup (k := c.a) hn)
    omega

theorem DInv.does {D : DSt} (h : DInv D) (c : Chg) (hk : c.kind ≤ 3) (hp : c.p.length ≤ 1048576) (hr : c.kind = 1 → used D.now + c.p.length ≤ D.room) : DInv (D.does c).1 := by
  unfold DSt.does
  split
  · exact ⟨h.room, h.nodup, h.now, h.fits, h.fuse, h.kinds⟩
  · refine ⟨h.room, h.nodup, ?_, ?_, ?_, ?_⟩
    · show (D.loose ++ [c]).foldl fdo D.sure = fdo D.now c
      rw [List.foldl_append, h.now]
      rfl
    · intro i
      show used (((D.loose ++ [c]).take i).foldl fdo D.sure) ≤ D.room
      by_cases hi : i ≤ D.loose.length
      · rw [List.take_append_of_le_length hi]; exact h.fits i
      · rw [List.take_of_length_le (by simp; omega), List.foldl_append, h.now]
        show used (fdo D.now c) ≤ D.room
        have h1 := used_fdo h.nodupNow c
        have h2 := h.usedNow
        split at h1
        · rename_i h3; have := hr h3; omega
        · omega
    · have := h.fuse
      show -1 ≤ burn D.fuse
      unfold burn
      split <;> omega
    · intro c' hc'
      rcases List.mem_append.1 hc' with h1 | h1
      · exact h.kinds c' h1
      · simp at h1; subst h1; exact ⟨hk, hp⟩
theorem DInv.create {D : DSt} (h : DInv D) (name : List UInt8) : DInv (D.create name).1 := by
  unfold DSt.create
  repeat' split
  all_goals first | exact h | exact h.does _ (by simp) (by simp) (by simp)
theorem DInv.append {D : DSt} (h : DInv D) (name p : List UInt8) : DInv (D.append name p).1 := by
  unfold DSt.append
  split
  · exact h
  split
  · exact h
  split
  · exact h
  split
  · exact h
  · exact h.does _ (by simp) (by simp; omega) (by simp; omega)
theorem DInv.remove {D : DSt} (h : DInv D) (name : List UInt8) : DInv (D.remove name).1 := by
  unfold DSt.remove
  repeat' split
  all_goals first | exact h | exact h.does _ (by simp) (by simp) (by simp)
theorem DInv.rename {D : DSt} (h : DInv D) (a b : List UInt8) : DInv (D.rename a b).1 := by
  unfold DSt.rename
  repeat' split
  all_goals first | exact h | exact h.does _ (by simp) (by simp) (by simp)
theorem DInv.sync {D : DSt} (h : DInv D) : DInv D.sync.1 := by
  unfold DSt.sync
  split
  · exact h
  split
  · exact ⟨h.room, h.nodup, h.now, h.fits, h.fuse, h.kinds⟩
  · refine ⟨h.room, h.nodupNow, rfl, ?_, ?_, by intro c hc; cases hc⟩
    · intro i
      unfold DSt.mid
      simp only [List.take_nil, List.foldl_nil]
      exact h.usedNow
    · have := h.fuse
      show -1 ≤ burn D.fuse
      unfold burn
      split <;> omega
theorem DInv.new {room : Nat} (h : room ≤ 67108864) : DInv ⟨room, [], [], [], -1, false⟩ :=
  ⟨h, by simp, rfl, by intro i; simp [DSt.mid, used], by show (-1 : Int) ≤ -1; omega, by intro c hc; cases hc⟩

end Go.Proofs.Ythfbfdkjgkkpcaa
