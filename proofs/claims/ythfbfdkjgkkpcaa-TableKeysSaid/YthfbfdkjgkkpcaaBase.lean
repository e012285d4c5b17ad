/-
  The words of this seat's proofs: what a world keeps, how a slice reads as a list of cells, how owned rows are handed on. No program in sight but for the number of the byte type.
-/
import Derived.Test.YthfbfdkjgkkpcaaProg
import Derived.WalkKit
import Derived.WalkSpells
import Derived.WalkLawsBesides
import Derived.Lib.Hide
import Derived.OwnWalk
namespace Go.Proofs.Ythfbfdkjgkkpcaa
open Go Go.RowKit

/-- w' is w, but for the blocks of S and new ones. -/
structure Upd (S : List Nat) (w w' : World) : Prop where
  os : w'.os = w.os
  tape : w'.tape = w.tape
  output : w'.output = w.output
  size : w.heap.size ≤ w'.heap.size
  keep : ∀ k, k < w.heap.size → k ∉ S → w'.heap[k]? = w.heap[k]?

theorem Upd.refl (S : List Nat) (w : World) : Upd S w w := ⟨rfl, rfl, rfl, Nat.le_refl _, fun _ _ _ => rfl⟩
theorem Upd.trans {S T : List Nat} {a b c : World} (h : Upd S a b) (k : Upd T b c) (hs : ∀ i ∈ T, i < a.heap.size → i ∈ S) : Upd S a c :=
  ⟨k.os.trans h.os, k.tape.trans h.tape, k.output.trans h.output, Nat.le_trans h.size k.size,
   fun i hi hn => (k.keep i (Nat.lt_of_lt_of_le hi h.size) (fun hm => hn (hs i hm hi))).trans (h.keep i hi hn)⟩
theorem Upd.mono {S T : List Nat} {a b : World} (h : Upd S a b) (hs : ∀ i ∈ S, i < a.heap.size → i ∈ T) : Upd T a b :=
  ⟨h.os, h.tape, h.output, h.size, fun i hi hn => h.keep i hi (fun hm => hn (hs i hm hi))⟩
/-- A step that turns nothing old, behind another one. -/
theorem Upd.then0 {S : List Nat} {a b c : World} (h : Upd S a b) (k : Upd [] b c) : Upd S a c := h.trans k (fun _ hm => by cases hm)
theorem Upd.trans0 {a b c : World} (h : Upd [] a b) (k : Upd [] b c) : Upd [] a c := h.trans k (fun _ hm => by cases hm)
theorem Upd.alloc (S : List Nat) (w : World) (o : Obj) : Upd S w (w.alloc o) :=
  ⟨rfl, rfl, rfl, by simp, fun k hk _ => Below.heap_alloc _ _ _ hk⟩
theorem Upd.drew (S : List Nat) (w : World) : Upd S w w.drew := ⟨rfl, rfl, rfl, Nat.le_refl _, fun _ _ _ => rfl⟩
theorem Upd.setCell {S : List Nat} (w : World) (a : Addr) (u : Value) (h : a.block ∈ S) : Upd S w (w.setCell a u) :=
  ⟨rfl, rfl, rfl, by simp [World.setCell], fun k _ hn => Below.heap_setCell _ _ _ _ (fun e => hn (e ▸ h))⟩
theorem Upd.grown {w w' : World} {row : Option Nat} {S : List Nat} (h : w.grownBy w' row) (hr : ∀ k, row = some k → k ∈ S) : Upd S w w' :=
  ⟨h.os, h.tape, h.output, h.size, fun k hk hn => h.block k hk (fun e => hn (hr k e.symm))⟩
theorem Upd.below {S : List Nat} {w w' : World} {B : Nat} (h : Upd S w w') (hB : B ≤ w.heap.size) (hS : ∀ k ∈ S, B ≤ k) : Below B w w' :=
  ⟨h.os, h.tape, h.output, h.size, fun k hk => h.keep k (Nat.lt_of_lt_of_le hk hB) (fun hm => by have := hS k hm; omega)⟩
theorem Upd.of_below {w w' : World} (h : Below w.heap.size w w') : Upd [] w w' :=
  ⟨h.os, h.tape, h.output, h.size, fun k hk _ => h.block k hk⟩
theorem Upd.get {S : List Nat} {w w' : World} (h : Upd S w w') {k : Nat} {o : Obj} (hk : w.heap[k]? = some o) (hn : k ∉ S) : w'.heap[k]? = some o :=
  (h.keep k (Array.getElem?_eq_some_iff.1 hk).1 hn).trans hk
theorem lt_of_get {w : World} {k : Nat} {o : Obj} (hk : w.heap[k]? = some o) : k < w.heap.size := (Array.getElem?_eq_some_iff.1 hk).1

/-- None of the blocks of S is a row of elements of type e. -/
def Off (w : World) (e : TypeId) (S : List Nat) : Prop := ∀ k ∈ S, ∀ c f, w.heap[k]? ≠ some (.cells c e f)
theorem Off.nil (w : World) (e : TypeId) : Off w e [] := fun _ h => by cases h
theorem Off.cons_cells {w : World} {e t : TypeId} {S : List Nat} {k : Nat} {c : Array Value} {f : Nat × Nat} (hk : w.heap[k]? = some (.cells c t f)) (hn : t ≠ e) (h : Off w e S) : Off w e (k :: S) := by
  intro i hi c' f' hc
  cases hi with
  | head => rw [hk] at hc; cases hc; exact hn rfl
  | tail _ hm => exact h i hm c' f' hc
theorem Off.cons_map {w : World} {e : TypeId} {S : List Nat} {k : Nat} {es : Array MapEntry} {n : Nat} (hk : w.heap[k]? = some (.map es n)) (h : Off w e S) : Off w e (k :: S) := by
  intro i hi c' f' hc
  cases hi with
  | head => rw [hk] at hc; cases hc
  | tail _ hm => exact h i hm c' f' hc

/-- The slice value v reads as n elements of type e (sz cells each), whose cells are xs. -/
def Rd (w : World) (e sz : Nat) (v : Value) (n : Nat) (xs : List Value) : Prop :=
  xs.length = n * sz ∧ n ≤ maxLen ∧ ((v = .slice none 0 0 ∧ n = 0) ∨
    ∃ b off cap cur fz, v = .slice (some ⟨b, off, none⟩) n cap ∧ n ≤ cap ∧ cap ≤ maxLen ∧ w.heap[b]? = some (.cells cur e fz) ∧ off + n * sz ≤ cur.size ∧ (cur.toList.drop off).take (n * sz) = xs)

theorem Rd.nil (w : World) (e sz : Nat) : Rd w e sz (.slice none 0 0) 0 [] := ⟨by simp, Nat.zero_le _, .inl ⟨rfl, rfl⟩⟩
theorem Rd.of_own {w : World} {B e sz : Nat} {v : Value} {n : Nat} {xs : List Value} (h : w.ownsRow B e sz v n xs) : Rd w e sz v n xs := by
  rcases h.2 with ⟨rfl, rfl⟩ | ⟨g, cap, cur, rfl, _, hg, h1, h2, h3, h4⟩
  · exact ⟨h.1, Nat.zero_le _, .inl ⟨rfl, rfl⟩⟩
  · refine ⟨h.1, Nat.le_trans h1 h2, .inr ⟨g, 0, cap, cur, _, rfl, h1, h2, hg, ?_, by simpa using h4⟩⟩
    rw [h3, Nat.zero_add]
    exact Nat.mul_le_mul_right _ h1
theorem Rd.upd {S : List Nat} {w w' : World} {e sz : Nat} {v : Value} {n : Nat} {xs : List Value} (h : Rd w e sz v n xs) (hU : Upd S w w') (hS : Off w e S) : Rd w' e sz v n xs := by
  refine ⟨h.1, h.2.1, ?_⟩
  rcases h.2.2 with hn | ⟨b, off, cap, cur, fz, rfl, h1, h2, h3, h4⟩
  · exact .inl hn
  · exact .inr ⟨b, off, cap, cur, fz, rfl, h1, h2, hU.get h3 (fun hm => hS b hm _ _ h3), h4⟩
theorem Rd.upd0 {w w' : World} {e sz : Nat} {v : Value} {n : Nat} {xs : List Value} (h : Rd w e sz v n xs) (hU : Upd [] w w') : Rd w' e sz v n xs := h.upd hU (Off.nil _ _)
/-- The block behind a slice value is none of S. -/
def Away (v : Value) (S : List Nat) : Prop := ∀ g, v.ownBlock = some g → g ∉ S
theorem Rd.upd_away {S : List Nat} {w w' : World} {e sz : Nat} {v : Value} {n : Nat} {xs : List Value} (h : Rd w e sz v n xs) (hU : Upd S w w') (hS : Away v S) : Rd w' e sz v n xs := by
  refine ⟨h.1, h.2.1, ?_⟩
  rcases h.2.2 with hn | ⟨b, off, cap, cur, fz, rfl, h1, h2, h3, h4⟩
  · exact .inl hn
  · exact .inr ⟨b, off, cap, cur, fz, rfl, h1, h2, hU.get h3 (hS b rfl), h4⟩
theorem Rd.lt {w : World} {e sz : Nat} {v : Value} {n : Nat} {xs : List Value} (h : Rd w e sz v n xs) : ∀ g, v.ownBlock = some g → g < w.heap.size := by
  intro g hg
  rcases h.2.2 with ⟨rfl, _⟩ | ⟨b, off, cap, cur, fz, rfl, h1, h2, h3, h4⟩
  · simp [Value.ownBlock] at hg
  · simp [Value.ownBlock] at hg; subst hg; exact lt_of_get h3
theorem Own.upd {S : List Nat} {w w' : World} {B e sz : Nat} {v : Value} {n : Nat} {xs : List Value} (h : w.ownsRow B e sz v n xs) (hU : Upd S w w') (hS : Away v S) : w'.ownsRow B e sz v n xs := by
  refine ⟨h.1, ?_⟩
  rcases h.2 with hn | ⟨g, cap, cur, rfl, h1, h2, h3⟩
  · exact .inl hn
  · exact .inr ⟨g, cap, cur, rfl, h1, hU.get h2 (hS g rfl), h3⟩
theorem Own.upd0 {w w' : World} {B e sz : Nat} {v : Value} {n : Nat} {xs : List Value} (h : w.ownsRow B e sz v n xs) (hU : Upd [] w w') : w'.ownsRow B e sz v n xs := Own.upd h hU (fun _ _ hm => by cases hm)
theorem Own.mono {w : World} {B B' e sz : Nat} {v : Value} {n : Nat} {xs : List Value} (h : w.ownsRow B e sz v n xs) (hB : B' ≤ B) : w.ownsRow B' e sz v n xs := by
  refine ⟨h.1, ?_⟩
  rcases h.2 with hn | ⟨g, cap, cur, rfl, h1, h2⟩
  · exact .inl hn
  · exact .inr ⟨g, cap, cur, rfl, Nat.le_trans hB h1, h2⟩
theorem Own.away {w : World} {B e sz : Nat} {v : Value} {n : Nat} {xs : List Value} (h : w.ownsRow B e sz v n xs) {S : List Nat} (hS : ∀ k ∈ S, k < B) : Away v S := by
  intro g hg hm
  have := h.lt g hg
  have := hS g hm
  omega
theorem Own.upd_grown {w w' : World} {row : Option Nat} {S : List Nat} (h : w.grownBy w' row) (hr : ∀ k, row = some k → k ∈ S) : Upd S w w' := Upd.grown h hr

/-- A value lies in no block below B. -/
def Fresh (B : Nat) (v : Value) : Prop := ∀ g, v.ownBlock = some g → B ≤ g
theorem Own.fresh {w : World} {B e sz : Nat} {v : Value} {n : Nat} {xs : List Value} (h : w.ownsRow B e sz v n xs) : Fresh B v := fun g hg => (h.lt g hg).1

/-- A byte as a cell; bytes as cells; a text. -/
abbrev enc (b : UInt8) : Value := .int .u8 b.toNat
abbrev encS (l : List UInt8) : Value := .string ⟨l.toArray⟩
abbrev By (w : World) (v : Value) (l : List UInt8) : Prop := Rd w 5 1 v l.length (l.map enc)
abbrev OwnBy (w : World) (B : Nat) (v : Value) (l : List UInt8) : Prop := w.ownsRow B 5 1 v l.length (l.map enc)
theorem enc_oneCell (l : List UInt8) : ∀ u ∈ l.map enc, u.oneCell' = true := by
  intro u hu
  obtain ⟨_, _, rfl⟩ := List.mem_map.1 hu
  rfl
theorem OwnBy.by {w : World} {B : Nat} {v : Value} {l : List UInt8} (h : OwnBy w B v l) : By w v l := Rd.of_own h
theorem By.val {w : World} {v : Value} {l : List UInt8} (h : By w v l) : ∃ ao cap, v = .slice ao l.length cap := by
  rcases h.2.2 with ⟨rfl, h0⟩ | ⟨b, off, cap, cur, fz, rfl, _⟩
  · exact ⟨none, 0, by rw [h0]⟩
  · exact ⟨_, cap, rfl⟩

theorem cell_lit (w : World) (b o : Nat) (cur : Array Value) (e : TypeId) (fz : Nat × Nat) (h : w.heap[b]? = some (.cells cur e fz)) : w.cell? ⟨b, o, none⟩ = cur[o]? := by
  simp [World.cell?, h]
theorem frozen_lit (w : World) (b o : Nat) (cur : Array Value) (e : TypeId) (h : w.heap[b]? = some (.cells cur e (0, 0))) : w.frozen? ⟨b, o, none⟩ = false := by
  simp [World.frozen?, h]

theorem Rd.cell {w : World} {e sz : Nat} {b off n cap : Nat} {xs : List Value} (h : Rd w e sz (.slice (some ⟨b, off, none⟩) n cap) n xs) (j : Nat) (hj : j < n * sz) : w.cell? ⟨b, off + j, none⟩ = xs[j]? := by
  rcases h.2.2 with ⟨h1, _⟩ | ⟨b', off', cap', cur, fz, hv, h1, h2, h3, h4, h5⟩
  · cases h1
  · cases hv
    rw [cell_lit w b (off + j) cur e fz h3, ← h5]
    simp [List.getElem?_take, hj, List.getElem?_drop]

theorem Upd.cell {S : List Nat} {w w' : World} (h : Upd S w w') {a : Addr} {v : Value} (hc : w.cell? a = some v) (hn : a.block ∉ S) : w'.cell? a = some v :=
  (World.cell?_of_block (w := w) (h.keep a.block (World.block_lt_of_cell? w a hc) hn)).trans hc

end Go.Proofs.Ythfbfdkjgkkpcaa
