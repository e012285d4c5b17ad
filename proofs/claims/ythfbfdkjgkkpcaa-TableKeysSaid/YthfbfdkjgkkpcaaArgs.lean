/-
  Arguments opened: bytes, and changes, as the walks read them.
-/
import Derived.Test.YthfbfdkjgkkpcaaPrs
import Derived.ChangeSlices
import Derived.OpenShut
import Derived.ProofKit
import Derived.ChangeMaps5
namespace Go.Proofs.Ythfbfdkjgkkpcaa
open Go Go.ChangeShapes Go.WideShapes Go.ChangeAt Go.RowKit Go.ChangeMaps

theorem len_three {α : Type} : ∀ {l : List α}, l.length = 3 → ∃ a b c, l = [a, b, c]
  | [a, b, c], _ => ⟨a, b, c, rfl⟩
theorem len_two {α : Type} : ∀ {l : List α}, l.length = 2 → ∃ a b, l = [a, b]
  | [a, b], _ => ⟨a, b, rfl⟩
theorem addr_add_add (a : Addr) (m j : Nat) : (a.add m).add j = a.add (m + j) := by
  obtain ⟨b, o, s⟩ := a
  simp only [Addr.add]
  by_cases hm : m = 0
  · subst hm; simp
  · by_cases hj : j = 0
    · subst hj; simp
    · rw [if_neg hm, if_neg hj, if_neg (by omega)]
      simp only [Addr.mk.injEq, and_true, true_and]
      omega
section
variable {H : Type} {en : TypeId × Value → H} {w : World} {base : Nat} {sp : Nat → Bool} {held : Bool}
theorem open_bytesX {fuel : Nat} {cs : List Value} {x : DataW H × List MemPlace} (h : DataW.trod en Try.prog w base sp held fuel 41 cs = some x) : ∃ v l, cs = [v] ∧ ByX w v l := by
  rcases open_ints Try.underlying41 Try.underlying5 (by kernel_rfl) h with ⟨rfl, _⟩ | ⟨a, len, cap, zs, rfl, _, hlc, hcm, hzl, _, hcell, hwf⟩
  · exact ⟨_, [], rfl, by simp, Nat.zero_le _, .inl ⟨rfl, rfl⟩⟩
  · have hl : len ≤ zs.length := by rw [hzl]; split <;> omega
    have hn : ((zs.take len).map (fun n => UInt8.ofNat n.toNat)).length = len := by simp; omega
    refine ⟨_, (zs.take len).map (fun n => UInt8.ofNat n.toNat), rfl, by simp, by rw [hn]; omega, .inr ⟨a, cap, by rw [hn], by rw [hn]; exact hlc, fun j u hj => ?_⟩⟩
    have hjl : j < len := by
      have := (List.getElem?_eq_some_iff.1 hj).1
      rw [List.length_map, hn] at this
      exact this
    have hz : zs[j]? = some (zs[j]'(by omega)) := List.getElem?_eq_getElem (by omega)
    rw [List.map_map, List.getElem?_map, List.getElem?_take, if_pos hjl, hz] at hj
    simp only [Option.map_some, Option.some.injEq, Function.comp] at hj
    rw [hcell j (by omega), List.getD, hz, ← hj]
    have hb := hwf (zs[j]'(by omega)) (List.getElem_mem _)
    generalize zs[j]'(by omega) = z at hb ⊢
    simp [Lit.wf, IntKind.min, IntKind.max, IntKind.signed, IntKind.bits] at hb
    simp only [Option.getD_some, enc]
    congr 2
    rw [UInt8.toNat_ofNat']
    omega
theorem XCells.append {w : World} {ds : List Value} {m : List TChg} (hd : XCells w ds m) : ∀ {cs : List Value} {l : List TChg}, XCells w cs l → XCells w (cs ++ ds) (l ++ m)
  | [], [], _ => hd
  | _ :: _ :: _ :: _, _ :: _, h => ⟨h.1, h.2.1, h.2.2.1, XCells.append hd h.2.2.2⟩
theorem open_chg {fuel : Nat} {cs : List Value} {x : DataW H × List MemPlace} (h : DataW.trod en Try.prog w base sp held fuel 82 cs = some x) : ∃ (pv : Value) (c : TChg), cs = [encS c.key, .bool c.gone, pv] ∧ ByX w pv c.val := by
  obtain ⟨xs, n, rfl, _, hl, hx, hf⟩ := DataW.trod_struct Try.underlying82 h
  have hl3 : cs.length = 3 := by rw [hl]; kernel_rfl
  obtain ⟨c0, c1, c2, rfl⟩ := len_three hl3
  obtain ⟨y0, y1, y2, rfl⟩ := len_three (show xs.length = 3 from hx)
  have z9 : Try.prog.cellsOf 9 = 1 := by kernel_rfl
  have z4 : Try.prog.cellsOf 4 = 1 := by kernel_rfl
  have z41 : Try.prog.cellsOf 41 = 1 := by kernel_rfl
  have f0 : DataW.trod en Try.prog w base sp held n 9 (([c0, c1, c2].drop 0).take (Try.prog.cellsOf 9)) = some y0 := hf 0 _ rfl
  have f1 : DataW.trod en Try.prog w base sp held n 4 (([c0, c1, c2].drop 1).take (Try.prog.cellsOf 4)) = some y1 := hf 1 _ rfl
  have f2 : DataW.trod en Try.prog w base sp held n 41 (([c0, c1, c2].drop 2).take (Try.prog.cellsOf 41)) = some y2 := hf 2 _ rfl
  rw [z9] at f0
  rw [z4] at f1
  rw [z41] at f2
  obtain ⟨s, e0, _, _⟩ := DataW.trod_string Try.underlying9 f0
  obtain ⟨b, e1, _⟩ := DataW.trod_bool Try.underlying4 f1
  obtain ⟨pv, v, e2, hv⟩ := open_bytesX f2
  have q0 : c0 = .string s := by injection e0
  have q1 : c1 = .bool b := by injection e1
  have q2 : c2 = pv := by injection e2
  subst q0
  subst q1
  subst q2
  exact ⟨c2, ⟨s.data.toList, b, v⟩, by simp [encS], hv⟩
theorem build_chgs {a : Addr} : ∀ (k : Nat), (∀ i, i < k → ∃ (pv : Value) (c : TChg), (∀ j u, [encS c.key, .bool c.gone, pv][j]? = some u → w.cell? (a.add (i * 3 + j)) = some u) ∧ ByX w pv c.val) →
    ∃ (cells : List Value) (l : List TChg), cells.length = k * 3 ∧ l.length = k ∧ XCells w cells l ∧ ∀ j u, cells[j]? = some u → w.cell? (a.add j) = some u
  | 0, _ => ⟨[], [], rfl, rfl, trivial, fun j u h => by simp at h⟩
  | k + 1, h => by
    obtain ⟨cells, l, h1, h2, h3, h4⟩ := build_chgs k (fun i hi => h i (by omega))
    obtain ⟨pv, c, h5, h6⟩ := h k (by omega)
    have hd : XCells w [encS c.key, .bool c.gone, pv] [c] := ⟨rfl, rfl, h6, trivial⟩
    refine ⟨cells ++ [encS c.key, .bool c.gone, pv], l ++ [c], by simp [h1]; omega, by simp [h2], hd.append h3, ?_⟩
    intro j u hj
    by_cases hlt : j < cells.length
    · rw [List.getElem?_append_left hlt] at hj
      exact h4 j u hj
    · rw [List.getElem?_append_right (by omega), h1] at hj
      have := h5 (j - k * 3) u hj
      rwa [show k * 3 + (j - k * 3) = j from by omega] at this
theorem open_chgs {fuel : Nat} {cs : List Value} {x : DataW H × List MemPlace} (h : DataW.trod en Try.prog w base sp held fuel 22 cs = some x) : ∃ v l, cs = [v] ∧ RChgs w v l := by
  rcases DataW.trod_slice Try.underlying22 h with ⟨rfl, _⟩ | ⟨a, len, cap, elems, rest, n, _, rfl, _, _, hlc, hcm, hel, hall, _, _⟩
  · exact ⟨_, [], rfl, [], ⟨rfl, Nat.zero_le _, .inl ⟨rfl, rfl⟩⟩, trivial⟩
  · have z : Try.prog.cellsOf 82 = 3 := by kernel_rfl
    rw [z] at hall
    obtain ⟨cells, l, h1, h2, h3, h4⟩ := build_chgs (w := w) (a := a) len (fun i hi => by
      have hi1 := hall i hi
      rw [List.getElem?_eq_getElem (by omega), Option.bind_eq_some_iff] at hi1
      obtain ⟨cs', hc1, hc2⟩ := hi1
      obtain ⟨pv, c, rfl, hv⟩ := open_chg hc2
      refine ⟨pv, c, fun j u hj => ?_, hv⟩
      have hj3 : j < 3 := (List.getElem?_eq_some_iff.1 hj).1
      have h5 := (World.cells?_some hc1).2.2 j hj3
      rw [hj] at h5
      rw [← h5, addr_add_add])
    exact ⟨_, l, rfl, cells, ⟨by rw [h1, h2], by omega, .inr ⟨a, cap, by rw [h2], by omega, h4⟩⟩, h3⟩
theorem open_two {fuel : Nat} {cs : List Value} {x : DataW H × List MemPlace} (h : DataW.trod en Try.prog w base sp held fuel 23 cs = some x) : ∃ a b : List UInt8, cs = [encS a, encS b] ∧ a.length ≤ maxLen := by
  obtain ⟨xs, n, rfl, _, hl, hx, hf⟩ := DataW.trod_array Try.underlying23 h
  have hl3 : cs.length = 2 := by rw [hl]; kernel_rfl
  obtain ⟨c0, c1, rfl⟩ := len_two hl3
  obtain ⟨y0, y1, rfl⟩ := len_two hx
  have z9 : Try.prog.cellsOf 9 = 1 := by kernel_rfl
  generalize Try.prog.cellsOf 9 = z at hf z9
  subst z9
  have f0 := hf 0 (by omega)
  have f1 := hf 1 (by omega)
  obtain ⟨s, e0, _, hs⟩ := DataW.trod_string Try.underlying9 f0
  obtain ⟨t, e1, _, _⟩ := DataW.trod_string Try.underlying9 f1
  have q0 : c0 = .string s := by injection e0
  have q1 : c1 = .string t := by injection e1
  subst q0
  subst q1
  exact ⟨s.data.toList, t.data.toList, by simp [encS], by rw [Array.length_toList]; exact hs⟩
end
end Go.Proofs.Ythfbfdkjgkkpcaa
