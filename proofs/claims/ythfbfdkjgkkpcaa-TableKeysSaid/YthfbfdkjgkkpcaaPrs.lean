/-
  How slices read as the document's pairs and changes.
-/
import Derived.Test.YthfbfdkjgkkpcaaPair
import Derived.Test.YthfbfdkjgkkpcaaApply
namespace Go.Proofs.Ythfbfdkjgkkpcaa
open Go Go.RowKit

theorem Own.off {w : World} {B e sz : Nat} {v : Value} {n : Nat} {xs : List Value} (h : w.ownsRow B e sz v n xs) {e' : TypeId} (hne : e ≠ e') : Off w e' v.ownBlock.toList := by
  rcases h.2 with ⟨rfl, _⟩ | ⟨g, cap, cur, rfl, _, hg, _⟩
  · exact Off.nil _ _
  · exact Off.cons_cells hg hne (Off.nil _ _)
/-- The cells of pairs. -/
def PCells (w : World) : List Value → List (List UInt8 × List UInt8) → Prop
  | [], [] => True
  | k :: v :: r, p :: l => k = encS p.1 ∧ By w v p.2 ∧ PCells w r l
  | _, _ => False
theorem PCells.upd {S : List Nat} {w w' : World} (hU : Upd S w w') (hS : Off w 5 S) : ∀ {cs : List Value} {l : List (List UInt8 × List UInt8)}, PCells w cs l → PCells w' cs l
  | [], [], _ => trivial
  | _ :: _ :: _, _ :: _, h => ⟨h.1, h.2.1.upd hU hS, PCells.upd hU hS h.2.2⟩
theorem PCells.len {w : World} : ∀ {cs : List Value} {l : List (List UInt8 × List UInt8)}, PCells w cs l → cs.length = l.length * 2
  | [], [], _ => rfl
  | _ :: _ :: _, _ :: _, h => by have := PCells.len h.2.2; simp only [List.length_cons]; omega
theorem PCells.append {w : World} {ds : List Value} {m : List (List UInt8 × List UInt8)} (hd : PCells w ds m) : ∀ {cs : List Value} {l : List (List UInt8 × List UInt8)}, PCells w cs l → PCells w (cs ++ ds) (l ++ m)
  | [], [], _ => hd
  | _ :: _ :: _, _ :: _, h => ⟨h.1, h.2.1, PCells.append hd h.2.2⟩
theorem PCells.get {w : World} : ∀ {cs : List Value} {l : List (List UInt8 × List UInt8)}, PCells w cs l → ∀ {i : Nat} {p : List UInt8 × List UInt8}, l[i]? = some p →
    ∃ pv, cs[i * 2 + 0]? = some (encS p.1) ∧ cs[i * 2 + 1]? = some pv ∧ By w pv p.2
  | [], [], _, _, _, h => by simp at h
  | k :: a :: r, p0 :: l, hc, 0, c, h => by
    simp only [List.getElem?_cons_zero, Option.some.injEq] at h
    subst h
    obtain ⟨rfl, hp, _⟩ := hc
    exact ⟨a, rfl, rfl, hp⟩
  | k :: a :: r, p0 :: l, hc, i + 1, c, h => by
    simp only [List.getElem?_cons_succ] at h
    obtain ⟨pv, h0, h1, h4⟩ := PCells.get hc.2.2 h
    refine ⟨pv, ?_, ?_, h4⟩
    · rw [show (i + 1) * 2 + 0 = (i * 2 + 0) + 2 by omega]; simpa using h0
    · rw [show (i + 1) * 2 + 1 = (i * 2 + 1) + 2 by omega]; simpa using h1
theorem PCells.take {w : World} : ∀ {cs : List Value} {l : List (List UInt8 × List UInt8)}, PCells w cs l → ∀ (i : Nat), PCells w (cs.take (i * 2)) (l.take i)
  | [], [], _, i => by simp; trivial
  | k :: a :: r, p0 :: l, hc, 0 => by simp; trivial
  | k :: a :: r, p0 :: l, hc, i + 1 => by
    rw [show (i + 1) * 2 = i * 2 + 1 + 1 from by omega]
    exact ⟨hc.1, hc.2.1, PCells.take hc.2.2 i⟩
theorem TCells.append {w : World} {ds : List Value} {m : List TChg} (hd : TCells w ds m) : ∀ {cs : List Value} {l : List TChg}, TCells w cs l → TCells w (cs ++ ds) (l ++ m)
  | [], [], _ => hd
  | _ :: _ :: _ :: _, _ :: _, h => ⟨h.1, h.2.1, h.2.2.1, TCells.append hd h.2.2.2⟩
/-- A slice that reads as pairs; the call's own one. -/
def Prs (w : World) (v : Value) (l : List (List UInt8 × List UInt8)) : Prop := ∃ cells, Rd w 46 2 v l.length cells ∧ PCells w cells l
def OwnPrs (w : World) (B : Nat) (v : Value) (l : List (List UInt8 × List UInt8)) : Prop := ∃ cells, w.ownsRow B 46 2 v l.length cells ∧ PCells w cells l
theorem OwnPrs.prs {w : World} {B : Nat} {v : Value} {l : List (List UInt8 × List UInt8)} (h : OwnPrs w B v l) : Prs w v l := by
  obtain ⟨cells, h1, h2⟩ := h
  exact ⟨cells, Rd.of_own h1, h2⟩
theorem OwnPrs.upd0 {w w' : World} {B : Nat} {v : Value} {l : List (List UInt8 × List UInt8)} (h : OwnPrs w B v l) (hU : Upd [] w w') : OwnPrs w' B v l := by
  obtain ⟨cells, h1, h2⟩ := h
  exact ⟨cells, Own.upd0 h1 hU, h2.upd hU (Off.nil _ _)⟩
theorem OwnPrs.mono {w : World} {B B' : Nat} {v : Value} {l : List (List UInt8 × List UInt8)} (h : OwnPrs w B v l) (hB : B' ≤ B) : OwnPrs w B' v l := by
  obtain ⟨cells, h1, h2⟩ := h
  exact ⟨cells, Own.mono h1 hB, h2⟩
theorem OwnPrs.nil (w : World) (B : Nat) : OwnPrs w B (.slice none 0 0) [] := ⟨[], World.ownsRow_nil _ _ _ _, trivial⟩
theorem Prs.upd {S : List Nat} {w w' : World} {v : Value} {l : List (List UInt8 × List UInt8)} (h : Prs w v l) (hU : Upd S w w') (h1 : Off w 5 S) (h2 : Off w 46 S) : Prs w' v l := by
  obtain ⟨cells, ha, hb⟩ := h
  exact ⟨cells, ha.upd hU h2, hb.upd hU h1⟩
theorem Prs.upd0 {w w' : World} {v : Value} {l : List (List UInt8 × List UInt8)} (h : Prs w v l) (hU : Upd [] w w') : Prs w' v l := h.upd hU (Off.nil _ _) (Off.nil _ _)
theorem Prs.nil (w : World) : Prs w (.slice none 0 0) [] := ⟨[], Rd.nil _ _ _, trivial⟩
theorem Prs.shape {w : World} {v : Value} {l : List (List UInt8 × List UInt8)} (h : Prs w v l) : ∃ ao cap, v = .slice ao l.length cap := by
  obtain ⟨cells, h1, _⟩ := h
  obtain ⟨ao, cap, h2, _⟩ := h1.shape
  exact ⟨ao, cap, h2⟩
/-- The slice value v reads as n elements of sz cells each, whose cells are xs, whatever the row behind it: an argument. -/
def Rdx (w : World) (sz : Nat) (v : Value) (n : Nat) (xs : List Value) : Prop :=
  xs.length = n * sz ∧ n ≤ maxLen ∧ ((v = .slice none 0 0 ∧ n = 0) ∨ ∃ a cap, v = .slice (some a) n cap ∧ n ≤ cap ∧ ∀ j u, xs[j]? = some u → w.cell? (a.add j) = some u)
theorem Rd.x {w : World} {e sz : Nat} {v : Value} {n : Nat} {xs : List Value} (h : Rd w e sz v n xs) : Rdx w sz v n xs := by
  refine ⟨h.1, h.2.1, ?_⟩
  rcases h.2.2 with hn | ⟨b, off, cap, cur, fz, rfl, h1, h2, h3, h4⟩
  · exact .inl hn
  · refine .inr ⟨_, cap, rfl, h1, fun j u hj => ?_⟩
    have hlt : j < n * sz := by rw [← h.1]; exact (List.getElem?_eq_some_iff.1 hj).1
    rw [Addr.add_lit, h.cell j hlt, hj]
theorem Rdx.upd0 {w w' : World} {sz : Nat} {v : Value} {n : Nat} {xs : List Value} (h : Rdx w sz v n xs) (hU : Upd [] w w') : Rdx w' sz v n xs := by
  refine ⟨h.1, h.2.1, ?_⟩
  rcases h.2.2 with hn | ⟨a, cap, rfl, h1, h2⟩
  · exact .inl hn
  · exact .inr ⟨a, cap, rfl, h1, fun j u hj => hU.cell (h2 j u hj) (by simp)⟩
theorem Rdx.shape {w : World} {sz : Nat} {v : Value} {n : Nat} {xs : List Value} (hR : Rdx w sz v n xs) : ∃ ao cap, v = .slice ao n cap ∧ n ≤ cap := by
  rcases hR.2.2 with ⟨rfl, h2⟩ | ⟨a, cap, rfl, h2, _⟩
  · exact ⟨none, 0, by rw [h2], by omega⟩
  · exact ⟨_, cap, rfl, h2⟩
abbrev ByX (w : World) (v : Value) (l : List UInt8) : Prop := Rdx w 1 v l.length (l.map enc)
section
variable {P : Program} {ops : Array Oper} {Q : Exit → Act → World → Prop} {a : Act} {w : World} {rest : List Oper} {o : Oper}
theorem addr_none {w : World} {ad : Addr} {u : Value} (h : w.cell? ad = some u) : ad.spot = none := by
  unfold World.cell? at h
  split at h
  · split at h
    · cases h
    · rename_i hs; simpa using hs
  · cases h
theorem Rdx.at {sz n cap : Nat} {ao : Option Addr} {xs : List Value} (hR : Rdx w sz (.slice ao n cap) n xs) (h0 : 0 < xs.length) : ∃ b off, ao = some ⟨b, off, none⟩ ∧ ∀ j u, xs[j]? = some u → w.cell? ⟨b, off + j, none⟩ = some u := by
  rcases hR.2.2 with ⟨hv, hn⟩ | ⟨ad, cap', hv, h2, h3⟩
  · rw [hR.1, hn] at h0; simp at h0
  · cases hv
    have h4 := h3 0 _ (List.getElem?_eq_getElem h0)
    rw [show ad.add 0 = ad from by simp [Addr.add]] at h4
    have hnone := addr_none h4
    obtain ⟨bl, off, sp⟩ := ad
    cases hnone
    exact ⟨bl, off, rfl, fun j u hj => by have := h3 j u hj; rwa [Addr.add_lit] at this⟩
theorem run_indexAtX {T e sz b : Nat} (hE : Elem P T e sz b) {v : Value} {n : Nat} {xs : List Value} (hR : Rdx w sz v n xs) (k : IntKind) (i : Int) (h0 : 0 ≤ i) (h1 : i < n) :
    ∃ ad, (Instr.indexAt T v (.int k i)).run P w = .ok (.pointer (some ad)) w ∧ (∀ j, j < sz → w.cell? (ad.add j) = xs[i.toNat * sz + j]?) ∧ ad.spot = none := by
  rcases hR.2.2 with ⟨rfl, h2⟩ | ⟨ad, cap, rfl, h2, h3⟩
  · omega
  · have hlt : ∀ j, j < sz → i.toNat * sz + j < xs.length := by
      intro j hj
      have hn : i.toNat + 1 ≤ n := by omega
      have := Nat.mul_le_mul_right sz hn
      rw [Nat.add_mul, Nat.one_mul] at this
      rw [hR.1]; omega
    have hp := hE.pos
    have hnone : ad.spot = none := by
      have hx0 : 0 < xs.length := by have := hlt 0 hp; omega
      have h4 : xs[0]? = some xs[0] := List.getElem?_eq_getElem hx0
      have := h3 0 _ h4
      rw [show ad.add 0 = ad from by simp [Addr.add]] at this
      exact addr_none this
    obtain ⟨bl, off, sp⟩ := ad
    cases hnone
    refine ⟨⟨bl, off + i.toNat * sz, none⟩, ?_, ?_, rfl⟩
    · have hs := sizeOf_run hE w
      simp only [Instr.indexAt, asIntOf, Sem.run_bind, Sem.run_pure, Result.andThen_ok, run_underlying hE.und]
      simp only [h0, h1, and_self, if_true, Sem.run_bind, hs, Result.andThen_ok, Sem.run_pure, Addr.add_lit]
    · intro j hj
      have h5 := List.getElem?_eq_getElem (hlt j hj)
      have := h3 _ _ h5
      rw [Addr.add_lit] at this ⊢
      rw [Nat.add_assoc, this, h5]
theorem wpl_indexAddrX {T e sz b : Nat} (hE : Elem P T e sz b) (hw : Region.wanted o (yielded ops a.tmps) = true) {x ix : Operand} (ho : o.op = .indexAddr T x ix)
    {v : Value} {n : Nat} {xs : List Value} (hR : Rdx w sz v n xs) (hx : a.eval x = v) {k : IntKind} {i : Int} (hi : a.eval ix = .int k i) (h0 : 0 ≤ i) (h1 : i < n)
    (h : ∀ ad, (∀ j, j < sz → w.cell? (ad.add j) = xs[i.toNat * sz + j]?) → ad.spot = none → wpList P ops Q rest (a.put o.dst (.pointer (some ad))) w) : wpList P ops Q (o :: rest) a w := by
  obtain ⟨ad, hr, hc, hs⟩ := run_indexAtX (w := w) hE hR k i h0 h1
  refine wpl_run hw (v := .pointer (some ad)) (w' := w) ?_ (h ad hc hs)
  simp [execOp, ho, hx, hi, hr, Sem.run_bind, Result.andThen]
theorem wpl_indexAddr1X {T e b : Nat} (hE : Elem P T e 1 b) (hw : Region.wanted o (yielded ops a.tmps) = true) {x ix : Operand} (ho : o.op = .indexAddr T x ix)
    {v : Value} {n : Nat} {xs : List Value} (hR : Rdx w 1 v n xs) (hx : a.eval x = v) {k : IntKind} {i : Int} (hi : a.eval ix = .int k i) (h0 : 0 ≤ i) (h1 : i < n) (u : Value) (hu : xs[i.toNat]? = some u)
    (h : ∀ ad, w.cell? ad = some u → wpList P ops Q rest (a.put o.dst (.pointer (some ad))) w) : wpList P ops Q (o :: rest) a w := by
  refine wpl_indexAddrX hE hw ho hR hx hi h0 h1 fun ad hc hs => h ad ?_
  have := hc 0 (by omega)
  rw [Nat.mul_one, Nat.add_zero, hu] at this
  simpa [Addr.add] using this
end
/-- The document's changes: the cells, and a slice of them. -/
def XCells (w : World) : List Value → List TChg → Prop
  | [], [] => True
  | k :: g :: v :: r, c :: l => k = encS c.key ∧ g = .bool c.gone ∧ ByX w v c.val ∧ XCells w r l
  | _, _ => False
theorem XCells.upd0 {w w' : World} (hU : Upd [] w w') : ∀ {cs : List Value} {l : List TChg}, XCells w cs l → XCells w' cs l
  | [], [], _ => trivial
  | _ :: _ :: _ :: _, _ :: _, h => ⟨h.1, h.2.1, h.2.2.1.upd0 hU, XCells.upd0 hU h.2.2.2⟩
theorem XCells.get {w : World} : ∀ {cs : List Value} {l : List TChg}, XCells w cs l → ∀ {i : Nat} {c : TChg}, l[i]? = some c →
    ∃ pv, cs[i * 3 + 0]? = some (encS c.key) ∧ cs[i * 3 + 1]? = some (.bool c.gone) ∧ cs[i * 3 + 2]? = some pv ∧ ByX w pv c.val
  | [], [], _, _, _, h => by simp at h
  | k :: a :: b :: r, c0 :: l, hc, 0, c, h => by
    simp only [List.getElem?_cons_zero, Option.some.injEq] at h
    subst h
    obtain ⟨rfl, rfl, hp, _⟩ := hc
    exact ⟨b, rfl, rfl, rfl, hp⟩
  | k :: a :: b :: r, c0 :: l, hc, i + 1, c, h => by
    simp only [List.getElem?_cons_succ] at h
    obtain ⟨pv, h0, h1, h2, h4⟩ := XCells.get hc.2.2.2 h
    refine ⟨pv, ?_, ?_, ?_, h4⟩
    · rw [show (i + 1) * 3 + 0 = (i * 3 + 0) + 3 by omega]; simpa using h0
    · rw [show (i + 1) * 3 + 1 = (i * 3 + 1) + 3 by omega]; simpa using h1
    · rw [show (i + 1) * 3 + 2 = (i * 3 + 2) + 3 by omega]; simpa using h2
def RChgs (w : World) (v : Value) (l : List TChg) : Prop := ∃ cells, Rdx w 3 v l.length cells ∧ XCells w cells l
theorem RChgs.upd0 {w w' : World} {v : Value} {l : List TChg} (h : RChgs w v l) (hU : Upd [] w w') : RChgs w' v l := by
  obtain ⟨cells, ha, hb⟩ := h
  exact ⟨cells, ha.upd0 hU, hb.upd0 hU⟩
theorem RChgs.shape {w : World} {v : Value} {l : List TChg} (h : RChgs w v l) : ∃ ao cap, v = .slice ao l.length cap := by
  obtain ⟨cells, h1, _⟩ := h
  obtain ⟨ao, cap, h2, _⟩ := h1.shape
  exact ⟨ao, cap, h2⟩
theorem elPair : Elem Try.prog 33 46 2 40 := ⟨by kernel_rfl, by omega, by
  obtain ⟨i, h1, h2, h3, h4⟩ := info_parts (P := Try.prog) (e := 46) (z := .agg #[.string ⟨#[]⟩, .slice none 0 0]) (size := 2) (bytes := 40) (by kernel_rfl)
  exact ⟨i, _, h1, h2, h3, h4, rfl⟩⟩
theorem elRChg : Elem Try.prog 22 82 3 48 := ⟨by kernel_rfl, by omega, by
  obtain ⟨i, h1, h2, h3, h4⟩ := info_parts (P := Try.prog) (e := 82) (z := .agg #[.string ⟨#[]⟩, .bool false, .slice none 0 0]) (size := 3) (bytes := 48) (by kernel_rfl)
  exact ⟨i, _, h1, h2, h3, h4, rfl⟩⟩
end Go.Proofs.Ythfbfdkjgkkpcaa
