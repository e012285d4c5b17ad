/-
  A region that draws its order and whose operations keep a condition on the world: each that reads is taken in the order of the text; one whose guard does not hold is passed by. (After the library's own law on a held condition.)
  The walk of octet's ReadText.
  An Apply that has room and power.
  The table's Open where there is no file yet.
  The walk of the law's own first look: awake.
  The walk of the table's decode.
  The closures of the journal's lay.
  The walk of lay's write.
  The journal's steps, whatever the functions.
  The walk of the journal's lay.
  The walk of the journal's lay.
  The journal's Open of a file that is there.
  The table's Open of a file that is there.
  The walk of the journal's Rewrite.
  The walk of the table's Fold.
  Records come back from their frames, changes from their record: plain lists, no Go in sight.
  The document's journal: a record's frame, and Scan.
  The walk of the document's Do.
-/
import Derived.Test.YthfbfdkjgkkpcaaGreatPkA
import Derived.Test.YthfbfdkjgkkpcaaGreatPkB
import Derived.Laws.IdiomStrings
import Derived.Lib.SlBytesConst
namespace Go.Proofs.YthfbfdkjgkkpcaaGreat
open Go Go.RowKit

section
variable {P : Program} {ops : Array Oper} {Q : Exit → Act → World → Prop} {md : Region.Mode} {S : World → Prop}
abbrev opg (dst : Option Tmp) (op : Op) (ty : TypeId) (pos : String) (after : Array Edge) (g : Nat × Bool) : Oper := ⟨dst, op, ty, pos, after, some g⟩
theorem opg_of {i : Nat} {dst : Option Tmp} {op : Op} {g : Nat × Bool} (hi : (ops[i]?).map (fun o => (o.dst, o.op, o.guard)) = some (dst, op, some g)) : ∃ ty pos after, ops[i]? = some (opg dst op ty pos after g) := by
  obtain ⟨o, ho, he⟩ := Option.map_eq_some_iff.1 hi
  simp only [Prod.mk.injEq] at he
  obtain ⟨rfl, rfl, h3⟩ := he
  cases o
  simp only at h3
  subst h3
  exact ⟨_, _, _, ho⟩
theorem wpAnyH_takeO {i : Nat} {dst : Option Tmp} {op : Op} {v : Value} {fuel : Nat} {listed : Array Bool} {a : Act} {w : World} (hi : (ops[i]?).map (fun o => (o.dst, o.op, o.guard)) = some (dst, op, none))
    (hs : Region.noSelect ops = true) (hf : Region.free md ops listed i = true) (hr : (Region.ready md ops listed).contains i = true)
    (hQ : ∀ c a w, Q (.panic c) (a.put dst v) w → Q (.panic c) a w) (hy : ∀ ty pos after W, S W → (execOp a.eval (opr dst op ty pos after)).run P W = .ok (.value v) W) (hS : S w)
    (h : wpAnyH P md ops Q S fuel (listed.setIfInBounds i true) (a.put dst v) w) : wpAnyH P md ops Q S (fuel + 1) listed a w := by
  obtain ⟨ty, pos, after, ho⟩ := opr_of hi
  exact wpAnyH_take ho hs hf hr hQ (.inl ⟨rfl, fun W hW => hy ty pos after W hW⟩) hS h
theorem wpAnyH_takeG {i j : Nat} {b : Bool} {dst : Option Tmp} {op : Op} {v : Value} {fuel : Nat} {listed : Array Bool} {a : Act} {w : World} (hi : (ops[i]?).map (fun o => (o.dst, o.op, o.guard)) = some (dst, op, some (j, b)))
    (hs : Region.noSelect ops = true) (hf : Region.free md ops listed i = true) (hr : (Region.ready md ops listed).contains i = true) (hg : yielded ops a.tmps j = some b)
    (hQ : ∀ c a w, Q (.panic c) (a.put dst v) w → Q (.panic c) a w) (hy : ∀ ty pos after W, S W → (execOp a.eval (opg dst op ty pos after (j, b))).run P W = .ok (.value v) W) (hS : S w)
    (h : wpAnyH P md ops Q S fuel (listed.setIfInBounds i true) (a.put dst v) w) : wpAnyH P md ops Q S (fuel + 1) listed a w := by
  obtain ⟨ty, pos, after, ho⟩ := opg_of hi
  exact wpAnyH_take ho hs hf hr hQ (.inl ⟨by simp [Region.wanted, hg], fun W hW => hy ty pos after W hW⟩) hS h
theorem wpAnyH_takeU {i j : Nat} {b b' : Bool} {dst : Option Tmp} {op : Op} {fuel : Nat} {listed : Array Bool} {a : Act} {w : World} (hi : (ops[i]?).map (fun o => (o.dst, o.op, o.guard)) = some (dst, op, some (j, b)))
    (hs : Region.noSelect ops = true) (hf : Region.free md ops listed i = true) (hr : (Region.ready md ops listed).contains i = true) (hg : yielded ops a.tmps j = some b') (hb : (b' == b) = false)
    (hQ : ∀ c a w, Q (.panic c) (a.put dst undef) w → Q (.panic c) a w) (hS : S w)
    (h : wpAnyH P md ops Q S fuel (listed.setIfInBounds i true) (a.put dst undef) w) : wpAnyH P md ops Q S (fuel + 1) listed a w := by
  obtain ⟨ty, pos, after, ho⟩ := opg_of hi
  refine wpAnyH_take ho hs hf hr hQ (.inr ⟨?_, rfl⟩) hS h
  cases b <;> cases b' <;> simp_all [Region.wanted]
/-- The one operation that may come up now is a call, by its contract. -/
theorem wpAnyH_call {i : Nat} {dst : Option Tmp} {op : Op} {f : Nat} {vs : Array Value} {fuel : Nat} {listed : Array Bool} {a : Act} {w : World} (hr : Region.ready md ops listed = [i]) (hi : (ops[i]?).map (fun o => (o.dst, o.op, o.guard)) = some (dst, op, none))
    (hrun : ∀ ty pos after, (execOp a.eval (opr dst op ty pos after)).run P w = .ok (.enter f vs) w)
    (hc : Calls P f vs w fun e w' => ∃ v, e = .returned v ∧ S w' ∧ wpAnyH P md ops Q S fuel (listed.setIfInBounds i true) (a.put dst v) w') : wpAnyH P md ops Q S (fuel + 1) listed a w := by
  obtain ⟨ty, pos, after, ho⟩ := opr_of hi
  refine wpAnyH_all hr (by simp) (fun j hj => ?_)
  obtain rfl : j = i := by simpa using hj
  refine wpOp_step ho fun K hK => ?_
  rw [if_pos (show Region.wanted (opr dst op ty pos after) _ = true from rfl)]
  unfold Oper.wp
  rw [hrun ty pos after]
  refine hc.mono ?_
  rintro e w' ⟨v, rfl, h1, h2⟩
  exact hK _ _ ⟨h1, h2⟩
theorem wpAnyH_callG {i j : Nat} {b : Bool} {dst : Option Tmp} {op : Op} {f : Nat} {vs : Array Value} {fuel : Nat} {listed : Array Bool} {a : Act} {w : World} (hr : Region.ready md ops listed = [i]) (hi : (ops[i]?).map (fun o => (o.dst, o.op, o.guard)) = some (dst, op, some (j, b)))
    (hg : yielded ops a.tmps j = some b) (hrun : ∀ ty pos after, (execOp a.eval (opg dst op ty pos after (j, b))).run P w = .ok (.enter f vs) w)
    (hc : Calls P f vs w fun e w' => ∃ v, e = .returned v ∧ S w' ∧ wpAnyH P md ops Q S fuel (listed.setIfInBounds i true) (a.put dst v) w') : wpAnyH P md ops Q S (fuel + 1) listed a w := by
  obtain ⟨ty, pos, after, ho⟩ := opg_of hi
  refine wpAnyH_all hr (by simp) (fun j' hj => ?_)
  obtain rfl : j' = i := by simpa using hj
  refine wpOp_step ho fun K hK => ?_
  rw [if_pos (show Region.wanted (opg dst op ty pos after (j, b)) _ = true from by simp [Region.wanted, hg])]
  unfold Oper.wp
  rw [hrun ty pos after]
  refine hc.mono ?_
  rintro e w' ⟨v, rfl, h1, h2⟩
  exact hK _ _ ⟨h1, h2⟩
theorem wp_region_H {id : Nat} {a : Act} {w : World} (S : World → Prop) (hm : P.follows .mixedOrders = true)
    (h : wpAnyH P .any ops Q S ops.size (Array.replicate ops.size false) a w.drew) : (Code.region id ops true).wp P Q a w := wp_region_held hm h
end
end Go.Proofs.YthfbfdkjgkkpcaaGreat

namespace Go.Proofs.YthfbfdkjgkkpcaaGreat
open Go Go.RowKit

section
variable {P : Program} {ops : Array Oper} {Q : Exit → Act → World → Prop} {a : Act} {w : World} {rest : List Oper} {o : Oper}
/-- x[n : n + m : n + m] of bytes. -/
theorem wpl_cut3_by {T : Nat} (hE : Elem P T 5 1 1) (hw : Region.wanted o (yielded ops a.tmps) = true) {x lo hi mx : Operand} (ho : o.op = .slice T x (some lo) (some hi) (some mx))
    {v : Value} {l : List UInt8} (hp : By w v l) (hx : a.eval x = v) {k k' k3 : IntKind} {n m : Nat} {i h j : Int} (hlo : a.eval lo = .int k i) (hhi : a.eval hi = .int k' h) (hmx : a.eval mx = .int k3 j) (h0 : i = ((n : Nat) : Int)) (hh : h = ((n + m : Nat) : Int)) (hj : j = ((n + m : Nat) : Int)) (hle : n + m ≤ l.length)
    (hK : ∀ v', By w v' ((l.drop n).take m) → wpList P ops Q rest (a.put o.dst v') w) : wpList P ops Q (o :: rest) a w := by
  obtain ⟨q, hq⟩ : ∃ q, q = n + m := ⟨_, rfl⟩
  rw [← hq] at hh hj hle
  subst h0
  subst hh
  subst hj
  obtain ⟨ao, cap, rfl, hc⟩ := hp.shape
  have hr := run_cut hE hp n q q (by omega) hle (by omega) (by omega)
  have hqm : q - n = m := by omega
  rw [hqm] at hr
  refine wpl_run hw (w' := w) ?_ (hK _ (by_cut hr (by omega)))
  have b1 := run_bound (P := P) (k := k3) (q : Int) cap .slice3Acap w (by omega) (by omega)
  have b2 := run_bound (P := P) (k := k') (q : Int) q .slice3B w (by omega) (by omega)
  have b3 := run_bound (P := P) (k := k) (n : Int) q .slice3C w (by omega) (by omega)
  rw [Int.toNat_natCast] at b1 b2 b3
  simp [execOp, ho, hx, hlo, hhi, hmx, Instr.sliceAt, Instr.slice, run_underlying hE.und, Instr.sliceBounds, b1, b2, b3, sizeOf_run hE w, Result.andThen, hqm]
end
theorem rc_used : ∀ (l : List UInt8) (i n v u : Nat), readCountGo l i n = (v, u, 0) → i < u ∧ u ≤ i + l.length
  | [], i, n, v, u, h => by simp [readCountGo] at h
  | c :: r, i, n, v, u, h => by
    unfold readCountGo at h
    split at h
    · simp at h
    · split at h
      · split at h
        · simp at h
        · simp only [Prod.mk.injEq, and_true] at h
          simp only [List.length_cons]
          omega
      · have := rc_used r (i + 1) _ v u h
        simp only [List.length_cons]
        omega
/-- Bytes with their count ahead, read. -/
def readTextB (b : List UInt8) (most : Nat) : List UInt8 × Nat × Nat :=
  if (readCountB b).2.2 ≠ 0 then ([], 0, (readCountB b).2.2)
  else if most < (readCountB b).1 then ([], 0, 8)
  else if b.length - (readCountB b).2.1 < (readCountB b).1 then ([], 0, 9)
  else ((b.drop (readCountB b).2.1).take (readCountB b).1, (readCountB b).2.1 + (readCountB b).1, 0)
def RtPost (w : World) (r : List UInt8 × Nat × Nat) (e : Ending) (w' : World) : Prop := ∃ v, e = .returned (.tuple #[v, .int .i64 r.2.1, .int .i64 r.2.2]) ∧ OwnBy w' w.heap.size v r.1 ∧ Upd [] w w'
set_option maxRecDepth 100000 in
set_option maxHeartbeats 1000000 in
theorem octet_ReadText (w : World) (p : Value) (l : List UInt8) (hp : By w p l) (hl : l.length ≤ 1000000000) (most : Nat) (hm : most ≤ 262144) :
    Calls Tryz.prog 137 #[p, .int .i64 most] w (RtPost w (readTextB l most)) := by
  obtain ⟨ao, cap, rfl⟩ := By.val hp
  have hrc := octet_ReadCount w _ l hp hl
  have hu := rc_used l 0 0
  have hRT : readTextB l most = if (readCountB l).2.2 ≠ 0 then ([], 0, (readCountB l).2.2)
    else if most < (readCountB l).1 then ([], 0, 8)
    else if l.length - (readCountB l).2.1 < (readCountB l).1 then ([], 0, 9)
    else ((l.drop (readCountB l).2.1).take (readCountB l).1, (readCountB l).2.1 + (readCountB l).1, 0) := rfl
  change ∀ v u, readCountB l = (v, u, 0) → _ at hu
  generalize readCountB l = r at *
  obtain ⟨n, u, e⟩ := r
  dsimp only at hrc hRT
  have HRT := Lib.hid hRT
  clear hRT
  have m0 : decide ((most : Int) < 0) = false := by simp
  have HL := Lib.hid hl
  by_cases he : e ≠ 0
  · have h1 : ((e : Int) != 0) = true := by simpa using he
    have HR := Lib.hid (show readTextB l most = ([], 0, e) from by rw [HRT.out, if_pos he])
    clear he hl hu
    go_enter Tryz.func137, Tryz.ntmps137
    go_wp2_with (go_at_call 136; refine hrc.mono ?_; rintro e w1 ⟨rfl, rfl⟩)
    go_ret3
    rw [HR.out]
    exact ⟨_, rfl, World.ownsRow_nil _ _ _ _, Upd.refl _ _⟩
  have he : e = 0 := Classical.not_not.1 he
  subst he
  have hu2 := hu n u rfl
  by_cases hmn : most < n
  · have h1 : decide ((most : Int) < (n : Int)) = true := by simpa using hmn
    have HR := Lib.hid (show readTextB l most = ([], 0, 8) from by rw [HRT.out, if_neg (by simp), if_pos hmn])
    clear hl hu
    go_enter Tryz.func137, Tryz.ntmps137
    go_wp2_with (go_at_call 136; refine hrc.mono ?_; rintro e w1 ⟨rfl, rfl⟩)
    go_ret3
    rw [HR.out]
    exact ⟨_, rfl, World.ownsRow_nil _ _ _ _, Upd.refl _ _⟩
  have h1 : decide ((most : Int) < (n : Int)) = false := by simpa using hmn
  by_cases hln : l.length - u < n
  · have h2 : decide ((l.length : Int) - (u : Int) < (n : Int)) = true := by simp; omega
    have HR := Lib.hid (show readTextB l most = ([], 0, 9) from by rw [HRT.out, if_neg (by simp), if_neg hmn, if_pos hln])
    clear hl hu
    go_enter Tryz.func137, Tryz.ntmps137
    go_wp2_with (go_at_call 136; refine hrc.mono ?_; rintro e w1 ⟨rfl, rfl⟩)
    go_ret3
    rw [HR.out]
    exact ⟨_, rfl, World.ownsRow_nil _ _ _ _, Upd.refl _ _⟩
  have h2 : decide ((l.length : Int) - (u : Int) < (n : Int)) = false := by simp; omega
  have HR := Lib.hid (show readTextB l most = ((l.drop u).take n, u + n, 0) from by rw [HRT.out, if_neg (by simp), if_neg hmn, if_neg hln])
  have hun : u + n ≤ l.length := by omega
  have hlen : ((l.drop u).take n).length ≤ 1000000000 := by simp; omega
  have HLEN := Lib.hid hlen
  clear hu hln hlen
  go_enter Tryz.func137, Tryz.ntmps137
  go_wp2_with (first
    | (go_at_call 136; refine hrc.mono ?_; rintro e w1 ⟨rfl, rfl⟩)
    | (with_reducible show wpList _ _ _ (⟨_, .buildSlice _ _ _, _, _, _, _⟩ :: _) _ _; refine wpl_lit0 elU8 rfl rfl ?_; intro v2 w2 hv2 hU2 _; obtain ⟨ao2, cap2, hs2, _⟩ := (Rd.of_own hv2).shape; subst hs2)
    | ((with_reducible show wpList _ _ _ (⟨_, .slice _ _ _ _ _, _, _, _, _⟩ :: _) _ _); refine wpl_cut3_by (n := u) (m := n) elU8 rfl rfl (hp.upd0 hU2) rfl rfl rfl rfl (by omega) (by omega) (by omega) hun ?_; intro v3 hv3; obtain ⟨ao3, cap3, hs3⟩ := By.val hv3; subst hs3)
    | ((with_reducible show wpList _ _ _ (⟨_, .call ⟨.builtin .append, _, _⟩, _, _, _, _⟩ :: _) _ _); refine wpl_append_by (l := []) elU8 rfl rfl hU2 hv2 rfl hv3 rfl (by have := HLEN.out; rw [List.length_nil]; omega) ?_; intro v4 w4 hv4 _ hU4 _))
  go_ret3
  rw [HR.out]
  exact ⟨v4, by simp, by simpa using hv4, hU4⟩
end Go.Proofs.YthfbfdkjgkkpcaaGreat

namespace Go.Proofs.YthfbfdkjgkkpcaaGreat

/-- The power is on, and nothing cuts it; nothing is loose; the journal's file is there. -/
structure Fine (T : TSt) : Prop where
  up : T.down = false
  dup : T.J.D.down = false
  fuse : T.J.D.fuse = -1
  loose : T.J.D.loose = []
  nodup : (T.J.D.now.map (·.1)).Nodup
  file : (aget T.J.name T.J.D.now).isSome = true
theorem does_fine (D : DSt) (c : Chg) (h : D.fuse = -1) : D.does c = ({ D with fuse := -1, now := fdo D.now c, loose := D.loose ++ [c] }, 0) := by
  unfold DSt.does
  rw [if_neg (by omega), h]
  rfl
theorem sync_fine (D : DSt) (h1 : D.down = false) (h : D.fuse = -1) : D.sync = ({ D with fuse := -1, sure := D.now, loose := [] }, 0) := by
  unfold DSt.sync
  rw [if_neg (by simp [h1]), if_neg (by omega), h]
  rfl
theorem append_fine (J : JSt) (p : List UInt8) (h1 : J.D.down = false) (h2 : J.D.fuse = -1) (h3 : (aget J.name J.D.now).isSome = true) (h4 : p.length ≤ 1048568) (h5 : used J.D.now + (p.length + 8) ≤ J.D.room) :
    J.append p = (⟨{ J.D with fuse := -1, now := fdo J.D.now ⟨1, J.name, [], frameB p⟩, loose := J.D.loose ++ [⟨1, J.name, [], frameB p⟩] }, J.name, J.size + (8 + p.length)⟩, 0) := by
  have h6 : (aget J.name J.D.now).isNone = false := by
    cases hc : aget J.name J.D.now with
    | none => rw [hc] at h3; cases h3
    | some v => rfl
  have hl := frameB_length p
  have ha := DSt.append_full J.D J.name (frameB p) h1 h6 (by omega) (by omega)
  rw [does_fine _ _ h2] at ha
  unfold JSt.append
  rw [if_neg (by omega), ha]
  simp
/-- A journal behind a record that lasts. -/
def JSt.then (J : JSt) (p : List UInt8) : JSt :=
  ⟨⟨J.D.room, fdo J.D.now ⟨1, J.name, [], frameB p⟩, fdo J.D.now ⟨1, J.name, [], frameB p⟩, [], -1, J.D.down⟩, J.name, J.size + (8 + p.length)⟩
theorem apply_fine (T : TSt) (l : List TChg) (h : Fine T) (he : (encB l).2 = 0) (hr : used T.J.D.now + ((encB l).1.length + 8) ≤ T.J.D.room) :
    T.apply l = (⟨T.J.then (encB l).1, tdo T.m l, false⟩, 0) ∧ Fine ⟨T.J.then (encB l).1, tdo T.m l, false⟩ := by
  have ha := append_fine T.J (encB l).1 h.dup h.fuse h.file (encB_len l) hr
  have hs : (T.J.append (encB l).1).1.sync = (T.J.then (encB l).1, 0) := by
    rw [ha]
    have hy := sync_fine { T.J.D with fuse := -1, now := fdo T.J.D.now ⟨1, T.J.name, [], frameB (encB l).1⟩, loose := T.J.D.loose ++ [⟨1, T.J.name, [], frameB (encB l).1⟩] } h.dup rfl
    unfold JSt.sync
    simp only [hy]
    rfl
  have hg : ∀ v, aget T.J.name (fput T.J.name v T.J.D.now) = some v := fun v => by rw [aget_fput _ _ _ h.nodup, if_pos rfl]
  refine ⟨?_, ⟨rfl, h.dup, rfl, rfl, fdo_nodup h.nodup ⟨1, T.J.name, [], frameB (encB l).1⟩, ?_⟩⟩
  · unfold TSt.apply
    rw [if_neg (by simp [h.up]), if_neg (by simp [he]), if_neg (by rw [ha]; simp), if_neg (by rw [hs]; simp), hs]
  · show (aget T.J.name (fdo T.J.D.now ⟨1, T.J.name, [], frameB (encB l).1⟩)).isSome = true
    unfold fdo
    rw [if_neg (show ¬ (1 : Nat) = 0 from by decide), if_pos rfl, hg]
    rfl
theorem apply_bad (T : TSt) (l : List TChg) (h : T.down = false) (he : (encB l).2 ≠ 0) : T.apply l = (T, (encB l).2) := by
  unfold TSt.apply
  rw [if_neg (by simp [h]), if_pos he]
  have h5 := encB_err l
  rw [show decide ((encB l).2 = 5) = false from by simpa using h5, ← h]
end Go.Proofs.YthfbfdkjgkkpcaaGreat

namespace Go.Proofs.YthfbfdkjgkkpcaaGreat
open Go Go.RowKit

/-- A table in a file that was not there. -/
def TopenNewPost (w : World) (d : Nat) (S : List Nat) (D : DSt) (name : List UInt8) (e : Ending) (w' : World) : Prop :=
  if (D.openNew name).2 = 0 then
    ∃ tb S', e = .returned (.tuple #[.pointer (some ⟨tb, 0, none⟩), .int .i64 0]) ∧ w.heap.size ≤ tb ∧ TAt w' d tb S' ⟨⟨(D.openNew name).1, name, 0⟩, [], false⟩ ∧ Upd S w w' ∧ Sub w S S'
  else e = .returned (.tuple #[.pointer none, .int .i64 (D.openNew name).2]) ∧ ∃ S', DiskAt w' d S' (D.openNew name).1 ∧ Upd S w w' ∧ Sub w S S'

theorem table_open_new (w : World) (d : Nat) (S : List Nat) (D : DSt) (h : DiskAt w d S D) (name : List UInt8) (h1 : isName name = true) (h2 : isName (name ++ [43]) = true) (h3 : D.there name = 6) (hl : D.loose.length ≤ 999999999) (hnow : D.now.length ≤ 9223372036854775807) :
    Calls Tryz.prog 17 #[.pointer (some ⟨d, 0, none⟩), encS name] w (TopenNewPost w d S D name) := by
  have hj := journal_open_new w d S D h name h1 h2 h3 hl hnow
  have hmm : ∀ W : World, (Instr.makeMap 112 none).run Tryz.prog W = .ok (.map (some W.heap.size)) (W.alloc (.map #[] 0)) := fun _ => rfl
  have hlt := h.lt
  clear h h1 h2 h3 hl hnow
  unfold OpenNewPost at hj
  by_cases hk : (D.openNew name).2 = 0
  · simp only [if_pos hk] at hj
    have HK := Lib.hid hk
    clear hk
    go_enter Tryz.func17, Tryz.ntmps17
    go_wp2_with (go_at_call 12; refine hj.mono ?_; rintro e w1 ⟨jb, S', rfl, hjb, hJ, hU1, hS1⟩)
    refine wp_loop_rounds 1 ?_
    rw [rounds_succ]
    go_wp2_with fail
    go_ret2
    unfold TopenNewPost
    rw [if_pos HK.out]
    obtain ⟨S0, hSS, hD0, hj0⟩ := hJ.ex
    cases hSS
    have hz : w1.heap.size ∉ (jb :: S') := fun hm => by have := hJ.lt _ hm; omega
    have hU1m : Upd [] w1 (w1.alloc (.map #[] 0)) := Upd.alloc [] _ _
    have hm := MapB.new w1
    have hs2 : (w1.alloc (.map #[] 0)).heap.size = w1.heap.size + 1 := by simp
    have hU2 : Upd [] (w1.alloc (.map #[] 0)) ((w1.alloc (.map #[] 0)).alloc (.cells #[.pointer (some ⟨jb, 0, none⟩), .map (some w1.heap.size), .bool false] 146)) := Upd.alloc [] _ _
    have hb := heap_alloc_new (w1.alloc (.map #[] 0)) (.cells #[.pointer (some ⟨jb, 0, none⟩), .map (some w1.heap.size), .bool false] 146)
    rw [hs2] at hb
    have hsz := hU1.size
    refine ⟨w1.heap.size + 1, (w1.heap.size + 1) :: w1.heap.size :: jb :: S', rfl, by omega, ⟨jb, w1.heap.size, jb :: S', rfl, hz, (hJ.upd0 hU1m).upd0 hU2, hm.upd hU2 (Off.nil _ _) (by simp), hb⟩, ?_, ?_⟩
    · exact (hU1.then0 hU1m).then0 hU2
    · intro k hk
      simp only [List.mem_cons] at hk
      rcases hk with rfl | rfl | rfl | hk
      · right; omega
      · right; omega
      · right; exact hjb
      · rcases hS1 k hk with h | h
        · exact .inl h
        · exact .inr h
  · simp only [if_neg hk] at hj
    have h4 : (((D.openNew name).2 : Int) == 0) = false := by simp; omega
    have h5 : (((D.openNew name).2 : Int) = 0) = False := by simp; omega
    have HK := Lib.hid hk
    generalize hq : (D.openNew name).2 = q at *
    have HQ := Lib.hid hq
    clear hk hq
    go_enter Tryz.func17, Tryz.ntmps17
    go_wp2_with (go_at_call 12; refine hj.mono ?_; rintro e w1 ⟨rfl, S', hD1, hU1, hS1⟩)
    go_ret2
    unfold TopenNewPost
    rw [HQ.out, if_neg HK.out]
    exact ⟨rfl, S', hD1, hU1, hS1⟩
end Go.Proofs.YthfbfdkjgkkpcaaGreat

namespace Go.Proofs.YthfbfdkjgkkpcaaGreat
open Go Go.RowKit

theorem conv_back {w : World} {v : Value} {l : List UInt8} (h : By w v l) : (convert 36 9 v).run Tryz.prog w = .ok (encS l) w := by
  obtain ⟨_, _, ⟨rfl, h0⟩ | ⟨b, off, cap, cur, fz, rfl, h1, h2, h3, h4, h5⟩⟩ := h
  · have : l = [] := List.eq_nil_of_length_eq_zero h0
    subst this
    rw [run_convert_bytes_string (P := Tryz.prog) w 36 9 5 none 0 0 (by kernel_rfl) (by kernel_rfl) (by kernel_rfl)]
    rfl
  · refine run_convert_bytes_back (P := Tryz.prog) w 36 9 5 ⟨b, off, none⟩ cap l (by kernel_rfl) (by kernel_rfl) (by kernel_rfl) ?_
    intro j hj
    rw [Addr.add_lit, cell_lit w b (off + j) cur 5 fz h3]
    have : (l.map enc)[j]? = some (enc l[j]) := by simp [hj]
    rw [← h5] at this
    simpa [List.getElem?_take, hj, List.getElem?_drop] using this

theorem NewIn.sub {w a : World} {S S' : List Nat} (h : NewIn w S) (hs : Sub a S S') (hl : w.heap.size ≤ a.heap.size) : NewIn w S' := fun k hk => by
  rcases hs k hk with h1 | h1
  · exact h k h1
  · exact Nat.le_trans hl h1
/-- What turns none but blocks that are new since w. -/
theorem Upd.new {w a b : World} {S : List Nat} (h : Upd [] w a) (hn : NewIn w S) (k : Upd S a b) : Upd [] w b := h.trans k (fun i hi hlt => absurd (hn i hi) (by omega))
def D0 (room : Nat) : DSt := ⟨room, [], [], [], -1, false⟩
def D1 (room : Nat) (n : List UInt8) : DSt := ⟨room, [(n, [])], [(n, [])], [], -1, false⟩
theorem openNew_D0 (room : Nat) (n : List UInt8) (h : isName n = true) : (D0 room).openNew n = (D1 room n, 0) := by
  have hc : (D0 room).create n = ({ D0 room with fuse := -1, now := [(n, [])], loose := [⟨0, n, [], []⟩] }, 0) := by
    rw [DSt.create_full (D0 room) n rfl h rfl (by simp [D0]), does_fine (D0 room) _ rfl]
    rfl
  unfold DSt.openNew
  rw [hc]
  simp only [if_true]
  rw [sync_fine _ rfl rfl]
  rfl
/-- A table in a new file. -/
def T1 (room : Nat) (n : List UInt8) : TSt := ⟨⟨D1 room n, n, 0⟩, [], false⟩
theorem fine_T1 (room : Nat) (n : List UInt8) : Fine (T1 room n) := ⟨rfl, rfl, rfl, rfl, by simp [T1, D1], by simp [T1, D1, aget]⟩

/-- A new disk, and a new table on it. -/
def FirstPost (w : World) (d : Nat) (S : List Nat) (room : Nat) (n : List UInt8) (e : Ending) (w' : World) : Prop :=
  ∃ tb S', e = .returned (.tuple #[.pointer (some ⟨tb, 0, none⟩), .int .i64 0]) ∧ TAt w' d tb S' (T1 room n) ∧ Upd S w w' ∧ Sub w S S'
theorem table_open_first (w : World) (d : Nat) (S : List Nat) (room : Nat) (n : List UInt8) (h : DiskAt w d S (D0 room)) (h1 : isName n = true) (h2 : isName (n ++ [43]) = true) :
    Calls Tryz.prog 17 #[.pointer (some ⟨d, 0, none⟩), encS n] w (FirstPost w d S room n) := by
  refine (table_open_new w d S (D0 room) h n h1 h2 rfl (by simp [D0]) (by simp [D0])).mono ?_
  intro e w' hp
  unfold TopenNewPost at hp
  rw [openNew_D0 room n h1] at hp
  simp only [if_true] at hp
  obtain ⟨tb, S', he, _, hT, hU, hS⟩ := hp
  exact ⟨tb, S', he, hT, hU, hS⟩

def chA : List TChg := [⟨[97], false, [49]⟩, ⟨[98], false, []⟩]
theorem encB_chA : (encB chA).2 = 0 ∧ (encB chA).1.length ≤ 30 := by
  have h1 : countB 1 = [1] := countB_lt (by omega)
  have h2 : countB 2 = [2] := countB_lt (by omega)
  have h0 : countB 0 = [0] := countB_lt (by omega)
  simp [encB, chA, encGo, badChg, encStep, textB, h0, h1, h2]

set_option maxRecDepth 100000 in
set_option maxHeartbeats 1000000 in
theorem law11_awake (w : World) : Calls Tryz.prog 14 #[] w fun e w' => e = .returned (.bool true) ∧ Upd [] w w' := by
  have hnew := disk_new w 1000 (by omega)
  have hi1 : isName [116] = true := by decide
  have hi2 : isName ([116] ++ [43]) = true := by decide
  have hdo : tdo [] chA = [([97], [49]), ([98], [])] := by decide
  have HE := encB_chA
  have hfit := apply_fine (T1 1000 [116]) chA (fine_T1 _ _) HE.1 (by
    have := HE.2
    show used [([116], [])] + ((encB chA).1.length + 8) ≤ 1000
    simp [used]; omega)
  have HFIT := Lib.hid hfit
  clear hfit HE
  go_enter Tryz.func14, Tryz.ntmps14
  go_wp2_with fail
  refine hnew.mono ?_
  rintro e w1 ⟨d, S, rfl, hD1, hU1, hS1⟩
  go_wp2_with fail
  refine (table_open_first w1 d S 1000 [116] hD1 hi1 hi2).mono ?_
  rintro e w2 ⟨tb, S2, rfl, hT2, hU2, hS2⟩
  have hlit : (Instr.buildSlice 36 1 #[(0, .int .u8 49)]).run Tryz.prog w2 = .ok (.slice (some ⟨w2.heap.size, 0, none⟩) 1 1) (w2.alloc (.cells #[.int .u8 49] 5)) := run_lit elU8 (.int .u8 49) rfl (by omega)
  have hcv := Lib.run_convert_bytes_const (P := Tryz.prog) w2 36 5 #[.int .u8 49] 1 1 (by kernel_rfl) (by kernel_rfl)
  have hby : By (w2.alloc (.cells #[.int .u8 49] 5 (1, 2))) (.slice (some ⟨w2.heap.size, 0, none⟩) 1 1) [49] :=
    ⟨rfl, by decide, .inr ⟨w2.heap.size, 0, 1, #[.int .u8 49], (1, 2), rfl, by decide, by decide, heap_alloc_new _ _, by decide, rfl⟩⟩
  have hU3 : Upd [] w2 (w2.alloc (.cells #[.int .u8 49] 5 (1, 2))) := Upd.alloc [] _ _
  have hs3 : (w2.alloc (.cells #[.int .u8 49] 5 (1, 2))).heap.size = w2.heap.size + 1 := by simp
  have hcv' : (convert 36 36 (.slice (some ⟨w2.heap.size, 0, none⟩) 1 1)).run Tryz.prog (w2.alloc (.cells #[.int .u8 49] 5)) = .ok (.slice (some ⟨w2.heap.size, 0, none⟩) 1 1) (w2.alloc (.cells #[.int .u8 49] 5 (1, 2))) := hcv
  clear hcv
  generalize hw3 : w2.alloc (.cells #[.int .u8 49] 5 (1, 2)) = w3 at *
  have hcs : ∀ O : Obj, O = .cells #[encS [97], .bool false, .slice (some ⟨w2.heap.size, 0, none⟩) 1 1, encS [98], .bool false, .slice none 0 0] 60 → Chgs (w3.alloc O) (.slice (some ⟨w3.heap.size, 0, none⟩) 2 2) chA := by
    rintro O rfl
    exact ⟨_, Rd.new rfl (Nat.le_refl _) (by decide) rfl rfl, rfl, rfl, hby.upd0 (Upd.alloc [] _ _), rfl, rfl, Rd.nil _ _ _, trivial⟩
  have hcs' : Chgs (w3.alloc (.cells #[encS [97], .bool false, .slice (some ⟨w2.heap.size, 0, none⟩) 1 1, encS [98], .bool false, .slice none 0 0] 60)) (.slice (some ⟨w2.heap.size + 1, 0, none⟩) 2 2) chA := by have := hcs _ rfl; rwa [hs3] at this
  have hap := table_apply _ d tb S2 (T1 1000 [116]) ((hT2.upd0 hU3).upd0 (Upd.alloc [] _ (.cells #[encS [97], .bool false, .slice (some ⟨w2.heap.size, 0, none⟩) 1 1, encS [98], .bool false, .slice none 0 0] 60))) _ chA hcs' (by decide) (by decide) (by decide) (by decide)
  rw [HFIT.out.1] at hap
  clear hcs hcs'
  have hT9 : tdo (T1 1000 [116]).m chA = [([97], [49]), ([98], [])] := hdo
  rw [hT9] at hap
  generalize hT9' : (T1 1000 [116]).J.then (encB chA).1 = J9 at hap
  clear hT9 hT9' HFIT
  go_wp2_with fail
  refine hap.mono ?_
  rintro e w5 ⟨rfl, S5, hT5, hU5, hS5⟩
  have hget := table_get w5 d tb S5 _ hT5 [97] (by show ([49] : List UInt8).length ≤ 1073741824; decide)
  have hlen5 := table_len
  go_wp2_with fail
  refine hget.mono ?_
  rintro e w6 ⟨v6, rfl, hv6, hU6⟩
  have hv6' : By w6 v6 [49] := hv6.by
  obtain ⟨ao6, cap6, hs6⟩ := By.val hv6'
  subst hs6
  have hback : (convert 36 9 (.slice ao6 1 cap6)).run Tryz.prog w6 = .ok (encS [49]) w6 := conv_back hv6'
  have hsort : sortK [([97], [49]), ([98], [])] = [[97], [98]] := by unfold sortK; exact List.mergeSort_of_pairwise (by decide)
  have hT6 := hT5.upd0 hU6
  have hkeys := table_keys w6 d tb S5 _ hT6 [] [97] 9 (by intro p hp; simp at hp; rcases hp with rfl | rfl <;> decide) (by show 2 ≤ 1000000000; decide) (by decide) (by decide)
  rw [show keysGo [] [97] 9 [] (sortK (({ J := J9, m := [([97], [49]), ([98], [])], down := false } : TSt), 0).1.m) = [[98]] from by show keysGo [] [97] 9 [] (sortK [([97], [49]), ([98], [])]) = [[98]]; rw [hsort]; decide] at hkeys
  have hlen6 := fun (w7 : World) (hU : Upd [] w6 w7) => table_len w7 d tb S5 _ (hT6.upd0 hU)
  go_wp2_with fail
  refine hkeys.mono ?_
  rintro e w7 ⟨v7, rfl, hv7, hU7⟩
  obtain ⟨ao7, cap7, hs7, _⟩ := (Rd.of_own hv7).shape
  subst hs7
  have hl7 := hlen6 w7 hU7
  go_wp2_with fail
  refine hl7.mono ?_
  rintro e w8 ⟨rfl, rfl⟩
  go_wp2_with fail
  go_ret
  have hn2 := hS1.sub hS2 hU1.size
  have h2 := hU1.new hS1 hU2
  exact ⟨rfl, (((((h2.trans0 hU3).trans0 (Upd.alloc [] _ _)).new hn2 hU5).trans0 hU6).trans0 hU7)⟩
end Go.Proofs.YthfbfdkjgkkpcaaGreat

namespace Go.Proofs.YthfbfdkjgkkpcaaGreat
open Go Go.RowKit

section
variable {ops : Array Oper} {Q : Exit → Act → World → Prop} {a : Act} {w : World} {rest : List Oper} {o : Oper}
theorem wpl_append_chg (hw : Region.wanted o (yielded ops a.tmps) = true) {s x : Operand} (ho : o.op = .call { callee := .builtin .append, args := #[s, x], argTypes := #[56, 56] })
    {w0 : World} (hU : Upd [] w0 w) {v y pv : Value} {l : List TChg} {c : TChg} (hown : OwnChgs w w0.heap.size v l) (hs : a.eval s = v) (hR : Rd w 60 3 y 1 [encS c.key, .bool c.gone, pv]) (hx : a.eval x = y) (hpv : By w pv c.val) (hb : l.length + 1 ≤ 1000000001)
    (hK : ∀ v' w', OwnChgs w' w0.heap.size v' (l ++ [c]) → Upd [] w0 w' → wpList Tryz.prog ops Q rest (a.put o.dst v') w') : wpList Tryz.prog ops Q (o :: rest) a w := by
  obtain ⟨v', w', r1, r2, r3, r4⟩ := app_chg hU hown hR hpv hb o.type
  exact wpl_run hw (v := v') (w' := w') (by simp [execOp, ho, resolve, invoke, builtin, hs, hx, r1, Result.andThen]) (hK v' w' r2 r4)
end
def decGo : Nat → List UInt8 → List TChg → Option (List TChg × List UInt8)
  | 0, b, out => some (out, b)
  | _ + 1, [], _ => none
  | n + 1, g :: r, out =>
    if 1 < g.toNat then none
    else if (readTextB r 320).2.2 ≠ 0 ∨ (readTextB r 320).1 = [] then none
    else if g.toNat = 0 then decGo n (r.drop (readTextB r 320).2.1) (out ++ [⟨(readTextB r 320).1, true, []⟩])
    else if (readTextB (r.drop (readTextB r 320).2.1) 262144).2.2 ≠ 0 then none
    else decGo n ((r.drop (readTextB r 320).2.1).drop (readTextB (r.drop (readTextB r 320).2.1) 262144).2.1) (out ++ [⟨(readTextB r 320).1, false, (readTextB (r.drop (readTextB r 320).2.1) 262144).1⟩])
/-- The changes of a record. -/
def decB (b : List UInt8) : Option (List TChg) :=
  if 1048568 < b.length then none
  else if (readCountB b).2.2 ≠ 0 ∨ 256 < (readCountB b).1 then none
  else match decGo (readCountB b).1 (b.drop (readCountB b).2.1) [] with
    | some (l, []) => some l
    | _ => none
def DecPost (w : World) (r : Option (List TChg)) (e : Ending) (w' : World) : Prop :=
  ∃ v, e = .returned (.tuple #[v, .bool r.isSome]) ∧ (∀ l, r = some l → OwnChgs w' w.heap.size v l) ∧ Upd [] w w'
theorem decPost_none {w w' : World} {v : Value} (h : Upd [] w w') : DecPost w none (.returned (.tuple #[v, .bool false])) w' := ⟨v, rfl, fun l hl => (by cases hl), h⟩
def DecRel (w : World) (n : Nat) (b0 : List UInt8) (x bv v : Value) (wr : World) : Prop :=
  ∃ (i : Nat) (rest : List UInt8) (out : List TChg), x = .int .u64 i ∧ i ≤ n ∧ By w bv rest ∧ rest.length ≤ 1000000000 ∧ OwnChgs wr w.heap.size v out ∧ out.length = i ∧ decGo n b0 [] = decGo (n - i) rest out ∧ Upd [] w wr
theorem ex_back {a : Act} {x : Operand} {l : List UInt8} {v : Value} {W : World} (h : By W v l) (hx : a.eval x = v) {dst : Option Tmp} : ∀ ty pos after, (execOp a.eval (opr dst (.convert 36 9 x) ty pos after)).run Tryz.prog W = .ok (.value (encS l)) W := fun ty pos after => by
  simp [execOp, hx, conv_back h, Result.andThen]
/-- x[j:], as an equation that holds in whatever world. -/
theorem cut_from {T : Nat} {P : Program} (hE : Elem P T 5 1 1) {W : World} {v : Value} {l : List UInt8} (hp : By W v l) (j : Nat) (hj : j ≤ l.length) :
    ∃ v', By W v' (l.drop j) ∧ ∀ (a : Act) (x lo : Operand) (k : IntKind) (i : Int) (o : Oper), o.op = .slice T x (some lo) none none → a.eval x = v → a.eval lo = .int k i → i = (j : Int) → ∀ W', (execOp a.eval o).run P W' = .ok (.value v') W' := by
  obtain ⟨ao, cap, rfl, hc⟩ := hp.shape
  have hr := run_cut hE hp j l.length cap hj (Nat.le_refl _) (by omega) (Nat.le_refl _)
  refine ⟨.slice (if cap = j then ao else ao.map (·.add (j * 1))) (l.length - j) (cap - j), ?_, ?_⟩
  rotate_left
  · intro a x lo k i o ho hx hlo hi W'
    subst hi
    have b2 := run_bound (P := P) (k := k) (j : Int) l.length .sliceB W' (by omega) (by omega)
    rw [Int.toNat_natCast] at b2
    simp [execOp, ho, hx, hlo, Instr.sliceAt, Instr.slice, run_underlying hE.und, Instr.sliceBounds, b2, sizeOf_run hE W', Result.andThen]
  · have e0 : ((l.map enc).drop (j * 1)).take ((l.length - j) * 1) = (l.drop j).map enc := by
      rw [List.map_drop, Nat.mul_one, Nat.mul_one]
      apply List.take_of_length_le
      simp
    rw [e0] at hr
    unfold By
    rw [List.length_drop]
    simpa using hr
section
variable {P : Program} {ops : Array Oper} {Q : Exit → Act → World → Prop} {a : Act} {w : World} {rest : List Oper} {o : Oper}
/-- x[n:] of bytes that were there long ago. -/
theorem wpl_from_old {T : Nat} (hE : Elem P T 5 1 1) (hw : Region.wanted o (yielded ops a.tmps) = true) {x lo : Operand} (ho : o.op = .slice T x (some lo) none none)
    {w0 : World} {v : Value} {l : List UInt8} (hp : By w0 v l) (hx : a.eval x = v) {k : IntKind} {n : Nat} {i : Int} (hlo : a.eval lo = .int k i) (h0 : i = ((n : Nat) : Int)) (hle : n ≤ l.length)
    (hK : ∀ v', By w0 v' (l.drop n) → wpList P ops Q rest (a.put o.dst v') w) : wpList P ops Q (o :: rest) a w := by
  obtain ⟨v', hv', hrun⟩ := cut_from hE hp n hle
  exact wpl_run hw (v := v') (w' := w) (hrun a x lo k i o ho hx hlo h0 w) (hK v' hv')
end
section
variable {P : Program}
theorem run_store_str {w : World} {T : Nat} (hT : (P.info? T).map (·.size) = some 1) {ad : Addr} {old : Value} (hc : w.cell? ad = some old) (hf : w.frozen? ad = false) (s : ByteArray) :
    (storeVar T ad (.string s)).run P w = .ok () (w.setCell ad (.string s)) := by
  obtain ⟨i, hi, hs⟩ := Option.map_eq_some_iff.1 hT
  have h0 : ad.add 0 = ad := by simp [Addr.add]
  have hst : (store ad (.string s)).run P w = .ok () (w.setCell ad (.string s)) := by
    simp [store, Sem.run, hc, hf]
  simp [storeVar, sizeOf, typeInfo, hi, hs, Value.cells, storeCells, h0, hst, Result.andThen]
theorem ex_store' {a : Act} {w w' : World} {x y : Operand} {T : Nat} {ad : Addr} {v : Value} (hr : (storeVar T ad v).run P w = .ok () w') (hx : a.eval x = .pointer (some ad)) (hy : a.eval y = v) {dst : Option Tmp} :
    ∀ ty pos after, (execOp a.eval (opr dst (.store T x y) ty pos after)).run P w = .ok .skip w' := fun ty pos after => by
  simp [execOp, hx, hy, Instr.storeAt, Instr.sureAddr, hr, Result.andThen]
end
theorem rt_used {b : List UInt8} {most : Nat} (h : (readTextB b most).2.2 = 0) : (readTextB b most).2.1 ≤ b.length ∧ (readTextB b most).1.length ≤ most := by
  unfold readTextB at h ⊢
  by_cases h1 : (readCountB b).2.2 ≠ 0
  · rw [if_pos h1] at h; exact absurd h h1
  rw [if_neg h1] at h ⊢
  by_cases h2 : most < (readCountB b).1
  · rw [if_pos h2] at h; simp at h
  rw [if_neg h2] at h ⊢
  by_cases h3 : b.length - (readCountB b).2.1 < (readCountB b).1
  · rw [if_pos h3] at h; simp at h
  rw [if_neg h3] at h ⊢
  have h4 : (readCountB b).2.2 = 0 := Classical.not_not.1 h1
  have := rc_used b 0 0 (readCountB b).1 (readCountB b).2.1 (by show readCountB b = _; rw [← h4])
  constructor
  · show (readCountB b).2.1 + (readCountB b).1 ≤ b.length
    omega
  · show ((b.drop (readCountB b).2.1).take (readCountB b).1).length ≤ most
    rw [List.length_take]; omega

theorem OwnChgs.upd_away {S : List Nat} {w w' : World} {B : Nat} {v : Value} {l : List TChg} (h : OwnChgs w B v l) (hU : Upd S w w') (h8 : Off w 5 S) (hA : ∀ k ∈ S, k ∉ v.ownBlock.toList) : OwnChgs w' B v l := by
  obtain ⟨cells, h1, h2⟩ := h
  exact ⟨cells, Own.upd h1 hU (fun g hg hm => hA g hm (by rw [hg]; simp)), h2.upd hU h8⟩
theorem Chgs.shape {w : World} {v : Value} {l : List TChg} (h : Chgs w v l) : ∃ ao cap, v = .slice ao l.length cap := by
  obtain ⟨cells, h1, _⟩ := h
  obtain ⟨ao, cap, h2, _⟩ := h1.shape
  exact ⟨ao, cap, h2⟩
set_option maxRecDepth 100000 in
set_option maxHeartbeats 4000000 in
theorem table_decode (w : World) (p : Value) (l : List UInt8) (hp : By w p l) (hl : l.length ≤ 1000000000) :
    Calls Tryz.prog 75 #[p] w (DecPost w (decB l)) := by
  obtain ⟨ao, cap, rfl⟩ := By.val hp
  have hrc := octet_ReadCount w _ l hp hl
  have hu := rc_used l 0 0
  have hD : decB l = if 1048568 < l.length then none
    else if (readCountB l).2.2 ≠ 0 ∨ 256 < (readCountB l).1 then none
    else match decGo (readCountB l).1 (l.drop (readCountB l).2.1) [] with
      | some (l, []) => some l
      | _ => none := rfl
  change ∀ v u, readCountB l = (v, u, 0) → _ at hu
  generalize readCountB l = r at *
  obtain ⟨n, u, e⟩ := r
  dsimp only at hrc hD
  by_cases hlen : 1048568 < l.length
  · have h1 : decide ((1048568 : Int) < (l.length : Int)) = true := by simp; omega
    have HR := Lib.hid (show decB l = none from by rw [hD, if_pos hlen])
    clear hlen hD hu
    go_enter Tryz.func75, Tryz.ntmps75
    go_wp2_with fail
    go_ret2
    rw [HR.out]
    exact decPost_none (Upd.refl _ _)
  have h1 : decide ((1048568 : Int) < (l.length : Int)) = false := by simp; omega
  rw [if_neg hlen] at hD
  by_cases he : e ≠ 0
  · have h2 : ((e : Int) != 0) = true := by simpa using he
    have HR := Lib.hid (show decB l = none from by rw [hD, if_pos (Or.inl he)])
    clear hlen hD hu he
    go_enter Tryz.func75, Tryz.ntmps75
    go_wp2_with (go_at_call 136; refine hrc.mono ?_; rintro e w1 ⟨rfl, rfl⟩)
    go_ret2
    rw [HR.out]
    exact decPost_none (Upd.refl _ _)
  have he : e = 0 := Classical.not_not.1 he
  subst he
  by_cases hn : 256 < n
  · have h2 : decide ((256 : Int) < (n : Int)) = true := by simp; omega
    have HR := Lib.hid (show decB l = none from by rw [hD, if_pos (Or.inr hn)])
    clear hlen hD hu hn
    go_enter Tryz.func75, Tryz.ntmps75
    go_wp2_with (go_at_call 136; refine hrc.mono ?_; rintro e w1 ⟨rfl, rfl⟩)
    go_ret2
    rw [HR.out]
    exact decPost_none (Upd.refl _ _)
  have h2 : decide ((256 : Int) < (n : Int)) = false := by simp; omega
  rw [if_neg (by simp; omega)] at hD
  have hul := (hu n u rfl).2
  have hbl : (l.drop u).length ≤ 1000000000 := by simp; omega
  have hq : ∃ b0 : List UInt8, b0 = l.drop u ∧ b0.length ≤ 1000000000 := ⟨_, rfl, hbl⟩
  obtain ⟨b0, hb0, hb0l⟩ := hq
  rw [← hb0] at hD
  have HB0 := Lib.hid hb0.symm
  have HD := Lib.hid hD
  clear hD hu hbl hb0
  go_enter Tryz.func75, Tryz.ntmps75
  go_wp2_with (first
    | (go_at_call 136; refine hrc.mono ?_; rintro e w1 ⟨rfl, rfl⟩)
    | ((with_reducible show wpList _ _ _ (⟨_, .slice _ _ _ _ _, _, _, _, _⟩ :: _) _ _); refine wpl_from_old (n := u) elU8 rfl rfl hp rfl rfl rfl (by omega) ?_; intro v1 hb1; rw [HB0.out] at hb1; obtain ⟨ao1, cap1, hs1⟩ := By.val hb1; subst hs1))
  go_loopw [31, 0, 7] (fun x bv v wr => DecRel w n b0 x bv v wr) (fun x _ _ _ => n - (intOf x).toNat)
  case atStart => exact ⟨0, b0, [], rfl, Nat.zero_le _, hb1, hb0l, ⟨[], World.ownsRow_nil _ _ _ _, trivial⟩, rfl, rfl, Upd.refl _ _⟩
  case round =>
    obtain ⟨i, rest, out, rfl, hi, hbw, hrl, hown, hol, hdg, hU⟩ := hrel
    obtain ⟨ar, cr, hsr⟩ := By.val hbw
    subst hsr
    have hbr := hbw.upd0 hU
    by_cases hlt : i < n
    · have htt : decide ((i : Int) < (n : Int)) = true := by simp; omega
      obtain ⟨k, hk⟩ : ∃ k, n - i = k + 1 := ⟨n - i - 1, by omega⟩
      rw [hk] at hdg
      rcases (show rest = [] ∨ ∃ g r, rest = g :: r from by cases rest with | nil => exact .inl rfl | cons g r => exact .inr ⟨g, r, rfl⟩) with hrest | ⟨g, r, hrest⟩
      · have HR := Lib.hid (show decB l = none from by rw [HD.out, hdg, hrest]; rfl)
        have hl0 : rest.length = 0 := by rw [hrest]; rfl
        clear hdg hown hrest
        go_wp2_with fail
        go_ret2
        rw [HR.out]
        exact decPost_none hU
      · have hgu : (rest.map enc)[(0 : Int).toNat]? = some (enc g) := by rw [hrest]; rfl
        have hg256 := g.toNat_lt
        have hpos : 0 < rest.length := by rw [hrest]; simp
        have hne0 : ((rest.length : Int) == 0) = false := by rw [beq_eq_false_iff_ne]; omega
        have HD1 := Lib.hid (show rest.drop 1 = r from by rw [hrest]; rfl)
        rw [hrest] at hdg
        have h9 : rest.length = r.length + 1 := by rw [hrest]; rfl
        have hrr : r.length ≤ 1000000000 := by omega
        clear h9
        clear hrest
        by_cases hg1 : 1 < g.toNat
        · have b1 : decide ((1 : Int) < (g.toNat : Int)) = true := by simp; omega
          have HR := Lib.hid (show decB l = none from by rw [HD.out, hdg, decGo, if_pos hg1])
          clear hdg hown hg1
          go_wp2_with ((with_reducible show wpList _ _ _ (⟨_, .indexAddr _ _ _, _, _, _, _⟩ :: _) _ _); refine wpl_indexAddr1 elU8 rfl rfl hbr rfl rfl (by omega) (by omega) _ hgu ?_; intro ad hcell)
          go_ret2
          rw [HR.out]
          exact decPost_none hU
        · have b1 : decide ((1 : Int) < (g.toNat : Int)) = false := by simp; omega
          rw [decGo, if_neg hg1] at hdg
          have hkt := fun (W : World) (v : Value) (h : By W v r) => octet_ReadText W v r h hrr 320 (by omega)
          have hku := @rt_used r 320
          obtain ⟨key, ku, ke, hk3⟩ : ∃ key ku ke, readTextB r 320 = (key, ku, ke) := ⟨_, _, _, rfl⟩
          rw [hk3] at hdg hkt hku
          dsimp only at hdg hku
          have HDG := Lib.hid hdg
          have hUa : Upd [] wr (wr.alloc (Obj.cells #[encS [], .bool ((g.toNat : Int) == 0), Value.slice none 0 0] 60)) := Upd.alloc [] _ _
          have hba := heap_alloc_new wr (Obj.cells #[encS [], .bool ((g.toNat : Int) == 0), Value.slice none 0 0] 60)
          clear hdg hg1 hk3
          by_cases hke : ke ≠ 0
          · have c1 : ((ke : Int) != 0) = true := by simpa using hke
            have HR := Lib.hid (show decB l = none from by rw [HD.out, HDG.out, if_pos (Or.inl hke)])
            clear hown hke
            go_wp2_with (first
              | ((with_reducible show wpList _ _ _ (⟨_, .indexAddr _ _ _, _, _, _, _⟩ :: _) _ _); refine wpl_indexAddr1 elU8 rfl rfl hbr rfl rfl (by omega) (by omega) _ hgu ?_; intro ad hcell)
              | ((with_reducible show wpList _ _ _ (⟨_, .slice _ _ _ _ _, _, _, _, _⟩ :: _) _ _); refine wpl_from_by (n := 1) elU8 rfl rfl (hbr.upd0 hUa) rfl rfl rfl (by omega) ?_; intro v1 hb1 _; rw [HD1.out] at hb1)
              | (go_at_call 137; refine (hkt _ v1 hb1).mono ?_; rintro e w2 ⟨v2, rfl, hv2, hU2⟩; (have hv2' : By w2 v2 key := hv2.by); obtain ⟨ao2, cap2, hs2⟩ := By.val hv2'; subst hs2))
            go_ret2
            rw [HR.out]
            exact decPost_none ((hU.trans0 hUa).trans0 hU2)
          have hke : ke = 0 := Classical.not_not.1 hke
          subst hke
          have hku2 := hku rfl
          clear hku
          have HKL := Lib.hid hku2.2
          by_cases hkey : key = []
          · have c1 : ((key.length : Int) == 0) = true := by rw [hkey]; rfl
            have HR := Lib.hid (show decB l = none from by rw [HD.out, HDG.out, if_pos (Or.inr hkey)])
            have hk0 : key.length = 0 := by rw [hkey]; rfl
            clear hown hkey
            go_wp2_with (first
              | ((with_reducible show wpList _ _ _ (⟨_, .indexAddr _ _ _, _, _, _, _⟩ :: _) _ _); refine wpl_indexAddr1 elU8 rfl rfl hbr rfl rfl (by omega) (by omega) _ hgu ?_; intro ad hcell)
              | ((with_reducible show wpList _ _ _ (⟨_, .slice _ _ _ _ _, _, _, _, _⟩ :: _) _ _); refine wpl_from_by (n := 1) elU8 rfl rfl (hbr.upd0 hUa) rfl rfl rfl (by omega) ?_; intro v1 hb1 _; rw [HD1.out] at hb1)
              | (go_at_call 137; refine (hkt _ v1 hb1).mono ?_; rintro e w2 ⟨v2, rfl, hv2, hU2⟩; (have hv2' : By w2 v2 key := hv2.by); obtain ⟨ao2, cap2, hs2⟩ := By.val hv2'; subst hs2))
            go_ret2
            rw [HR.out]
            exact decPost_none ((hU.trans0 hUa).trans0 hU2)
          have hkp : 0 < key.length := by cases key with | nil => exact absurd rfl hkey | cons a b => simp
          have c1 : ((key.length : Int) == 0) = false := by rw [beq_eq_false_iff_ne]; omega
          have hdg2 := HDG.out
          rw [if_neg (by simp [hkey])] at hdg2
          have HG2 := Lib.hid hdg2
          have hr2 : ku + 1 ≤ rest.length := by have := congrArg List.length HD1.out; simp at this; omega
          clear hdg2 hkey
          go_wp2_with (first
            | ((with_reducible show wpList _ _ _ (⟨_, .indexAddr _ _ _, _, _, _, _⟩ :: _) _ _); refine wpl_indexAddr1 elU8 rfl rfl hbr rfl rfl (by omega) (by omega) _ hgu ?_; intro ad hcell)
            | ((with_reducible show wpList _ _ _ (⟨_, .slice _ _ _ _ _, _, _, _, _⟩ :: _) _ _); refine wpl_from_by (n := 1) elU8 rfl rfl (hbr.upd0 hUa) rfl rfl rfl (by omega) ?_; intro v1 hb1 _; rw [HD1.out] at hb1)
            | (go_at_call 137; refine (hkt _ v1 hb1).mono ?_; rintro e w2 ⟨v2, rfl, hv2, hU2⟩; (have hv2' : By w2 v2 key := hv2.by); obtain ⟨ao2, cap2, hs2⟩ := By.val hv2'; subst hs2))
          have hb2 := hU2.get hba (by simp)
          have e65 : IntKind.i64.wrap (1 + (ku : Int)) = ((ku + 1 : Nat) : Int) := by simp [IntKind.wrap, IntKind.signed, IntKind.bits]; omega
          obtain ⟨v5, hv5, hrun5⟩ := cut_from (P := Tryz.prog) elU8 hbw (ku + 1) hr2
          have hS0 : By w2.drew (.slice ao2 key.length cap2) key := hv2'.upd0 (Upd.drew [] _)
          refine wp_region_noPanic ?_
          refine wp_region_M 8 (fun W => By W (.slice ao2 key.length cap2) key) (by kernel_rfl) ?_
          (refine wpAnyM_takeO (i := 0) (dst := (some 61)) (op := (Go.Op.move (Go.Operand.tmp 9))) (v := ?_) (by rfl) (by kernel_rfl) (by kernel_rfl) (by kernel_rfl) (by kernel_rfl) (by rfl) (fun _ _ _ h => h) ?_ hS0 ?_; rotate_left; (focus (intro _ _ _ W HW; (try dsimp only at HW); go_simp; (try with_reducible rfl))); (try simp only [Act.put, List.setIfInBounds_toArray, List.set_cons_zero, List.set_cons_succ]))
          refine wpAnyM_takeO (i := 1) (dst := (some 62)) (op := (Go.Op.convert 36 9 (Go.Operand.tmp 61))) (v := encS key) (by rfl) (by kernel_rfl) (by kernel_rfl) (by kernel_rfl) (by kernel_rfl) (by rfl) (fun _ _ _ h => h) (fun ty pos after W HW => ex_back HW (by rfl) ty pos after) hS0 ?_
          (try simp only [Act.put, List.setIfInBounds_toArray, List.set_cons_zero, List.set_cons_succ])
          (refine wpAnyM_takeO (i := 2) (dst := (some 63)) (op := (Go.Op.move (Go.Operand.tmp 0))) (v := ?_) (by rfl) (by kernel_rfl) (by kernel_rfl) (by kernel_rfl) (by kernel_rfl) (by rfl) (fun _ _ _ h => h) ?_ hS0 ?_; rotate_left; (focus (intro _ _ _ W HW; (try dsimp only at HW); go_simp; (try with_reducible rfl))); (try simp only [Act.put, List.setIfInBounds_toArray, List.set_cons_zero, List.set_cons_succ]))
          (refine wpAnyM_takeO (i := 3) (dst := (some 64)) (op := (Go.Op.move (Go.Operand.tmp 10))) (v := ?_) (by rfl) (by kernel_rfl) (by kernel_rfl) (by kernel_rfl) (by kernel_rfl) (by rfl) (fun _ _ _ h => h) ?_ hS0 ?_; rotate_left; (focus (intro _ _ _ W HW; (try dsimp only at HW); go_simp; (try with_reducible rfl))); (try simp only [Act.put, List.setIfInBounds_toArray, List.set_cons_zero, List.set_cons_succ]))
          (refine wpAnyM_takeO (i := 4) (dst := (some 65)) (op := (Go.Op.binOp Go.BinOp.add 3 (Go.Operand.const (Go.Value.int Go.IntKind.i64 1)) (Go.Operand.tmp 64) 3)) (v := ?_) (by rfl) (by kernel_rfl) (by kernel_rfl) (by kernel_rfl) (by kernel_rfl) (by rfl) (fun _ _ _ h => h) ?_ hS0 ?_; rotate_left; (focus (intro _ _ _ W HW; (try dsimp only at HW); go_simp; (try with_reducible rfl))); (try simp only [Act.put, List.setIfInBounds_toArray, List.set_cons_zero, List.set_cons_succ]))
          refine wpAnyM_takeO (i := 5) (dst := (some 66)) (op := (Go.Op.slice 36 (Go.Operand.tmp 63) (some (Go.Operand.tmp 65)) none none)) (v := v5) (by rfl) (by kernel_rfl) (by kernel_rfl) (by kernel_rfl) (by kernel_rfl) (by rfl) (fun _ _ _ h => h) (fun ty pos after W HW => hrun5 _ _ _ .i64 ((ku : Int) + 1) _ rfl (by rfl) (by rfl) (by omega) W) hS0 ?_
          (try simp only [Act.put, List.setIfInBounds_toArray, List.set_cons_zero, List.set_cons_succ])
          (refine wpAnyM_takeO (i := 6) (dst := (some 67)) (op := (Go.Op.fieldAddr 60 (Go.Operand.tmp 8) 0)) (v := ?_) (by rfl) (by kernel_rfl) (by kernel_rfl) (by kernel_rfl) (by kernel_rfl) (by rfl) (fun _ _ _ h => h) ?_ hS0 ?_; rotate_left; (focus (intro _ _ _ W HW; (try dsimp only at HW); go_simp; (try with_reducible rfl))); (try simp only [Act.put, List.setIfInBounds_toArray, List.set_cons_zero, List.set_cons_succ]))
          have hlk9 : out.length + 1 ≤ 1000000001 := by omega
          have hD1 : wr.heap.size < w2.heap.size := lt_of_get hb2
          have hc20 : w2.drew.cell? ⟨wr.heap.size, 0, none⟩ = some (encS []) := by rw [cell_lit w2.drew _ 0 _ _ _ hb2]; rfl
          have hf20 : w2.drew.frozen? ⟨wr.heap.size, 0, none⟩ = false := frozen_lit w2.drew _ 0 _ _ hb2
          obtain ⟨w3, hw3⟩ : ∃ w3, w3 = w2.drew.setCell ⟨wr.heap.size, 0, none⟩ (encS key) := ⟨_, rfl⟩
          have hUs : Upd [wr.heap.size] w2.drew w3 := by rw [hw3]; exact Upd.setCell _ _ _ (by simp)
          have hoff : Off w2.drew 5 [wr.heap.size] := Off.cons_cells hb2 (by decide) (Off.nil _ _)
          have hS3 : By w3 (.slice ao2 key.length cap2) key := hS0.upd hUs hoff
          have hb3 : w3.heap[wr.heap.size]? = some (Obj.cells #[encS key, .bool ((g.toNat : Int) == 0), Value.slice none 0 0] 60) := by rw [hw3, setCell_get (show w2.drew.heap[wr.heap.size]? = some _ from hb2)]; rfl
          have hU3 : Upd [] wr w3 := ((hUa.trans0 hU2).trans0 (Upd.drew [] _)).trans hUs (fun i hi hlt => by simp at hi; omega)
          have hrs : (storeVar 9 ⟨wr.heap.size, 0, none⟩ (encS key)).run Tryz.prog w2.drew = .ok () w3 := by
            rw [hw3]
            exact run_store_str (by kernel_rfl) hc20 hf20 _
          refine wpAnyM_skip (i := 7) (dst := none) (op := (Go.Op.store 9 (Go.Operand.tmp 67) (Go.Operand.tmp 62))) (by rfl) (by kernel_rfl) (ex_store' hrs (by rfl) (by rfl)) (.inr hS3) ?_
          (try simp only [Act.put, List.setIfInBounds_toArray, List.set_cons_zero, List.set_cons_succ])
          (refine wpAnyM_val (i := 8) (dst := (some 0)) (op := (Go.Op.assign (Go.Operand.tmp 66))) (by rfl) (by kernel_rfl) (fun _ _ _ => by go_simp; rfl) (.inr hS3) ?_; (try simp only [Act.put, List.setIfInBounds_toArray, List.set_cons_zero, List.set_cons_succ]))
          refine wpAnyM_done (by kernel_rfl) ?_ _
          refine NoPanic.normal ?_
          have hv5r : By w v5 (r.drop ku) := by
            rwa [show rest.drop (ku + 1) = r.drop ku from by rw [← HD1.out, List.drop_drop, Nat.add_comm]] at hv5
          have hown3 : OwnChgs w3 w.heap.size u7 out := hown.upd0 hU3
          have hU03 := hU.trans0 hU3
          have HNM := Lib.hid (hown.not_mem (k := wr.heap.size) (.inl (Nat.le_refl _)))
          have hrk : (r.drop ku).length ≤ 1000000000 := by simp; omega
          have hHU := Lib.hid hU03
          clear hw3 hrs hS0 hc20 hf20 hrun5 hUs hoff hv5 hkt hown hb2 hba hv2 hv2' hU2 hUa
          by_cases hg0 : g.toNat = 0
          · have g0 : ((g.toNat : Int) == 0) = true := by simp; omega
            rw [g0] at hb3
            have c30 : w3.cell? ⟨wr.heap.size, 0, none⟩ = some (encS key) := by rw [cell_lit w3 _ 0 _ _ _ hb3]; rfl
            have c31 : w3.cell? ⟨wr.heap.size, 1, none⟩ = some (.bool true) := by rw [cell_lit w3 _ 1 _ _ _ hb3]; rfl
            have c32 : w3.cell? ⟨wr.heap.size, 2, none⟩ = some (.slice none 0 0) := by rw [cell_lit w3 _ 2 _ _ _ hb3]; rfl
            have hg2 := HG2.out
            rw [if_pos hg0] at hg2
            have HREL := Lib.hid (fun (v7 : Value) (w7 : World) (hv7 : OwnChgs w7 w.heap.size v7 (out ++ [⟨key, true, []⟩])) (hU07 : Upd [] w w7) => show DecRel w n b0 (.int .u64 ((i : Int) + 1)) v5 v7 w7 from
              ⟨i + 1, r.drop ku, out ++ [⟨key, true, []⟩], by simp, hlt, hv5r, hrk, hv7, by simp [hol], by rw [hg2, show n - (i + 1) = k from by omega], hU07⟩)
            have HLK := Lib.hid hlk9
            have hnm3 : wr.heap.size ∉ u7.ownBlock.toList := HNM.out
            have hkl3 := HKL.out
            clear hg2 hb3 hU3 hS3 hlk9
            go_wp2_with (first
              | ((with_reducible show wpList _ _ _ (⟨_, .buildSlice _ _ _, _, _, _, _⟩ :: _) _ _); refine wpl_lit elTChg rfl rfl rfl (cs := [encS key, .bool true, .slice none 0 0]) rfl rfl (by omega) ?_; intro v6 w6 hv6 hU6 _)
              | ((with_reducible show wpList _ _ _ (⟨_, .call ⟨.builtin .append, _, _⟩, _, _, _, _⟩ :: _) _ _); refine wpl_append_chg (c := ⟨key, true, []⟩) rfl rfl (hHU.out.trans0 hU6) (hown3.upd0 hU6) rfl (Rd.of_own hv6) rfl (Rd.nil _ _ _) HLK.out ?_; intro v7 w7 hv7 hU7))
            exact ⟨HREL.out v7 w7 hv7 hU7, by simp [intOf]; omega⟩
          · have g0 : ((g.toNat : Int) == 0) = false := by rw [beq_eq_false_iff_ne]; omega
            rw [g0] at hb3
            have c31 : w3.cell? ⟨wr.heap.size, 1, none⟩ = some (.bool false) := by rw [cell_lit w3 _ 1 _ _ _ hb3]; rfl
            have hg2 := HG2.out
            rw [if_neg hg0] at hg2
            have hkt2 := octet_ReadText w3 v5 (r.drop ku) (hv5r.upd0 hHU.out) hrk 262144 (Nat.le_refl _)
            have hku3 := @rt_used (r.drop ku) 262144
            obtain ⟨val, vu, ve, hv3⟩ : ∃ val vu ve, readTextB (r.drop ku) 262144 = (val, vu, ve) := ⟨_, _, _, rfl⟩
            rw [hv3] at hg2 hkt2 hku3
            dsimp only at hg2 hku3
            have HG3 := Lib.hid hg2
            have HLK := Lib.hid hlk9
            have hnm3 : wr.heap.size ∉ u7.ownBlock.toList := HNM.out
            have hkl3 := HKL.out
            have hUnew : ∀ w4 : World, Upd [] w3 w4 → ∀ v : Value, Upd [] w (w4.setCell ⟨wr.heap.size, 2, none⟩ v) := fun w4 h4 v => (hHU.out.trans0 h4).trans (Upd.setCell (S := [wr.heap.size]) _ _ _ (by simp)) (fun i hi hlt => by simp at hi; have := hU.size; omega)
            have HUN := Lib.hid hUnew
            have H8 := Lib.hid (fun (w4 : World) (h4 : w4.heap[wr.heap.size]? = some (Obj.cells #[encS key, .bool false, Value.slice none 0 0] 60)) (v : Value) =>
              show (w4.setCell ⟨wr.heap.size, 2, none⟩ v).heap[wr.heap.size]? = some (Obj.cells #[encS key, .bool false, v] 60) ∧ Upd [wr.heap.size] w4 (w4.setCell ⟨wr.heap.size, 2, none⟩ v) ∧ Off w4 5 [wr.heap.size] from ⟨by rw [setCell_get h4]; rfl, Upd.setCell _ _ _ (by simp), Off.cons_cells h4 (by decide) (Off.nil _ _)⟩)
            clear hg2 hU3 hS3 hlk9 hv3 hUnew
            by_cases hve : ve ≠ 0
            · have c2 : ((ve : Int) != 0) = true := by simpa using hve
              have HR := Lib.hid (show decB l = none from by rw [HD.out, HG3.out, if_pos hve])
              clear hve
              go_wp2_with (go_at_call 137; refine hkt2.mono ?_; rintro e w4 ⟨v4, rfl, hv4, hU4⟩; (have hv4' : By w4 v4 val := hv4.by); obtain ⟨ao4, cap4, hs4⟩ := By.val hv4'; subst hs4; (have b4 := hU4.get hb3 (by simp)); (have c42 : w4.cell? ⟨wr.heap.size, 2, none⟩ = some (.slice none 0 0) := by rw [cell_lit w4 _ 2 _ _ _ b4]; rfl); (have f42 := frozen_lit w4 wr.heap.size 2 _ _ b4))
              go_ret2
              rw [HR.out]
              exact decPost_none (HUN.out w4 hU4 _)
            have hve : ve = 0 := Classical.not_not.1 hve
            subst hve
            have hku4 := (hku3 rfl).1
            have HVL := Lib.hid (hku3 rfl).2
            clear hku3
            have hg4 := HG3.out
            rw [if_neg (by simp)] at hg4
            have hvk : ((r.drop ku).drop vu).length ≤ 1000000000 := by simp; omega
            have HREL := Lib.hid (fun (v6 v7 : Value) (w7 : World) (h6 : By w v6 ((r.drop ku).drop vu)) (hv7 : OwnChgs w7 w.heap.size v7 (out ++ [⟨key, false, val⟩])) (hU07 : Upd [] w w7) => show DecRel w n b0 (.int .u64 ((i : Int) + 1)) v6 v7 w7 from
              ⟨i + 1, (r.drop ku).drop vu, out ++ [⟨key, false, val⟩], by simp, hlt, h6, hvk, hv7, by simp [hol], by rw [hg4, show n - (i + 1) = k from by omega], hU07⟩)
            have H9 := Lib.hid (fun (w4 : World) (h4 : Upd [] w3 w4) (hb4 : w4.heap[wr.heap.size]? = some (Obj.cells #[encS key, .bool false, Value.slice none 0 0] 60)) (v : Value) (h : OwnChgs w3 w.heap.size u7 out) => show OwnChgs (w4.setCell ⟨wr.heap.size, 2, none⟩ v) w.heap.size u7 out from
              (h.upd0 h4).upd_away (Upd.setCell (S := [wr.heap.size]) _ _ _ (by simp)) (Off.cons_cells hb4 (by decide) (Off.nil _ _)) (by intro k hk; simp at hk; subst hk; exact hnm3))
            clear hg4 hvk
            go_wp2_with (first
              | (go_at_call 137; refine hkt2.mono ?_; rintro e w4 ⟨v4, rfl, hv4, hU4⟩; (have hv4' : By w4 v4 val := hv4.by); obtain ⟨ao4, cap4, hs4⟩ := By.val hv4'; subst hs4; (have b4 := hU4.get hb3 (by simp)); (have c42 : w4.cell? ⟨wr.heap.size, 2, none⟩ = some (.slice none 0 0) := by rw [cell_lit w4 _ 2 _ _ _ b4]; rfl); (have f42 := frozen_lit w4 wr.heap.size 2 _ _ b4); (have h8 := H8.out w4 b4 (.slice ao4 val.length cap4)); (have q0 := cell_lit _ wr.heap.size 0 _ _ _ h8.1); (have q1 := cell_lit _ wr.heap.size 1 _ _ _ h8.1); (have q2 := cell_lit _ wr.heap.size 2 _ _ _ h8.1); (have hv4s := hv4'.upd h8.2.1 h8.2.2); (have hUs := HUN.out w4 hU4 (.slice ao4 val.length cap4)); (have hos := H9.out w4 hU4 b4 (.slice ao4 val.length cap4) hown3))
              | ((with_reducible show wpList _ _ _ (⟨_, .slice _ _ _ _ _, _, _, _, _⟩ :: _) _ _); refine wpl_from_old (n := vu) elU8 rfl rfl hv5r rfl rfl rfl hku4 ?_; intro v6 hb6)
              | ((with_reducible show wpList _ _ _ (⟨_, .buildSlice _ _ _, _, _, _, _⟩ :: _) _ _); refine wpl_lit elTChg rfl rfl rfl (cs := [encS key, .bool false, .slice ao4 val.length cap4]) rfl rfl (by omega) ?_; intro v9 w9 hv9 hU9 _)
              | ((with_reducible show wpList _ _ _ (⟨_, .call ⟨.builtin .append, _, _⟩, _, _, _, _⟩ :: _) _ _); refine wpl_append_chg (c := ⟨key, false, val⟩) rfl rfl (hUs.trans0 hU9) (hos.upd0 hU9) rfl (Rd.of_own hv9) rfl (hv4s.upd0 hU9) HLK.out ?_; intro v7 w7 hv7 hU7))
            exact ⟨HREL.out v6 v7 w7 hb6 hv7 hU7, by simp [intOf]; omega⟩
    · have htt : decide ((i : Int) < (n : Int)) = false := by simp; omega
      have hie : n - i = 0 := by omega
      rw [hie] at hdg
      obtain ⟨ao7, cap7, hs7⟩ := hown.chgs.shape
      subst hs7
      cases rest with
      | nil =>
        have HR := Lib.hid (show decB l = some out from by rw [HD.out, hdg]; rfl)
        have HO := Lib.hid hown
        clear hdg hown
        go_wp2_with fail
        go_ret2
        rw [HR.out]
        exact ⟨.slice ao7 out.length cap7, by simp, (fun l' h => by cases h; exact HO.out), hU⟩
      | cons g r =>
        have HR := Lib.hid (show decB l = none from by rw [HD.out, hdg]; rfl)
        have hne0 : (((g :: r).length : Int) == 0) = false := by simp; omega
        clear hdg hown
        go_wp2_with fail
        go_ret2
        rw [HR.out]
        exact ⟨.slice ao7 out.length cap7, (by simp; omega), (fun l' h => by cases h), hU⟩
end Go.Proofs.YthfbfdkjgkkpcaaGreat

namespace Go.Proofs.YthfbfdkjgkkpcaaGreat
open Go Go.RowKit

/-- Cells that none of the disk's blocks holds. -/
def Caps (w : World) (S : List Nat) (l : List (Nat × Value)) : Prop := ∀ p ∈ l, w.cell? ⟨p.1, 0, none⟩ = some p.2 ∧ p.1 ∉ S
theorem Caps.step {w w' : World} {S S' : List Nat} {l : List (Nat × Value)} (h : Caps w S l) (hU : Upd S w w') (hs : Sub w S S') : Caps w' S' l := by
  intro p hp
  obtain ⟨h1, h2⟩ := h p hp
  exact ⟨hU.cell h1 h2, hs.not_mem (World.block_lt_of_cell? w _ h1) h2⟩
/-- A file that was left behind is taken away. -/
def DSt.clear (D : DSt) (tmp : List UInt8) : DSt × Nat := if (D.remove tmp).2 = 6 then ((D.remove tmp).1, 0) else D.remove tmp
theorem lay_clear (w : World) (d : Nat) (S : List Nat) (D : DSt) (h : DiskAt w d S D) (hl : D.loose.length ≤ 1000000000) (a b : Nat) (tmp : List UInt8) (ha : w.cell? ⟨a, 0, none⟩ = some (.pointer (some ⟨d, 0, none⟩))) (hb : w.cell? ⟨b, 0, none⟩ = some (encS tmp)) :
    Calls Tryz.prog 128 #[.pointer (some ⟨a, 0, none⟩), .pointer (some ⟨b, 0, none⟩)] w (DPost w d S (D.clear tmp)) := by
  have hr := disk_remove w d S D h tmp hl
  have hF : D.clear tmp = if (D.remove tmp).2 = 6 then ((D.remove tmp).1, 0) else D.remove tmp := rfl
  clear h hl
  generalize D.remove tmp = r at *
  obtain ⟨D1, k⟩ := r
  dsimp only at hF
  by_cases hk : k = 6
  · subst hk
    rw [if_pos rfl] at hF
    rw [hF]
    clear hF
    go_enter Tryz.func128, Tryz.ntmps128
    go_wp2_with (go_at_call 89; refine hr.mono ?_; rintro e w1 ⟨rfl, hp⟩)
    go_ret
    exact ⟨rfl, hp⟩
  · rw [if_neg hk] at hF
    rw [hF]
    have h1 : ((k : Int) != 6) = true := by simp; omega
    clear hF hk
    go_enter Tryz.func128, Tryz.ntmps128
    go_wp2_with (go_at_call 89; refine hr.mono ?_; rintro e w1 ⟨rfl, hp⟩)
    go_ret
    exact ⟨rfl, hp⟩
theorem lay_create (w : World) (d : Nat) (S : List Nat) (D : DSt) (h : DiskAt w d S D) (hl : D.loose.length ≤ 1000000000) (hnow : D.now.length ≤ 9223372036854775807) (a b : Nat) (tmp : List UInt8) (hn : tmp.length ≤ 1000000) (ha : w.cell? ⟨a, 0, none⟩ = some (.pointer (some ⟨d, 0, none⟩))) (hb : w.cell? ⟨b, 0, none⟩ = some (encS tmp)) :
    Calls Tryz.prog 129 #[.pointer (some ⟨a, 0, none⟩), .pointer (some ⟨b, 0, none⟩)] w (DPost w d S (D.create tmp)) := by
  have hc := disk_create w d S D h tmp (by omega) hl hnow
  generalize D.create tmp = r at hc ⊢
  clear h hl hnow hn
  go_enter Tryz.func129, Tryz.ntmps129
  go_wp2_with (go_at_call 58; refine hc.mono ?_; rintro e w1 ⟨rfl, hp⟩)
  go_ret
  exact ⟨rfl, hp⟩
theorem lay_rename (w : World) (d : Nat) (S : List Nat) (D : DSt) (h : DiskAt w d S D) (hl : D.loose.length ≤ 1000000000) (a b c : Nat) (tmp name : List UInt8) (hn : name.length ≤ 1000000) (ha : w.cell? ⟨a, 0, none⟩ = some (.pointer (some ⟨d, 0, none⟩))) (hb : w.cell? ⟨b, 0, none⟩ = some (encS tmp)) (hc : w.cell? ⟨c, 0, none⟩ = some (encS name)) :
    Calls Tryz.prog 130 #[.pointer (some ⟨a, 0, none⟩), .pointer (some ⟨b, 0, none⟩), .pointer (some ⟨c, 0, none⟩)] w (DPost w d S (D.rename tmp name)) := by
  have hr := disk_rename w d S D h tmp name (by omega) hl
  generalize D.rename tmp name = r at hr ⊢
  clear h hl hn
  go_enter Tryz.func130, Tryz.ntmps130
  go_wp2_with (go_at_call 90; refine hr.mono ?_; rintro e w1 ⟨rfl, hp⟩)
  go_ret
  exact ⟨rfl, hp⟩

/-- Bytes are added to a file, a record's worth at a time. -/
def DSt.write (D : DSt) (name : List UInt8) (b : List UInt8) : DSt × Nat :=
  if b.length = 0 then (D, 0)
  else if (D.append name (b.take 1048576)).2 ≠ 0 then D.append name (b.take 1048576)
  else (D.append name (b.take 1048576)).1.write name (b.drop 1048576)
termination_by b.length
decreasing_by simp; omega
theorem DSt.write_nil (D : DSt) (name b : List UInt8) (h : b.length = 0) : D.write name b = (D, 0) := by rw [DSt.write, if_pos h]
theorem DSt.write_cons (D : DSt) (name b : List UInt8) (h : b.length ≠ 0) : D.write name b = if (D.append name (b.take 1048576)).2 ≠ 0 then D.append name (b.take 1048576) else (D.append name (b.take 1048576)).1.write name (b.drop 1048576) := by rw [DSt.write, if_neg h]
theorem append_loose' (D : DSt) (n q : List UInt8) : (D.append n q).1.loose.length ≤ D.loose.length + 1 := by
  unfold DSt.append
  repeat' split
  all_goals first | (simp; done) | exact does_loose _ _
def WrRel (w : World) (d : Nat) (S : List Nat) (D : DSt) (name b : List UInt8) (l : List (Nat × Value)) (bv : Value) (x : Value) (wr : World) : Prop :=
  ∃ (i : Nat) (D1 : DSt) (S1 : List Nat), x = .int .i64 (i * 1048576 : Nat) ∧ (i = 0 ∨ (i - 1) * 1048576 < b.length) ∧ DiskAt wr d S1 D1 ∧ Upd S w wr ∧ Sub w S S1 ∧ Caps wr S1 l ∧ By wr bv b ∧ D1.loose.length ≤ D.loose.length + i ∧ D.write name b = D1.write name (b.drop (i * 1048576))
theorem ex_min {P : Program} {a : Act} {w : World} {x y : Operand} {T U : Nat} {i j : Int} (m : Int) (hx : a.eval x = .int .i64 i) (hy : a.eval y = .int .i64 j) (hm : m = min i j) {dst : Option Tmp} :
    ∀ ty pos after, (execOp a.eval (opr dst (.call { callee := .builtin .min, args := #[x, y], argTypes := #[T, U] }) ty pos after)).run P w = .ok (.value (.int .i64 m)) w := fun ty pos after => by
  have h : m = if i ≤ j then i else j := by rw [hm]; split <;> omega
  by_cases hij : i ≤ j
  · rw [if_pos hij] at h
    subst h
    simp [execOp, resolve, invoke, builtin, hx, hy, Builtin.min_, Builtin.min2, Result.andThen, hij]
    try omega
  · rw [if_neg hij] at h
    subst h
    simp [execOp, resolve, invoke, builtin, hx, hy, Builtin.min_, Builtin.min2, Result.andThen, hij]
    try omega
/-- x[n : n + m], as an equation that holds in whatever world. -/
theorem cut_mid {T : Nat} {P : Program} (hE : Elem P T 5 1 1) {W : World} {v : Value} {l : List UInt8} (hp : By W v l) (n m : Nat) (hj : n + m ≤ l.length) :
    ∃ v', By W v' ((l.drop n).take m) ∧ ∀ (a : Act) (x lo hi : Operand) (k k' : IntKind) (i h : Int) (o : Oper), o.op = .slice T x (some lo) (some hi) none → a.eval x = v → a.eval lo = .int k i → a.eval hi = .int k' h → i = (n : Int) → h = ((n + m : Nat) : Int) → ∀ W', (execOp a.eval o).run P W' = .ok (.value v') W' := by
  obtain ⟨q, hq⟩ : ∃ q, q = n + m := ⟨_, rfl⟩
  rw [← hq] at hj
  obtain ⟨ao, cap, rfl, hc⟩ := hp.shape
  have hr := run_cut hE hp n q cap (by omega) hj (by omega) (Nat.le_refl _)
  have hqm : q - n = m := by omega
  rw [hqm] at hr
  refine ⟨.slice (if cap = n then ao else ao.map (·.add (n * 1))) m (cap - n), by_cut hr (by omega), ?_⟩
  intro a x lo hi k k' i h o ho hx hlo hhi h1 h2 W'
  rw [← hq] at h2
  subst h1
  subst h2
  have b1 := run_bound (P := P) (k := k') (q : Int) cap .sliceAcap W' (by omega) (by omega)
  have b2 := run_bound (P := P) (k := k) (n : Int) q .sliceB W' (by omega) (by omega)
  rw [Int.toNat_natCast] at b1 b2
  simp [execOp, ho, hx, hlo, hhi, Instr.sliceAt, Instr.slice, run_underlying hE.und, Instr.sliceBounds, b1, b2, sizeOf_run hE W', Result.andThen, hqm]
end Go.Proofs.YthfbfdkjgkkpcaaGreat

namespace Go.Proofs.YthfbfdkjgkkpcaaGreat
open Go Go.RowKit

theorem wrap_i64 (x : Int) (h0 : 0 ≤ x) (h1 : x ≤ 4000000000000) : IntKind.i64.wrap x = x := by
  simp [IntKind.wrap, IntKind.signed, IntKind.bits]
  omega
theorem take_piece (l : List UInt8) (o q : Nat) (h : q = min (o + 1048576) l.length) (ho : o ≤ l.length) : (l.drop o).take (q - o) = (l.drop o).take 1048576 := by
  by_cases hc : o + 1048576 ≤ l.length
  · rw [show q - o = 1048576 from by omega]
  · rw [List.take_of_length_le (by simp; omega), List.take_of_length_le (by simp; omega)]
set_option maxRecDepth 100000 in
set_option maxHeartbeats 2000000 in
theorem lay_write (w : World) (d : Nat) (S : List Nat) (D : DSt) (h : DiskAt w d S D) (hl : D.loose.length ≤ 999999000) (ab aa ac : Nat) (bv : Value) (b tmp : List UInt8) (hb : By w bv b) (hbl : b.length ≤ 100000000)
    (hcap : Caps w S [(ab, bv), (aa, .pointer (some ⟨d, 0, none⟩)), (ac, encS tmp)]) :
    Calls Tryz.prog 127 #[.pointer (some ⟨ab, 0, none⟩), .pointer (some ⟨aa, 0, none⟩), .pointer (some ⟨ac, 0, none⟩)] w (DPost w d S (D.write tmp b)) := by
  obtain ⟨bo, bcap, rfl⟩ := By.val hb
  have HBL := Lib.hid hbl; have HLO := Lib.hid hl
  have H := Lib.hid h; have HCAP := Lib.hid hcap; have HB := Lib.hid hb
  clear hbl hl h hcap hb
  go_enter Tryz.func127, Tryz.ntmps127
  go_wp2_with fail
  go_loopw [4] (fun x wr => WrRel w d S D tmp b [(ab, .slice bo b.length bcap), (aa, .pointer (some ⟨d, 0, none⟩)), (ac, encS tmp)] (.slice bo b.length bcap) x wr) (fun x _ => b.length + 1048576 - (intOf x).toNat)
  case atStart => exact ⟨0, D, S, rfl, .inl rfl, H.out, Upd.refl _ _, Sub.refl _ _, HCAP.out, HB.out, by omega, by simp⟩
  case round =>
    obtain ⟨i, D1, S1, rfl, hi, hD, hU, hS, hcp, hby, hlo, hw⟩ := hrel
    have hll := HBL.out
    obtain ⟨o, ho⟩ : ∃ o, o = i * 1048576 := ⟨_, rfl⟩
    have hob : o < b.length + 1048576 := by omega
    have k0 := (hcp (ab, .slice bo b.length bcap) (by simp)).1
    have k1 := (hcp (aa, .pointer (some ⟨d, 0, none⟩)) (by simp)).1
    have k2 := (hcp (ac, encS tmp) (by simp)).1
    dsimp only at k0 k1 k2
    have hi96 : i ≤ 1000 := by omega
    have HO := Lib.hid ho
    rw [← ho] at hw ⊢
    have HW := Lib.hid hw
    clear ho hi hw
    by_cases hlt : o < b.length
    · have htt : decide ((o : Int) < (b.length : Int)) = true := by simp; omega
      obtain ⟨q, hq⟩ : ∃ q, q = min (o + 1048576) b.length := ⟨_, rfl⟩
      have hqo : o + (q - o) ≤ b.length := by omega
      have hqI : (q : Int) = min ((o : Int) + 1048576) (b.length : Int) := by omega
      have hpc := take_piece b o q hq (by omega)
      obtain ⟨pv, hpv, hrun⟩ := cut_mid (P := Tryz.prog) elU8 (hby.upd0 (Upd.drew [] wr)) o (q - o) hqo
      rw [hpc] at hpv
      have hoq : o + (q - o) = q := by omega
      rw [hoq] at hrun
      have hap := disk_append wr.drew d S1 D1 (hD.upd0 (Upd.drew [] wr)) tmp ((b.drop o).take 1048576) pv hpv (by simp; omega) (by have := HLO.out; omega)
      have hwc : D1.write tmp (b.drop o) = if (D1.append tmp ((b.drop o).take 1048576)).2 ≠ 0 then D1.append tmp ((b.drop o).take 1048576) else (D1.append tmp ((b.drop o).take 1048576)).1.write tmp (b.drop (o + 1048576)) := by
        rw [DSt.write_cons _ _ _ (by simp; omega), List.drop_drop]
      have hal := append_loose' D1 tmp ((b.drop o).take 1048576)
      have HWC := Lib.hid (HW.out.trans hwc)
      have HQI := Lib.hid hqI
      have hS0 : wr.drew.cell? ⟨ab, 0, none⟩ = some (.slice bo b.length bcap) ∧ wr.drew.cell? ⟨aa, 0, none⟩ = some (.pointer (some ⟨d, 0, none⟩)) ∧ wr.drew.cell? ⟨ac, 0, none⟩ = some (encS tmp) := ⟨k0, k1, k2⟩
      have hUd := hU.then0 (Upd.drew [] wr)
      have hcpd : Caps wr.drew S1 _ := hcp.step ((Upd.drew [] wr).mono (T := S1) (by simp)) (Sub.refl _ _)
      have e17 : IntKind.i64.wrap ((o : Int) + 1048576) = (o : Int) + 1048576 := wrap_i64 _ (by omega) (by omega)
      generalize hr : D1.append tmp ((b.drop o).take 1048576) = r at *
      obtain ⟨D2, k⟩ := r
      clear hq hqI hpc hpv hwc hr hoq
      go_wp2_with fail
      refine wp_region_H (fun W => W.cell? ⟨ab, 0, none⟩ = some (.slice bo b.length bcap) ∧ W.cell? ⟨aa, 0, none⟩ = some (.pointer (some ⟨d, 0, none⟩)) ∧ W.cell? ⟨ac, 0, none⟩ = some (encS tmp)) (by kernel_rfl) ?_
      (refine wpAnyH_takeO (i := 0) (dst := (some 12)) (op := (Go.Op.load 23 (Go.Operand.tmp 1))) (v := ?_) (by rfl) (by kernel_rfl) (by kernel_rfl) (by kernel_rfl) (fun _ _ _ h => h) ?_ hS0 ?_; rotate_left; (focus (intro _ _ _ W HW; (try dsimp only at HW); go_simp; (try with_reducible rfl))); (try simp only [Act.put, List.setIfInBounds_toArray, List.set_cons_zero, List.set_cons_succ]))
      (refine wpAnyH_takeO (i := 1) (dst := (some 13)) (op := (Go.Op.load 9 (Go.Operand.tmp 2))) (v := ?_) (by rfl) (by kernel_rfl) (by kernel_rfl) (by kernel_rfl) (fun _ _ _ h => h) ?_ hS0 ?_; rotate_left; (focus (intro _ _ _ W HW; (try dsimp only at HW); go_simp; (try with_reducible rfl))); (try simp only [Act.put, List.setIfInBounds_toArray, List.set_cons_zero, List.set_cons_succ]))
      (refine wpAnyH_takeO (i := 2) (dst := (some 14)) (op := (Go.Op.load 36 (Go.Operand.tmp 0))) (v := ?_) (by rfl) (by kernel_rfl) (by kernel_rfl) (by kernel_rfl) (fun _ _ _ h => h) ?_ hS0 ?_; rotate_left; (focus (intro _ _ _ W HW; (try dsimp only at HW); go_simp; (try with_reducible rfl))); (try simp only [Act.put, List.setIfInBounds_toArray, List.set_cons_zero, List.set_cons_succ]))
      (refine wpAnyH_takeO (i := 3) (dst := (some 15)) (op := (Go.Op.move (Go.Operand.tmp 4))) (v := ?_) (by rfl) (by kernel_rfl) (by kernel_rfl) (by kernel_rfl) (fun _ _ _ h => h) ?_ hS0 ?_; rotate_left; (focus (intro _ _ _ W HW; (try dsimp only at HW); go_simp; (try with_reducible rfl))); (try simp only [Act.put, List.setIfInBounds_toArray, List.set_cons_zero, List.set_cons_succ]))
      (refine wpAnyH_takeO (i := 4) (dst := (some 16)) (op := (Go.Op.move (Go.Operand.tmp 4))) (v := ?_) (by rfl) (by kernel_rfl) (by kernel_rfl) (by kernel_rfl) (fun _ _ _ h => h) ?_ hS0 ?_; rotate_left; (focus (intro _ _ _ W HW; (try dsimp only at HW); go_simp; (try with_reducible rfl))); (try simp only [Act.put, List.setIfInBounds_toArray, List.set_cons_zero, List.set_cons_succ]))
      (refine wpAnyH_takeO (i := 5) (dst := (some 17)) (op := (Go.Op.binOp Go.BinOp.add 3 (Go.Operand.tmp 16) (Go.Operand.const (Go.Value.int Go.IntKind.i64 1048576)) 3)) (v := ?_) (by rfl) (by kernel_rfl) (by kernel_rfl) (by kernel_rfl) (fun _ _ _ h => h) ?_ hS0 ?_; rotate_left; (focus (intro _ _ _ W HW; (try dsimp only at HW); go_simp; (try with_reducible rfl))); (try simp only [Act.put, List.setIfInBounds_toArray, List.set_cons_zero, List.set_cons_succ]))
      (refine wpAnyH_takeO (i := 6) (dst := (some 18)) (op := (Go.Op.load 36 (Go.Operand.tmp 0))) (v := ?_) (by rfl) (by kernel_rfl) (by kernel_rfl) (by kernel_rfl) (fun _ _ _ h => h) ?_ hS0 ?_; rotate_left; (focus (intro _ _ _ W HW; (try dsimp only at HW); go_simp; (try with_reducible rfl))); (try simp only [Act.put, List.setIfInBounds_toArray, List.set_cons_zero, List.set_cons_succ]))
      (refine wpAnyH_takeO (i := 7) (dst := (some 19)) (op := (Go.Op.call { callee := (Go.Callee.builtin Go.Builtin.len), args := #[(Go.Operand.tmp 18)], argTypes := #[36] })) (v := ?_) (by rfl) (by kernel_rfl) (by kernel_rfl) (by kernel_rfl) (fun _ _ _ h => h) ?_ hS0 ?_; rotate_left; (focus (intro _ _ _ W HW; (try dsimp only at HW); go_simp; (try with_reducible rfl))); (try simp only [Act.put, List.setIfInBounds_toArray, List.set_cons_zero, List.set_cons_succ]))
      refine wpAnyH_takeO (i := 8) (dst := (some 20)) (op := (Go.Op.call { callee := (Go.Callee.builtin Go.Builtin.min), args := #[(Go.Operand.tmp 17), (Go.Operand.tmp 19)], argTypes := #[3, 3] })) (v := .int .i64 (q : Int)) (by rfl) (by kernel_rfl) (by kernel_rfl) (by kernel_rfl) (fun _ _ _ h => h) (fun ty pos after W HW => ex_min (i := (o : Int) + 1048576) (j := (b.length : Int)) (q : Int) (by rfl) (by rfl) HQI.out ty pos after) hS0 ?_
      (try simp only [Act.put, List.setIfInBounds_toArray, List.set_cons_zero, List.set_cons_succ])
      refine wpAnyH_takeO (i := 9) (dst := (some 21)) (op := (Go.Op.slice 36 (Go.Operand.tmp 14) (some (Go.Operand.tmp 15)) (some (Go.Operand.tmp 20)) none)) (v := pv) (by rfl) (by kernel_rfl) (by kernel_rfl) (by kernel_rfl) (fun _ _ _ h => h) (fun ty pos after W HW => hrun _ _ _ _ .i64 .i64 (o : Int) (q : Int) _ rfl (by rfl) (by rfl) (by rfl) rfl rfl W) hS0 ?_
      (try simp only [Act.put, List.setIfInBounds_toArray, List.set_cons_zero, List.set_cons_succ])
      refine wpAnyH_call (i := 10) (dst := (some 22)) (op := (Go.Op.call { callee := (Go.Callee.value (Go.Operand.func 72)), args := #[(Go.Operand.tmp 12), (Go.Operand.tmp 13), (Go.Operand.tmp 21)], argTypes := #[23, 9, 36] })) (f := 72) (vs := #[.pointer (some ⟨d, 0, none⟩), encS tmp, pv]) (by kernel_rfl) (by rfl) (fun _ _ _ => by go_simp) ?_
      refine hap.mono ?_
      rintro e w2 ⟨rfl, S2, hD2, hU2, hS2⟩
      have hcp2 := hcpd.step hU2 hS2
      have hS3 : w2.cell? ⟨ab, 0, none⟩ = some (.slice bo b.length bcap) ∧ w2.cell? ⟨aa, 0, none⟩ = some (.pointer (some ⟨d, 0, none⟩)) ∧ w2.cell? ⟨ac, 0, none⟩ = some (encS tmp) := ⟨(hcp2 (ab, .slice bo b.length bcap) (by simp)).1, (hcp2 (aa, .pointer (some ⟨d, 0, none⟩)) (by simp)).1, (hcp2 (ac, encS tmp) (by simp)).1⟩
      refine ⟨_, rfl, hS3, ?_⟩
      (try simp only [Act.put, List.setIfInBounds_toArray, List.set_cons_zero, List.set_cons_succ])
      (refine wpAnyH_takeO (i := 11) (dst := (some 5)) (op := (Go.Op.assign (Go.Operand.tmp 22))) (v := ?_) (by rfl) (by kernel_rfl) (by kernel_rfl) (by kernel_rfl) (fun _ _ _ h => h) ?_ hS3 ?_; rotate_left; (focus (intro _ _ _ W HW; (try dsimp only at HW); go_simp; (try with_reducible rfl))); (try simp only [Act.put, List.setIfInBounds_toArray, List.set_cons_zero, List.set_cons_succ]))
      refine wpAnyH_done (by kernel_rfl) ?_ _
      have hU02 := hUd.sub hS hU2
      have hS02 := hS.trans hS2 hUd.size
      have hby2 := (hby.upd0 (Upd.drew [] wr)).upd hU2 ((hD.upd0 (Upd.drew [] wr)).off8)
      by_cases hk : k = 0
      · subst hk
        have HR := Lib.hid (show WrRel w d S D tmp b [(ab, .slice bo b.length bcap), (aa, .pointer (some ⟨d, 0, none⟩)), (ac, encS tmp)] (.slice bo b.length bcap) (.int .i64 ((o : Int) + 1048576)) w2 from
          ⟨i + 1, D2, S2, by rw [Nat.add_mul, ← HO.out]; simp, .inr (by rw [Nat.add_sub_cancel, ← HO.out]; exact hlt), hD2, hU02, hS02, hcp2, hby2, by omega, by rw [HWC.out, Nat.add_mul, ← HO.out, Nat.one_mul]; simp⟩)
        clear hD2 hU2 hS2 hcp2 hS3 hU02 hS02 hal hD hcp hcpd hrun hlo
        go_wp2_with fail
        exact ⟨HR.out, by simp [intOf]; omega⟩
      · have h1 : ((k : Int) != 0) = true := by simp; omega
        have HR := Lib.hid (show DPost w d S (D.write tmp b) (.returned (.int .i64 k)) w2 from by
          rw [HWC.out, if_pos hk]
          exact ⟨rfl, S2, hD2, hU02, hS02⟩)
        clear hD2 hU2 hS2 hcp2 hS3 hU02 hS02 hal hD hcp hcpd hrun hlo hk
        go_wp2_with fail
        go_ret
        exact HR.out
    · have htt : decide ((o : Int) < (b.length : Int)) = false := by simp; omega
      have HR := Lib.hid (show DPost w d S (D.write tmp b) (.returned (.int .i64 (0 : Nat))) wr from by
        rw [HW.out, DSt.write_nil _ _ _ (by simp; omega)]
        exact ⟨rfl, S1, hD, hU, hS⟩)
      clear hD hcp hlo
      go_wp2_with fail
      go_ret
      exact HR.out
end Go.Proofs.YthfbfdkjgkkpcaaGreat

namespace Go.Proofs.YthfbfdkjgkkpcaaGreat
open Go Go.RowKit

theorem run_enter {P : Program} {f : Nat} {fn : Func} (hf : P.funcs[f]? = some fn) (h1 : (fn.name == "runtime.NumGoroutine") = false) (h2 : fn.body.isNone = false) (args : Array Value) (w : World) : (callFunc f args).run P w = .ok (.enter f args) w := by
  have h1' : ¬ fn.name = "runtime.NumGoroutine" := by simpa using h1
  cases hb : fn.body with
  | none => rw [hb] at h2; cases h2
  | some c => simp [callFunc, hf, h1', hb]
/-- One after the other, until one fails. -/
def stepsAll : List (DSt → DSt × Nat) → DSt → DSt × Nat
  | [], D => (D, 0)
  | g :: r, D => if (g D).2 ≠ 0 then g D else stepsAll r (g D).1
def Small (D : DSt) (n : Nat) : Prop := D.loose.length ≤ n ∧ D.now.length ≤ n
structure Env (w : World) (S : List Nat) (l : List (Nat × Value)) (bv : Value) (b : List UInt8) : Prop where
  caps : Caps w S l
  by' : By w bv b
theorem Env.step {w w' : World} {d : Nat} {S S' : List Nat} {D : DSt} {l : List (Nat × Value)} {bv : Value} {b : List UInt8} (h : Env w S l bv b) (hD : DiskAt w d S D) (hU : Upd S w w') (hs : Sub w S S') : Env w' S' l bv b :=
  ⟨h.caps.step hU hs, h.by'.upd hU hD.off8⟩
structure StepFn (d : Nat) (l : List (Nat × Value)) (bv : Value) (b : List UInt8) (fv : Value) (g : DSt → DSt × Nat) : Prop where
  ex : ∃ f first cap fn, fv = .func (.func f) first cap ∧ Tryz.prog.funcs[f]? = some fn ∧ (fn.name == "runtime.NumGoroutine") = false ∧ fn.body.isNone = false ∧
    ∀ w S D, DiskAt w d S D → Env w S l bv b → Small D 999990000 → Calls Tryz.prog f (first ++ cap) w (DPost w d S (g D))
  grow : ∀ D n, Small D n → Small (g D).1 (n + 1000)
def StRel (w : World) (d : Nat) (S : List Nat) (D : DSt) (gs : List (DSt → DSt × Nat)) (l : List (Nat × Value)) (bv : Value) (b : List UInt8) (n : Nat) (x : Value) (wr : World) : Prop :=
  ∃ (i : Nat) (D1 : DSt) (S1 : List Nat), x = .int .i64 i ∧ i ≤ gs.length ∧ DiskAt wr d S1 D1 ∧ Upd S w wr ∧ Sub w S S1 ∧ Env wr S1 l bv b ∧ Small D1 (n + 1000 * i) ∧ stepsAll gs D = stepsAll (gs.drop i) D1
set_option maxRecDepth 100000 in
set_option maxHeartbeats 1000000 in
theorem journal_steps (w : World) (d : Nat) (S : List Nat) (D : DSt) (h : DiskAt w d S D) (gs : List (DSt → DSt × Nat)) (fs : List Value) (l : List (Nat × Value)) (bv : Value) (b : List UInt8) (henv : Env w S l bv b) (hlen : fs.length = gs.length) (hg : gs.length ≤ 10)
    (hst : ∀ (i : Nat) fv g, fs[i]? = some fv → gs[i]? = some g → StepFn d l bv b fv g) (n : Nat) (hn : n ≤ 999900000) (hsm : Small D n) (v : Value) (hv : Rd w 62 1 v gs.length fs) :
    Calls Tryz.prog 56 #[v] w (DPost w d S (stepsAll gs D)) := by
  obtain ⟨ao, cap, rfl, _⟩ := hv.shape
  have hoff : Off w 62 S := h.off (by decide) (by decide)
  have HST := Lib.hid hst; have HN := Lib.hid hn; have HG := Lib.hid hg; have H := Lib.hid h; have HE := Lib.hid henv; have HS := Lib.hid hsm; have HLEN := Lib.hid hlen
  clear hst hn hg h henv hsm hlen
  go_enter Tryz.func56, Tryz.ntmps56
  go_wp2_with fail
  go_loopw [8] (fun x wr => StRel w d S D gs l bv b n x wr) (fun x _ => gs.length - (intOf x).toNat)
  case atStart => exact ⟨0, D, S, rfl, Nat.zero_le _, H.out, Upd.refl _ _, Sub.refl _ _, HE.out, HS.out, rfl⟩
  case round =>
    obtain ⟨i, D1, S1, rfl, hi, hD, hU, hS, hE, hsm, hgo⟩ := hrel
    have hg10 := HG.out
    by_cases hlt : i < gs.length
    · have htt : decide ((i : Int) < (gs.length : Int)) = true := by simp; omega
      obtain ⟨g, hgi⟩ : ∃ g, gs[i]? = some g := ⟨_, List.getElem?_eq_getElem hlt⟩
      obtain ⟨fv, hfi⟩ : ∃ fv, fs[i]? = some fv := ⟨_, List.getElem?_eq_getElem (by have := HLEN.out; omega)⟩
      have hstep := HST.out i fv g hfi hgi
      obtain ⟨f, first, cp, fn, rfl, hf, hn1, hn2, hcall⟩ := hstep.ex
      have hc1 := hcall wr S1 D1 hD hE ⟨by have := hsm.1; have := HN.out; omega, by have := hsm.2; have := HN.out; omega⟩
      have hgr := hstep.grow D1 _ hsm
      have hR := hv.upd hU hoff
      have hu : fs[(i : Int).toNat]? = some (.func (.func f) first cp) := by simpa using hfi
      have hgo2 : stepsAll gs D = if (g D1).2 ≠ 0 then g D1 else stepsAll (gs.drop (i + 1)) (g D1).1 := by
        rw [hgo, List.drop_eq_getElem_cons hlt, (List.getElem?_eq_some_iff.1 hgi).2]
        rfl
      have HGO := Lib.hid hgo2
      generalize g D1 = r at *
      obtain ⟨D2, k⟩ := r
      have HGR := Lib.hid hgr
      clear hgo2 hgo hcall hstep hgr hgi hfi
      go_wp2_with (first
        | ((with_reducible show wpList _ _ _ (⟨_, .indexAddr _ _ _, _, _, _, _⟩ :: _) _ _); refine wpl_indexAddr1 elFn rfl rfl hR rfl rfl (by omega) (by omega) _ hu ?_; intro ad hcell))
      rw [run_enter hf hn1 hn2]
      refine hc1.mono ?_
      rintro e w2 ⟨rfl, S2, hD2, hU2, hS2⟩
      have hU02 := hU.sub hS hU2
      have hS02 := hS.trans hS2 hU.size
      have hE2 := hE.step hD hU2 hS2
      by_cases hk : k = 0
      · subst hk
        have HR := Lib.hid (show StRel w d S D gs l bv b n (.int .i64 ((i : Int) + 1)) w2 from ⟨i + 1, D2, S2, by simp, hlt, hD2, hU02, hS02, hE2, by rw [show n + 1000 * (i + 1) = n + 1000 * i + 1000 from by omega]; exact HGR.out, HGO.out⟩)
        clear hD2 hE2 hU02 hS02 hU2 hS2 hE hD
        go_wp2_with fail
        exact ⟨HR.out, by simp [intOf]; omega⟩
      · have h1 : ((k : Int) != 0) = true := by simp; omega
        have HR := Lib.hid (show DPost w d S (stepsAll gs D) (.returned (.int .i64 k)) w2 from by
          rw [HGO.out, if_pos hk]
          exact ⟨rfl, S2, hD2, hU02, hS02⟩)
        clear hD2 hE2 hU02 hS02 hU2 hS2 hE hD hk
        go_wp2_with fail
        go_ret
        exact HR.out
    · have htt : decide ((i : Int) < (gs.length : Int)) = false := by simp; omega
      have hie : i = gs.length := by omega
      have HF := Lib.hid (show DPost w d S (stepsAll gs D) (.returned (.int .i64 (0 : Nat))) wr from by
        rw [hgo, hie, List.drop_length]
        exact ⟨rfl, S1, hD, hU, hS⟩)
      clear hD hE hgo
      go_wp2_with fail
      go_ret
      exact HF.out
end Go.Proofs.YthfbfdkjgkkpcaaGreat

namespace Go.Proofs.YthfbfdkjgkkpcaaGreat
open Go Go.RowKit

theorem Small.mono {D : DSt} {m n : Nat} (h : Small D m) (hm : m ≤ n) : Small D n := ⟨Nat.le_trans h.1 hm, Nat.le_trans h.2 hm⟩
theorem fdel_length (k : List UInt8) (m : List (List UInt8 × List UInt8)) : (fdel k m).length ≤ m.length := by rw [fdel_eq_filter]; exact List.length_filter_le _ _
theorem fput_length (k v : List UInt8) (m : List (List UInt8 × List UInt8)) : (fput k v m).length ≤ m.length + 1 := by
  rw [(fput_perm _ _ _).length_eq]
  simpa using fdel_length k m
theorem fdo_length (m : List (List UInt8 × List UInt8)) (c : Chg) : (fdo m c).length ≤ m.length + 1 := by
  unfold fdo
  repeat' split
  · exact fput_length _ _ _
  · exact fput_length _ _ _
  · have := fdel_length c.a m; omega
  · have h1 := fput_length c.b ((aget c.a m).getD []) (fdel c.a m)
    have h2 := fdel_length c.a m
    omega
theorem Small.does {D : DSt} {n : Nat} (h : Small D n) (c : Chg) : Small (D.does c).1 (n + 1) := by
  unfold DSt.does
  split
  · exact ⟨by have := h.1; show D.loose.length ≤ _; omega, by have := h.2; show D.now.length ≤ _; omega⟩
  · refine ⟨?_, ?_⟩
    · have := h.1; simp; omega
    · have h1 := h.2; have := fdo_length D.now c; show (fdo D.now c).length ≤ _; omega
theorem Small.create {D : DSt} {n : Nat} (h : Small D n) (a : List UInt8) : Small (D.create a).1 (n + 1) := by
  unfold DSt.create
  repeat' split
  all_goals first | exact h.mono (by omega) | exact h.does _
theorem Small.append {D : DSt} {n : Nat} (h : Small D n) (a p : List UInt8) : Small (D.append a p).1 (n + 1) := by
  unfold DSt.append
  repeat' split
  all_goals first | exact h.mono (by omega) | exact h.does _
theorem Small.remove {D : DSt} {n : Nat} (h : Small D n) (a : List UInt8) : Small (D.remove a).1 (n + 1) := by
  unfold DSt.remove
  repeat' split
  all_goals first | exact h.mono (by omega) | exact h.does _
theorem Small.rename {D : DSt} {n : Nat} (h : Small D n) (a b : List UInt8) : Small (D.rename a b).1 (n + 1) := by
  unfold DSt.rename
  repeat' split
  all_goals first | exact h.mono (by omega) | exact h.does _
theorem Small.sync {D : DSt} {n : Nat} (h : Small D n) : Small D.sync.1 n := by
  unfold DSt.sync
  repeat' split
  · exact h
  · exact h
  · exact ⟨Nat.zero_le _, h.2⟩
theorem Small.clear {D : DSt} {n : Nat} (h : Small D n) (a : List UInt8) : Small (D.clear a).1 (n + 1) := by
  unfold DSt.clear
  split
  · exact h.remove a
  · exact h.remove a
theorem Small.write (k : Nat) : ∀ {D : DSt} {n : Nat} (_ : Small D n) (a b : List UInt8), b.length ≤ k * 1048576 → Small (D.write a b).1 (n + k) := by
  induction k with
  | zero => intro D n h a b hb; rw [DSt.write_nil _ _ _ (by omega)]; exact h.mono (by omega)
  | succ k ih =>
    intro D n h a b hb
    by_cases h0 : b.length = 0
    · rw [DSt.write_nil _ _ _ h0]; exact h.mono (by omega)
    · rw [DSt.write_cons _ _ _ h0]
      split
      · exact (h.append _ _).mono (by omega)
      · have := ih (h.append a (b.take 1048576)) a (b.drop 1048576) (by rw [List.length_drop]; omega)
        exact this.mono (by omega)
/-- The steps of a new file in the place of an old one. -/
def laySteps (name tmp b : List UInt8) : List (DSt → DSt × Nat) := [fun D => D.clear tmp, fun D => D.create tmp, fun D => D.write tmp b, fun D => D.sync, fun D => D.rename tmp name, fun D => D.sync]
def DSt.lay (D : DSt) (name tmp b : List UInt8) : DSt × Nat :=
  if (stepsAll (laySteps name tmp b) D).2 = 4 then
    (if ((stepsAll (laySteps name tmp b) D).1.clear tmp).2 ≠ 0 then (stepsAll (laySteps name tmp b) D).1.clear tmp else (((stepsAll (laySteps name tmp b) D).1.clear tmp).1, 4))
  else stepsAll (laySteps name tmp b) D
theorem small_steps : ∀ (gs : List (DSt → DSt × Nat)) (_ : ∀ g ∈ gs, ∀ (D : DSt) (n : Nat), Small D n → Small (g D).1 (n + 1000)) (D : DSt) (n : Nat), Small D n → Small (stepsAll gs D).1 (n + 1000 * gs.length)
  | [], _, D, n, h => h
  | g :: r, hg, D, n, h => by
    unfold stepsAll
    have h1 := hg g (by simp) D n h
    split
    · exact h1.mono (by simp; omega)
    · exact (small_steps r (fun g' h' => hg g' (by simp [h'])) _ _ h1).mono (by simp; omega)
theorem lay_grow {name tmp b : List UInt8} (hb : b.length ≤ 100000000) : ∀ g ∈ laySteps name tmp b, ∀ (D : DSt) (n : Nat), Small D n → Small (g D).1 (n + 1000) := by
  intro g hg D n h
  simp only [laySteps, List.mem_cons, List.not_mem_nil, or_false] at hg
  rcases hg with rfl | rfl | rfl | rfl | rfl | rfl
  · exact (h.clear tmp).mono (by omega)
  · exact (h.create tmp).mono (by omega)
  · exact (h.write 100 tmp b (by omega)).mono (by omega)
  · exact h.sync.mono (by omega)
  · exact (h.rename tmp name).mono (by omega)
  · exact h.sync.mono (by omega)
theorem Small.lay {D : DSt} {n : Nat} (h : Small D n) (name tmp b : List UInt8) (hb : b.length ≤ 100000000) : Small (D.lay name tmp b).1 (n + 7000) := by
  have h1 := small_steps (laySteps name tmp b) (lay_grow hb) D n h
  unfold DSt.lay
  split
  · split
    · exact (h1.clear tmp).mono (by simp [laySteps])
    · exact (h1.clear tmp).mono (by simp [laySteps])
  · exact h1.mono (by simp [laySteps])
def framesB (l : List (List UInt8)) : List UInt8 := (l.map frameB).flatten
theorem framesB_snoc (l : List (List UInt8)) (p : List UInt8) : framesB (l ++ [p]) = framesB l ++ frameB p := by simp [framesB]
theorem lay_fns (d : Nat) (aa ab ac ae : Nat) (bv : Value) (b name tmp : List UInt8) (hn : name.length ≤ 1000000) (ht : tmp.length ≤ 1000000) (hb : b.length ≤ 100000000) (i : Nat) (fv : Value) (g : DSt → DSt × Nat)
    (h1 : [Value.func (.func 128) #[] #[.pointer (some ⟨aa, 0, none⟩), .pointer (some ⟨ae, 0, none⟩)], .func (.func 129) #[] #[.pointer (some ⟨aa, 0, none⟩), .pointer (some ⟨ae, 0, none⟩)],
      .func (.func 127) #[] #[.pointer (some ⟨ab, 0, none⟩), .pointer (some ⟨aa, 0, none⟩), .pointer (some ⟨ae, 0, none⟩)], .func (.func 59) #[.pointer (some ⟨d, 0, none⟩)] #[],
      .func (.func 130) #[] #[.pointer (some ⟨aa, 0, none⟩), .pointer (some ⟨ae, 0, none⟩), .pointer (some ⟨ac, 0, none⟩)], .func (.func 59) #[.pointer (some ⟨d, 0, none⟩)] #[]][i]? = some fv)
    (h2 : (laySteps name tmp b)[i]? = some g) :
    StepFn d [(ab, bv), (aa, .pointer (some ⟨d, 0, none⟩)), (ae, encS tmp), (ac, encS name)] bv b fv g := by
  have hsync : StepFn d [(ab, bv), (aa, .pointer (some ⟨d, 0, none⟩)), (ae, encS tmp), (ac, encS name)] bv b (.func (.func 59) #[.pointer (some ⟨d, 0, none⟩)] #[]) (fun D => D.sync) :=
    ⟨⟨_, _, _, _, rfl, Tryz.func59, by kernel_rfl, by kernel_rfl, fun w S D hD hE hs => disk_sync w d S D hD (by have := hs.1; omega)⟩, fun D n h => h.sync.mono (by omega)⟩
  match i, h1, h2 with
  | 0, h1, h2 =>
    cases h1
    cases h2
    exact ⟨⟨_, _, _, _, rfl, Tryz.func128, by kernel_rfl, by kernel_rfl, fun w S D hD hE hs => lay_clear w d S D hD (by have := hs.1; omega) aa ae tmp (hE.caps (aa, .pointer (some ⟨d, 0, none⟩)) (by simp)).1 (hE.caps (ae, encS tmp) (by simp)).1⟩, fun D n h => (h.clear tmp).mono (by omega)⟩
  | 1, h1, h2 =>
    cases h1
    cases h2
    exact ⟨⟨_, _, _, _, rfl, Tryz.func129, by kernel_rfl, by kernel_rfl, fun w S D hD hE hs => lay_create w d S D hD (by have := hs.1; omega) (by have := hs.2; omega) aa ae tmp ht (hE.caps (aa, .pointer (some ⟨d, 0, none⟩)) (by simp)).1 (hE.caps (ae, encS tmp) (by simp)).1⟩, fun D n h => (h.create tmp).mono (by omega)⟩
  | 2, h1, h2 =>
    cases h1
    cases h2
    refine ⟨⟨_, _, _, _, rfl, Tryz.func127, by kernel_rfl, by kernel_rfl, fun w S D hD hE hs => lay_write w d S D hD (by have := hs.1; omega) ab aa ae bv b tmp hE.by' hb ?_⟩, fun D n h => (h.write 100 tmp b (by omega)).mono (by omega)⟩
    intro p hp
    simp only [List.mem_cons, List.not_mem_nil, or_false] at hp
    rcases hp with rfl | rfl | rfl
    · exact hE.caps _ (by simp)
    · exact hE.caps _ (by simp)
    · exact hE.caps _ (by simp)
  | 3, h1, h2 => cases h1; cases h2; exact hsync
  | 4, h1, h2 =>
    cases h1
    cases h2
    exact ⟨⟨_, _, _, _, rfl, Tryz.func130, by kernel_rfl, by kernel_rfl, fun w S D hD hE hs => lay_rename w d S D hD (by have := hs.1; omega) aa ae ac tmp name hn (hE.caps (aa, .pointer (some ⟨d, 0, none⟩)) (by simp)).1 (hE.caps (ae, encS tmp) (by simp)).1 (hE.caps (ac, encS name) (by simp)).1⟩, fun D n h => (h.rename tmp name).mono (by omega)⟩
  | 5, h1, h2 => cases h1; cases h2; exact hsync
  | k + 6, h1, h2 => simp at h1
end Go.Proofs.YthfbfdkjgkkpcaaGreat

namespace Go.Proofs.YthfbfdkjgkkpcaaGreat
open Go Go.RowKit

def LyRel (w : World) (bb : Nat) (l : List (List UInt8)) (x : Value) (wr : World) : Prop :=
  ∃ (i : Nat) (v : Value), x = .int .i64 i ∧ i ≤ l.length ∧ Upd [bb] w wr ∧ wr.heap[bb]? = some (.cells #[v] 36 (0, 0)) ∧ OwnBy wr w.heap.size v (framesB (l.take i))
theorem framesB_len (l : List (List UInt8)) (i : Nat) : (framesB (l.take i)).length ≤ (framesB l).length := by
  have : framesB l = framesB (l.take i) ++ framesB (l.drop i) := by
    unfold framesB
    rw [← List.flatten_append, ← List.map_append, List.take_append_drop]
  rw [this, List.length_append]
  omega
def LayPost (w : World) (d : Nat) (S : List Nat) (n : Nat) (r : DSt × Nat) (e : Ending) (w' : World) : Prop :=
  ∃ S', e = .returned (.tuple #[.int .i64 n, .int .i64 r.2]) ∧ DiskAt w' d S' r.1 ∧ Upd S w w' ∧ Sub w S S'
set_option maxRecDepth 100000 in
set_option maxHeartbeats 4000000 in
theorem journal_lay (w : World) (d : Nat) (S : List Nat) (D : DSt) (h : DiskAt w d S D) (name : List UInt8) (hn : name.length ≤ 1000) (rv : Value) (l : List (List UInt8)) (hl : Recs w rv l) (hlen : l.length ≤ 100000000) (hb : (framesB l).length ≤ 100000000) (hsm : Small D 999000000) :
    Calls Tryz.prog 62 #[.pointer (some ⟨d, 0, none⟩), encS name, rv] w (LayPost w d S (framesB l).length (D.lay name (name ++ [43]) (framesB l))) := by
  have hmf : ∀ (fn : Fn) (first cap : Array Value) (w : World), (Instr.makeFunc fn first cap).run Tryz.prog w = .ok (.func fn first cap) w := fun _ _ _ _ => rfl
  obtain ⟨cells, hR, hC⟩ := hl
  obtain ⟨ao, cap, rfl, _⟩ := hR.shape
  have H := Lib.hid h; have HN := Lib.hid hn; have HB := Lib.hid hb; have HS := Lib.hid hsm; have HLN := Lib.hid hlen
  obtain ⟨wa, hwa⟩ : ∃ wa, wa = ((w.alloc (Obj.cells #[.pointer (some ⟨d, 0, none⟩)] 23)).alloc (Obj.cells #[encS name] 9)).alloc (Obj.cells #[.slice none 0 0] 36) := ⟨_, rfl⟩
  have hUa : Upd [] w wa := by rw [hwa]; exact ((Upd.alloc [] _ _).trans0 (Upd.alloc [] _ _)).trans0 (Upd.alloc [] _ _)
  have hz : wa.heap.size = w.heap.size + 1 + 1 + 1 := by rw [hwa]; simp
  have g0 : wa.heap[w.heap.size]? = some (Obj.cells #[.pointer (some ⟨d, 0, none⟩)] 23) := by
    rw [hwa, heap_alloc_old _ _ (by simp; omega), heap_alloc_old _ _ (by simp)]
    exact heap_alloc_new w _
  have g1 : wa.heap[w.heap.size + 1]? = some (Obj.cells #[encS name] 9) := by
    rw [hwa, heap_alloc_old _ _ (by simp)]
    have := heap_alloc_new (w.alloc (Obj.cells #[.pointer (some ⟨d, 0, none⟩)] 23)) (Obj.cells #[encS name] 9)
    rwa [World.size_alloc] at this
  have g2 : wa.heap[w.heap.size + 1 + 1]? = some (Obj.cells #[.slice none 0 0] 36) := by
    rw [hwa]
    have := heap_alloc_new ((w.alloc (Obj.cells #[.pointer (some ⟨d, 0, none⟩)] 23)).alloc (Obj.cells #[encS name] 9)) (Obj.cells #[.slice none 0 0] 36)
    simp only [World.size_alloc] at this
    exact this
  have HWA := Lib.hid hwa
  clear hn hb hsm hlen h hwa
  go_enter Tryz.func62, Tryz.ntmps62
  go_wp2_with fail
  rw [← HWA.out]
  obtain ⟨bb, hbb⟩ : ∃ bb, bb = w.heap.size + 1 + 1 := ⟨_, rfl⟩
  have HBB := Lib.hid hbb
  rw [← hbb] at g2 ⊢
  clear hbb
  have hbw : ∀ W : World, Upd [] wa W → bb < W.heap.size := fun W hU => by have := hU.size; have := HBB.out; omega
  have HBW := Lib.hid hbw
  clear hbw
  go_loopw [18] (fun x wr => LyRel wa bb l x wr) (fun x _ => l.length - (intOf x).toNat)
  case atStart => exact ⟨0, .slice none 0 0, rfl, Nat.zero_le _, Upd.refl _ _, g2, World.ownsRow_nil _ _ _ _⟩
  case round =>
    obtain ⟨i, v, rfl, hi, hUb, hbox, hown⟩ := hrel
    have hU : Upd [] w wr := hUa.trans hUb (fun j hj hlt => by simp at hj; have := HBB.out; omega)
    have hll := HLN.out
    by_cases hlt : i < l.length
    · have htt : decide ((i : Int) < (l.length : Int)) = true := by simp; omega
      obtain ⟨p, hp⟩ : ∃ p, l[i]? = some p := ⟨_, List.getElem?_eq_getElem hlt⟩
      obtain ⟨pv, hcv, hpv⟩ := hC.get hp
      have hRr := hR.upd0 hU
      have hu : cells[(i : Int).toNat]? = some pv := by simpa using hcv
      have hpr := hpv.upd0 hU
      obtain ⟨ap, cp, hsp⟩ := By.val hpr
      subst hsp
      obtain ⟨av, cv, hsv⟩ := By.val hown.by
      subst hsv
      have htk : framesB (l.take (i + 1)) = framesB (l.take i) ++ frameB p := by
        rw [List.take_add_one, hp]
        exact framesB_snoc _ _
      have hfl : (framesB (l.take i)).length + (frameB p).length ≤ 100000000 := by
        have := framesB_len l (i + 1)
        rw [htk, List.length_append] at this
        have := HB.out
        omega
      have hpl : p.length ≤ 1073741000 := by have := frameB_length p; omega
      have HTK := Lib.hid htk; have HFL := Lib.hid hfl
      generalize framesB (l.take i) = fb at *
      have hfr := journal_frame wr.drew _ p (hpr.upd0 (Upd.drew [] wr)).x hpl
      have hS0 : wr.drew.cell? ⟨bb, 0, none⟩ = some (.slice av fb.length cv) := by rw [cell_lit wr.drew _ 0 _ _ _ hbox]; rfl
      have hUd := hUb.then0 (Upd.drew [] wr)
      have hownd := Own.upd0 hown (Upd.drew [] wr)
      have hboxd : wr.drew.heap[bb]? = some (.cells #[.slice av fb.length cv] 36 (0, 0)) := hbox
      clear htk hfl hp hcv
      go_wp2_with ((with_reducible show wpList _ _ _ (⟨_, .indexAddr _ _ _, _, _, _, _⟩ :: _) _ _); refine wpl_indexAddr1 elRec rfl rfl hRr rfl rfl (by omega) (by omega) _ hu ?_; intro ad hcell)
      refine wp_region_noPanic ?_
      refine wp_region_M 4 (fun W => W.cell? ⟨bb, 0, none⟩ = some (.slice av fb.length cv)) (by kernel_rfl) ?_
      (refine wpAnyM_takeO (i := 0) (dst := (some 22)) (op := (Go.Op.load 36 (Go.Operand.tmp 8))) (v := ?_) (by rfl) (by kernel_rfl) (by kernel_rfl) (by kernel_rfl) (by kernel_rfl) (by rfl) (fun _ _ _ h => h) ?_ hS0 ?_; rotate_left; (focus (intro _ _ _ W HW; (try dsimp only at HW); go_simp; (try with_reducible rfl))); (try simp only [Act.put, List.setIfInBounds_toArray, List.set_cons_zero, List.set_cons_succ]))
      (refine wpAnyM_takeO (i := 1) (dst := (some 23)) (op := (Go.Op.move (Go.Operand.tmp 10))) (v := ?_) (by rfl) (by kernel_rfl) (by kernel_rfl) (by kernel_rfl) (by kernel_rfl) (by rfl) (fun _ _ _ h => h) ?_ hS0 ?_; rotate_left; (focus (intro _ _ _ W HW; (try dsimp only at HW); go_simp; (try with_reducible rfl))); (try simp only [Act.put, List.setIfInBounds_toArray, List.set_cons_zero, List.set_cons_succ]))
      refine wpAnyM_one (i := 2) (by kernel_rfl) ?_
      refine opM_call (i := 2) (dst := (some 24)) (op := (Go.Op.call { callee := (Go.Callee.value (Go.Operand.func 73)), args := #[(Go.Operand.tmp 23)], argTypes := #[36] })) (f := 73) (vs := #[.slice ap p.length cp]) (by rfl) (fun _ _ _ => by go_simp) ?_
      refine hfr.mono ?_
      rintro e w2 ⟨v2, rfl, hv2, hU2⟩
      have hbox2 := hU2.get hboxd (by simp)
      have hS2 : w2.cell? ⟨bb, 0, none⟩ = some (.slice av fb.length cv) := hU2.cell hS0 (by simp)
      refine ⟨v2, rfl, .inr hS2, ?_⟩
      (try simp only [Act.put, List.setIfInBounds_toArray, List.set_cons_zero, List.set_cons_succ])
      have hUd2 := hUd.then0 hU2
      obtain ⟨v3, w3, hr3, hv3', hG3, _⟩ := run_append_rd (P := Tryz.prog) (T := 36) (ty := 0) (w := w2) elU8 (Own.upd0 hownd hU2) hv2.by (enc_oneCell _) (by have := HFL.out; unfold maxLen; omega) (by have := HFL.out; omega) hUd2.size
      have hv3 : OwnBy w3 wa.heap.size v3 (fb ++ frameB p) := by
        unfold OwnBy
        rw [List.length_append, List.map_append]
        exact hv3'
      have hU3 : Upd (Value.slice av fb.length cv).ownBlock.toList w2 w3 := Upd.grown hG3 (fun k hk => by rw [hk]; simp)
      have hU03 : Upd [bb] wa w3 := hUd2.own (Own.upd0 hownd hU2) hU3
      have hnm : bb ∉ (Value.slice av fb.length cv).ownBlock.toList := by
        intro hm
        cases av with
        | none => simp [Value.ownBlock] at hm
        | some ad =>
          simp [Value.ownBlock] at hm
          rcases hown.2 with ⟨hq, _⟩ | ⟨g, c', cur, hq, _, hg, _⟩
          · cases hq
          · cases hq
            simp at hm
            subst hm
            rw [hbox] at hg
            cases hg
      have hbox3 := hU3.get hbox2 hnm
      have hS3 : w3.cell? ⟨bb, 0, none⟩ = some (.slice av fb.length cv) := by rw [cell_lit w3 _ 0 _ _ _ hbox3]; rfl
      obtain ⟨a3, c3, hs3⟩ := By.val hv3.by
      have hf3 := frozen_lit w3 bb 0 _ _ hbox3
      (refine wpAnyM_val (i := 3) (dst := (some 25)) (op := (Go.Op.call { callee := (Go.Callee.builtin Go.Builtin.append), args := #[(Go.Operand.tmp 22), (Go.Operand.tmp 24)], argTypes := #[36, 36] })) (by rfl) (by kernel_rfl) (ex_append hr3 (by rfl) (by rfl)) (.inr hS3) ?_; (try simp only [Act.put, List.setIfInBounds_toArray, List.set_cons_zero, List.set_cons_succ]))
      rw [hs3]
      (refine wpAnyM_skip (i := 4) (dst := none) (op := (Go.Op.store 36 (Go.Operand.tmp 8) (Go.Operand.tmp 25))) (by rfl) (by kernel_rfl) (ex_store (run_store_slice (by kernel_rfl) hS3 hf3 _ _ _) (by rfl) (by rfl)) (.inl (by rfl)) ?_; (try simp only [Act.put, List.setIfInBounds_toArray, List.set_cons_zero, List.set_cons_succ]))
      refine wpAnyM_done (by kernel_rfl) ?_ _
      refine NoPanic.normal ?_
      rw [hs3] at hv3
      have hbox4 := setCell_get (i := 0) hbox3 (.slice a3 (fb ++ frameB p).length c3)
      have hnm3 : bb ∉ (Value.slice a3 (fb ++ frameB p).length c3).ownBlock.toList := by
        intro hm
        cases a3 with
        | none => simp [Value.ownBlock] at hm
        | some ad =>
          rcases hv3.2 with ⟨hq, _⟩ | ⟨g, c', cur, hq, _, hg, _⟩
          · cases hq
          · cases hq
            simp [Value.ownBlock] at hm
            subst hm
            rw [hbox3] at hg
            cases hg
      have hUs : Upd [bb] w3 (w3.setCell ⟨bb, 0, none⟩ (.slice a3 (fb ++ frameB p).length c3)) := Upd.setCell _ _ _ (by simp)
      have hv4 := Own.upd hv3 hUs (fun g hg hm => by simp at hm; subst hm; exact hnm3 (by rw [hg]; simp))
      have hU4 : Upd [bb] wa (w3.setCell ⟨bb, 0, none⟩ (.slice a3 (fb ++ frameB p).length c3)) := hU03.trans hUs (fun j hj _ => hj)
      have HR := Lib.hid (show LyRel wa bb l (.int .i64 ((i : Int) + 1)) (w3.setCell ⟨bb, 0, none⟩ (.slice a3 (fb ++ frameB p).length c3)) from ⟨i + 1, _, by simp, hlt, hU4, hbox4, by rw [HTK.out]; exact hv4⟩)
      clear hbox4 hv4 hU4 hUs hv3 hU3 hU03 hr3
      go_wp2_with fail
      have hrr := HR.out
      rw [List.length_append] at hrr
      exact ⟨hrr, by simp [intOf]; omega⟩
    · have htt : decide ((i : Int) < (l.length : Int)) = false := by simp; omega
      have hie : i = l.length := by omega
      rw [hie, List.take_length] at hown
      have hbl := HB.out
      generalize framesB l = b at *
      obtain ⟨av, cv, hsv⟩ := By.val hown.by
      subst hsv
      have hne0 : w.heap.size ∉ [bb] := by simp; have := HBB.out; omega
      have hne1 : w.heap.size + 1 ∉ [bb] := by simp; have := HBB.out; omega
      have m0 := hUb.get g0 hne0
      have m1 := hUb.get g1 hne1
      have k0 : wr.cell? ⟨w.heap.size, 0, none⟩ = some (.pointer (some ⟨d, 0, none⟩)) := by rw [cell_lit wr _ 0 _ _ _ m0]; rfl
      have k1 : wr.cell? ⟨w.heap.size + 1, 0, none⟩ = some (encS name) := by rw [cell_lit wr _ 0 _ _ _ m1]; rfl
      have k2 : wr.cell? ⟨bb, 0, none⟩ = some (.slice av b.length cv) := by rw [cell_lit wr _ 0 _ _ _ hbox]; rfl
      have hfr := journal_fresh wr name (by have := HN.out; omega)
      obtain ⟨tmp, htmp⟩ : ∃ tmp, tmp = name ++ [43] := ⟨_, rfl⟩
      have htl : tmp.length ≤ 1001 := by rw [htmp]; simp; exact HN.out
      rw [← htmp] at hfr ⊢
      have HTL := Lib.hid htl
      have HWN := Lib.hid (show wr.heap.size ≠ bb ∧ w.heap.size + 1 < wr.heap.size ∧ bb < wr.heap.size from by have := hUb.size; have := HBB.out; exact ⟨by omega, by omega, by omega⟩)
      have hUe : Upd [] wr (wr.alloc (Obj.cells #[encS tmp] 9)) := Upd.alloc [] _ _
      have q3 : (wr.alloc (Obj.cells #[encS tmp] 9)).cell? ⟨wr.heap.size, 0, none⟩ = some (encS tmp) := by
        rw [cell_lit _ _ 0 _ _ _ (heap_alloc_new wr _)]
        rfl
      have q0 := hUe.cell k0 (by simp)
      have q1 := hUe.cell k1 (by simp)
      have q2 := hUe.cell k2 (by simp)
      have hze : (wr.alloc (Obj.cells #[encS tmp] 9)).heap.size = wr.heap.size + 1 := by simp
      have HTMP := Lib.hid htmp
      clear hie hi htmp htl hC hR
      go_wp2_with (first
        | (go_at_call 54; refine hfr.mono ?_; rintro e w9 ⟨rfl, rfl⟩)
        | ((with_reducible show wpList _ _ _ (⟨_, .buildSlice _ _ _, _, _, _, _⟩ :: _) _ _); refine wpl_litN elFn [Value.func (.func 128) #[] #[.pointer (some ⟨w.heap.size, 0, none⟩), .pointer (some ⟨wr.heap.size, 0, none⟩)], .func (.func 129) #[] #[.pointer (some ⟨w.heap.size, 0, none⟩), .pointer (some ⟨wr.heap.size, 0, none⟩)],
            .func (.func 127) #[] #[.pointer (some ⟨bb, 0, none⟩), .pointer (some ⟨w.heap.size, 0, none⟩), .pointer (some ⟨wr.heap.size, 0, none⟩)], .func (.func 59) #[.pointer (some ⟨d, 0, none⟩)] #[],
            .func (.func 130) #[] #[.pointer (some ⟨w.heap.size, 0, none⟩), .pointer (some ⟨wr.heap.size, 0, none⟩), .pointer (some ⟨w.heap.size + 1, 0, none⟩)], .func (.func 59) #[.pointer (some ⟨d, 0, none⟩)] #[]] (by simp [Value.cells]) (by simp) (by simp) rfl rfl rfl rfl ?_))
      have hU6 : ∀ o : Obj, Upd [] (wr.alloc (Obj.cells #[encS tmp] 9)) ((wr.alloc (Obj.cells #[encS tmp] 9)).alloc o) := fun o => Upd.alloc [] _ _
      have hv6 : Rd ((wr.alloc (Obj.cells #[encS tmp] 9)).alloc (Obj.cells #[Value.func (.func 128) #[] #[.pointer (some ⟨w.heap.size, 0, none⟩), .pointer (some ⟨wr.heap.size, 0, none⟩)], .func (.func 129) #[] #[.pointer (some ⟨w.heap.size, 0, none⟩), .pointer (some ⟨wr.heap.size, 0, none⟩)], .func (.func 127) #[] #[.pointer (some ⟨bb, 0, none⟩), .pointer (some ⟨w.heap.size, 0, none⟩), .pointer (some ⟨wr.heap.size, 0, none⟩)], .func (.func 59) #[.pointer (some ⟨d, 0, none⟩)] #[], .func (.func 130) #[] #[.pointer (some ⟨w.heap.size, 0, none⟩), .pointer (some ⟨wr.heap.size, 0, none⟩), .pointer (some ⟨w.heap.size + 1, 0, none⟩)], .func (.func 59) #[.pointer (some ⟨d, 0, none⟩)] #[]] 62)) 62 1 (.slice (some ⟨(wr.alloc (Obj.cells #[encS tmp] 9)).heap.size, 0, none⟩) 6 6) 6 [Value.func (.func 128) #[] #[.pointer (some ⟨w.heap.size, 0, none⟩), .pointer (some ⟨wr.heap.size, 0, none⟩)], .func (.func 129) #[] #[.pointer (some ⟨w.heap.size, 0, none⟩), .pointer (some ⟨wr.heap.size, 0, none⟩)], .func (.func 127) #[] #[.pointer (some ⟨bb, 0, none⟩), .pointer (some ⟨w.heap.size, 0, none⟩), .pointer (some ⟨wr.heap.size, 0, none⟩)], .func (.func 59) #[.pointer (some ⟨d, 0, none⟩)] #[], .func (.func 130) #[] #[.pointer (some ⟨w.heap.size, 0, none⟩), .pointer (some ⟨wr.heap.size, 0, none⟩), .pointer (some ⟨w.heap.size + 1, 0, none⟩)], .func (.func 59) #[.pointer (some ⟨d, 0, none⟩)] #[]] := Rd.new rfl (Nat.le_refl _) (by decide) rfl rfl
      rw [hze] at hv6
      obtain ⟨w6, hw6⟩ : ∃ w6, w6 = (wr.alloc (Obj.cells #[encS tmp] 9)).alloc (Obj.cells #[Value.func (.func 128) #[] #[.pointer (some ⟨w.heap.size, 0, none⟩), .pointer (some ⟨wr.heap.size, 0, none⟩)], .func (.func 129) #[] #[.pointer (some ⟨w.heap.size, 0, none⟩), .pointer (some ⟨wr.heap.size, 0, none⟩)], .func (.func 127) #[] #[.pointer (some ⟨bb, 0, none⟩), .pointer (some ⟨w.heap.size, 0, none⟩), .pointer (some ⟨wr.heap.size, 0, none⟩)], .func (.func 59) #[.pointer (some ⟨d, 0, none⟩)] #[], .func (.func 130) #[] #[.pointer (some ⟨w.heap.size, 0, none⟩), .pointer (some ⟨wr.heap.size, 0, none⟩), .pointer (some ⟨w.heap.size + 1, 0, none⟩)], .func (.func 59) #[.pointer (some ⟨d, 0, none⟩)] #[]] 62) := ⟨_, rfl⟩
      have hUr6 : Upd [] (wr.alloc (Obj.cells #[encS tmp] 9)) w6 := by rw [hw6]; exact hU6 _
      have hU06 : Upd [] w w6 := (hU.trans0 hUe).trans0 hUr6
      rw [← hw6] at hv6
      have hnS : ∀ k, w.heap.size ≤ k → k ∉ S := fun k hk hm => by have := H.out.lt k hm; omega
      have hcaps : Caps w6 S [(bb, .slice av b.length cv), (w.heap.size, .pointer (some ⟨d, 0, none⟩)), (wr.heap.size, encS tmp), (w.heap.size + 1, encS name)] := by
        intro p hp
        have h1 := HWN.out
        have h2 := HBB.out
        simp only [List.mem_cons, List.not_mem_nil, or_false] at hp
        rcases hp with rfl | rfl | rfl | rfl
        · exact ⟨hUr6.cell q2 (by simp), hnS _ (by show w.heap.size ≤ bb; omega)⟩
        · exact ⟨hUr6.cell q0 (by simp), hnS _ (by show w.heap.size ≤ w.heap.size; omega)⟩
        · exact ⟨hUr6.cell q3 (by simp), hnS _ (by show w.heap.size ≤ wr.heap.size; omega)⟩
        · exact ⟨hUr6.cell q1 (by simp), hnS _ (by show w.heap.size ≤ w.heap.size + 1; omega)⟩
      have hby6 : By w6 (.slice av b.length cv) b := ((OwnBy.by hown).upd0 hUe).upd0 hUr6
      have hst := journal_steps w6 d S D (H.out.upd0 hU06) (laySteps name tmp b) _ _ _ b ⟨hcaps, hby6⟩ rfl (by simp [laySteps]) (fun i fv g h1 h2 => lay_fns d w.heap.size bb (w.heap.size + 1) wr.heap.size (.slice av b.length cv) b name tmp (by have := HN.out; omega) (by have := HTL.out; omega) hbl i fv g h1 h2) 999000000 (by omega) HS.out _ hv6
      have hF : D.lay name tmp b = if (stepsAll (laySteps name tmp b) D).2 = 4 then
          (if ((stepsAll (laySteps name tmp b) D).1.clear tmp).2 ≠ 0 then (stepsAll (laySteps name tmp b) D).1.clear tmp else (((stepsAll (laySteps name tmp b) D).1.clear tmp).1, 4))
        else stepsAll (laySteps name tmp b) D := rfl
      have hsm7 : Small (stepsAll (laySteps name tmp b) D).1 999990000 := (small_steps (laySteps name tmp b) (lay_grow hbl) D 999000000 HS.out).mono (by simp [laySteps])
      generalize hr : stepsAll (laySteps name tmp b) D = r at *
      obtain ⟨D7, k⟩ := r
      dsimp only at hF hsm7
      have HST := Lib.hid hst; have HCP := Lib.hid hcaps; have HF := Lib.hid hF; have HSM := Lib.hid hsm7; have HU6 := Lib.hid hU06; have HW6 := Lib.hid hw6
      clear hst hcaps hF hsm7 hv6 hnS hby6 hr q0 q1 q2 q3 k0 k1 k2 m0 m1 hbox hown hw6
      rw [← HW6.out]
      refine HST.out.mono ?_
      rintro e w7 ⟨rfl, S7, hD7, hU7, hS7⟩
      have hcp7 := HCP.out.step hU7 hS7
      have hU07 : Upd S w w7 := (HU6.out.mono (T := S) (by simp)).trans hU7 (fun j hj _ => hj)
      have hS07 : Sub w S S7 := fun j hj => (hS7 j hj).imp_right (fun h => Nat.le_trans HU6.out.size h)
      have z0 := (hcp7 (w.heap.size, .pointer (some ⟨d, 0, none⟩)) (by simp)).1
      have z2 := (hcp7 (bb, .slice av b.length cv) (by simp)).1
      have z3 := (hcp7 (wr.heap.size, encS tmp) (by simp)).1
      dsimp only at z0 z2 z3
      by_cases hk : k = 4
      · subst hk
        have hF := HF.out
        rw [if_pos rfl] at hF
        have hcl := lay_clear w7 d S7 D7 hD7 (by have := HSM.out.1; omega) w.heap.size wr.heap.size tmp z0 z3
        generalize D7.clear tmp = r8 at *
        obtain ⟨D8, k8⟩ := r8
        dsimp only at hF
        clear hD7 hU7 hS7 HF
        go_wp2_with fail
        refine hcl.mono ?_
        rintro e w8 ⟨rfl, S8, hD8, hU8, hS8⟩
        have hcp8 := hcp7.step hU8 hS8
        have y2 := (hcp8 (bb, .slice av b.length cv) (by simp)).1
        dsimp only at y2
        by_cases hk8 : k8 = 0
        · subst hk8
          rw [if_neg (by simp)] at hF
          have HP := Lib.hid (show LayPost w d S b.length (D.lay name tmp b) (.returned (.tuple #[.int .i64 b.length, .int .i64 (4 : Nat)])) w8 from by
            rw [hF]
            exact ⟨S8, rfl, hD8, hU07.sub hS07 hU8, hS07.trans hS8 hU07.size⟩)
          clear hF hD8 hU8 hS8 hcp8 hcp7
          go_wp2_with fail
          go_ret2
          rw [← HTMP.out] at *
          exact HP.out
        · rw [if_pos hk8] at hF
          have h1 : ((k8 : Int) != 0) = true := by simp; omega
          have HP := Lib.hid (show LayPost w d S b.length (D.lay name tmp b) (.returned (.tuple #[.int .i64 b.length, .int .i64 k8])) w8 from by
            rw [hF]
            exact ⟨S8, rfl, hD8, hU07.sub hS07 hU8, hS07.trans hS8 hU07.size⟩)
          clear hF hD8 hU8 hS8 hcp8 hcp7 hk8
          go_wp2_with fail
          go_ret2
          rw [← HTMP.out] at *
          exact HP.out
      · have hF := HF.out
        rw [if_neg hk] at hF
        have h1 : ((k : Int) == 4) = false := by simp; omega
        have HP := Lib.hid (show LayPost w d S b.length (D.lay name tmp b) (.returned (.tuple #[.int .i64 b.length, .int .i64 k])) w7 from by
          rw [hF]
          exact ⟨S7, rfl, hD7, hU07, hS07⟩)
        clear hF hD7 hU7 hS7 hcp7 hk HF
        go_wp2_with fail
        go_ret2
        rw [← HTMP.out] at *
        exact HP.out
end Go.Proofs.YthfbfdkjgkkpcaaGreat

namespace Go.Proofs.YthfbfdkjgkkpcaaGreat
open Go Go.RowKit

theorem scan_bounds : ∀ (n : Nat) (b : List UInt8), b.length ≤ n → (scanB b).2 ≤ b.length ∧ (framesB (scanB b).1).length = (scanB b).2 ∧ (scanB b).1.length ≤ b.length := by
  intro n
  induction n with
  | zero =>
    intro b hb
    have h : frame1 b = none := by
      cases hf : frame1 b with
      | none => rfl
      | some p => have := (frame1_len hf).1; omega
    rw [scanB_none h]
    simp [framesB]
  | succ n ih =>
    intro b hb
    cases hf : frame1 b with
    | none => rw [scanB_none hf]; simp [framesB]
    | some p =>
      have hl := (frame1_len hf).1
      rw [scanB_some hf]
      obtain ⟨h1, h2, h3⟩ := ih (b.drop (8 + p.length)) (by simp; omega)
      simp only [List.length_drop] at h1 h3
      refine ⟨by dsimp only; omega, ?_, by simp only [List.length_cons]; omega⟩
      show (framesB (p :: (scanB (b.drop (8 + p.length))).1)).length = _
      unfold framesB at h2 ⊢
      simp only [List.map_cons, List.flatten_cons, List.length_append, frameB_length, h2]
      omega
/-- A file that is there, opened: the records, how far they reach, and the disk behind it. -/
def DSt.openOld (D : DSt) (name : List UInt8) : DSt × Nat :=
  if D.there name ≠ 0 then (D, D.there name)
  else if (scanB ((aget name D.now).getD [])).2 < ((aget name D.now).getD []).length then D.lay name (name ++ [43]) (framesB (scanB ((aget name D.now).getD [])).1)
  else (D, 0)
def OpenOldPost (w : World) (d : Nat) (S : List Nat) (D : DSt) (name : List UInt8) (e : Ending) (w' : World) : Prop :=
  if (D.openOld name).2 = 0 then
    ∃ j S' v, e = .returned (.tuple #[.pointer (some ⟨j, 0, none⟩), v, .int .i64 0]) ∧ w.heap.size ≤ j ∧ JAt w' d j (j :: S') ⟨(D.openOld name).1, name, (scanB ((aget name D.now).getD [])).2⟩ ∧ Recs w' v (scanB ((aget name D.now).getD [])).1 ∧ Upd S w w' ∧ Sub w S S'
  else e = .returned (.tuple #[.pointer none, .slice none 0 0, .int .i64 (D.openOld name).2]) ∧ ∃ S', DiskAt w' d S' (D.openOld name).1 ∧ Upd S w w' ∧ Sub w S S'
set_option maxRecDepth 100000 in
set_option maxHeartbeats 4000000 in
theorem journal_open_old (w : World) (d : Nat) (S : List Nat) (D : DSt) (h : DiskAt w d S D) (name : List UInt8) (h1 : isName name = true) (h2 : isName (name ++ [43]) = true) (h3 : D.there name ≠ 6) (hsm : Small D 999000000) :
    Calls Tryz.prog 12 #[.pointer (some ⟨d, 0, none⟩), encS name] w (OpenOldPost w d S D name) := by
  have hn : name.length ≤ 160 := by unfold isName at h1; simp at h1; exact h1.2
  have hsz : ∀ W : World, Upd [] w W → Calls Tryz.prog 55 #[.pointer (some ⟨d, 0, none⟩), encS name] W fun e w' => e = .returned (.tuple #[.int .i64 (D.size name).1, .int .i64 (D.size name).2]) ∧ W = w' := fun W hU => disk_size W d S D (h.upd0 hU) name
  have hnm1 : ∀ W : World, Calls Tryz.prog 53 #[encS name] W fun e w' => e = .returned (.bool true) ∧ W = w' := by
    intro W
    have := disk_isName W name (by omega)
    rw [h1] at this
    exact this
  have hnm2 : ∀ W : World, Calls Tryz.prog 53 #[encS (name ++ [43])] W fun e w' => e = .returned (.bool true) ∧ W = w' := by
    intro W
    have := disk_isName W (name ++ [43]) (by simp; omega)
    rw [h2] at this
    exact this
  have hfr := fun W => journal_fresh W name (by omega)
  have hbl : ((aget name D.now).getD []).length ≤ 67108864 := by
    cases hc : aget name D.now with
    | none => simp
    | some u =>
      have e1 := aget_le_used hc
      have e2 := h.inv.usedNow
      have e3 := h.inv.room
      simp
      omega
  have hrd := fun (W : World) (hU : Upd [] w W) => disk_readAll W d S D (h.upd0 hU) name (by omega)
  have hF : D.openOld name = if D.there name ≠ 0 then (D, D.there name)
    else if (scanB ((aget name D.now).getD [])).2 < ((aget name D.now).getD []).length then D.lay name (name ++ [43]) (framesB (scanB ((aget name D.now).getD [])).1)
    else (D, 0) := rfl
  have hszq : D.size name = if D.there name = 0 then (((aget name D.now).getD []).length, 0) else (0, D.there name) := rfl
  have hraq : D.readAll name = if D.there name = 0 then ((aget name D.now).getD [], 0) else ([], D.there name) := rfl
  have hPq : ∀ e w', OpenOldPost w d S D name e w' = (if (D.openOld name).2 = 0 then
    ∃ j S' v, e = .returned (.tuple #[.pointer (some ⟨j, 0, none⟩), v, .int .i64 0]) ∧ w.heap.size ≤ j ∧ JAt w' d j (j :: S') ⟨(D.openOld name).1, name, (scanB ((aget name D.now).getD [])).2⟩ ∧ Recs w' v (scanB ((aget name D.now).getD [])).1 ∧ Upd S w w' ∧ Sub w S S'
  else e = .returned (.tuple #[.pointer none, .slice none 0 0, .int .i64 (D.openOld name).2]) ∧ ∃ S', DiskAt w' d S' (D.openOld name).1 ∧ Upd S w w' ∧ Sub w S S') := fun _ _ => rfl
  generalize (aget name D.now).getD [] = b at *
  generalize D.there name = t at *
  have H := Lib.hid h; have HSM := Lib.hid hsm; have HN := Lib.hid hn; have HBL := Lib.hid hbl; have HP := Lib.hid hPq
  have h36 : ((t : Int) == 6) = false := by simp; omega
  have h36' : ((t : Int) = 6) = False := by simp; omega
  by_cases ht : t ≠ 0
  · rw [if_pos ht] at hF
    rw [if_neg ht] at hszq
    rw [hszq] at hsz
    have c1 : ((t : Int) != 0) = true := by simpa using ht
    have HF := Lib.hid hF; have HT := Lib.hid ht
    clear h1 h2 h3 h hsm hn hbl hrd hF hszq hraq hPq ht
    go_enter Tryz.func12, Tryz.ntmps12
    go_wp2_with fail
    refine (hnm1 _).mono ?_
    rintro e w1 ⟨rfl, rfl⟩
    go_wp2_with fail
    refine (hfr _).mono ?_
    rintro e w1 ⟨rfl, rfl⟩
    go_wp2_with fail
    refine (hnm2 _).mono ?_
    rintro e w1 ⟨rfl, rfl⟩
    go_wp2_with fail
    refine (hsz _ (by repeat first | exact Upd.refl _ _ | exact Upd.alloc [] _ _ | refine Upd.trans0 ?_ (Upd.alloc [] _ _))).mono ?_
    rintro e w1 ⟨rfl, rfl⟩
    go_wp2_with fail
    go_ret3
    rw [HP.out, HF.out]
    rw [if_neg HT.out]
    have hUa : Upd [] w (((w.alloc (Obj.cells #[Value.pointer (some { block := d, off := 0 })] 23)).alloc (Obj.cells #[encS name] 9)).alloc (Obj.cells #[Value.pointer (some { block := d, off := 0 }), encS name, Value.int IntKind.i64 0] 124)) := ((Upd.alloc [] _ _).trans0 (Upd.alloc [] _ _)).trans0 (Upd.alloc [] _ _)
    exact ⟨rfl, S, H.out.upd0 hUa, hUa.mono (by simp), Sub.refl _ _⟩
  · have ht0 : t = 0 := Classical.not_not.1 ht
    subst ht0
    rw [if_neg ht] at hF
    rw [if_pos rfl] at hszq hraq
    rw [hszq] at hsz
    rw [hraq] at hrd
    obtain ⟨w3, hw3⟩ : ∃ w3, w3 = (((w.alloc (Obj.cells #[Value.pointer (some { block := d, off := 0 })] 23)).alloc (Obj.cells #[encS name] 9)).alloc (Obj.cells #[Value.pointer (some { block := d, off := 0 }), encS name, Value.int IntKind.i64 0] 124)) := ⟨_, rfl⟩
    have hU3 : Upd [] w w3 := by rw [hw3]; exact ((Upd.alloc [] _ _).trans0 (Upd.alloc [] _ _)).trans0 (Upd.alloc [] _ _)
    have hs3 : w3.heap.size = w.heap.size + 1 + 1 + 1 := by rw [hw3]; simp
    have g0 : w3.heap[w.heap.size]? = some (Obj.cells #[.pointer (some ⟨d, 0, none⟩)] 23) := by
      rw [hw3, heap_alloc_old _ _ (by simp; omega), heap_alloc_old _ _ (by simp)]
      exact heap_alloc_new w _
    have g1 : w3.heap[w.heap.size + 1]? = some (Obj.cells #[encS name] 9) := by
      rw [hw3, heap_alloc_old _ _ (by simp)]
      have := heap_alloc_new (w.alloc (Obj.cells #[.pointer (some ⟨d, 0, none⟩)] 23)) (Obj.cells #[encS name] 9)
      rwa [World.size_alloc] at this
    have g2 : w3.heap[w.heap.size + 1 + 1]? = some (Obj.cells #[.pointer (some ⟨d, 0, none⟩), encS name, .int .i64 0] 124) := by
      rw [hw3]
      have := heap_alloc_new ((w.alloc (Obj.cells #[.pointer (some ⟨d, 0, none⟩)] 23)).alloc (Obj.cells #[encS name] 9)) (Obj.cells #[.pointer (some ⟨d, 0, none⟩), encS name, .int .i64 0] 124)
      simp only [World.size_alloc] at this
      exact this
    have k0 : w3.cell? ⟨w.heap.size, 0, none⟩ = some (.pointer (some ⟨d, 0, none⟩)) := by rw [cell_lit w3 _ 0 _ _ _ g0]; rfl
    have k1 : w3.cell? ⟨w.heap.size + 1, 0, none⟩ = some (encS name) := by rw [cell_lit w3 _ 0 _ _ _ g1]; rfl
    have hread := hrd w3 hU3
    have hsb := scan_bounds b.length b (Nat.le_refl _)
    have hscan := fun (W : World) (v : Value) (hv : By W v b) => journal_Scan W v b hv (by omega)
    generalize scanB b = sc at *
    obtain ⟨recs, used⟩ := sc
    dsimp only at hsb hscan hF
    have HF := Lib.hid hF; have HW3 := Lib.hid hw3; have HG2 := Lib.hid g2; have HSB := Lib.hid hsb
    have hub : used ≤ b.length := hsb.1
    clear h1 h2 h3 h hsm hn hrd hF hszq hraq hPq ht hw3 g0 g1 g2 hsb
    go_enter Tryz.func12, Tryz.ntmps12
    go_wp2_with fail
    refine (hnm1 _).mono ?_
    rintro e w1 ⟨rfl, rfl⟩
    go_wp2_with fail
    refine (hfr _).mono ?_
    rintro e w1 ⟨rfl, rfl⟩
    go_wp2_with fail
    refine (hnm2 _).mono ?_
    rintro e w1 ⟨rfl, rfl⟩
    go_wp2_with fail
    rw [← HW3.out]
    refine (hsz w3 hU3).mono ?_
    rintro e w1 ⟨rfl, rfl⟩
    go_wp2_with fail
    refine hread.mono ?_
    rintro e w4 ⟨v4, rfl, hv4, hU4⟩
    have j4 := hU4.get HG2.out (by simp)
    have k04 := hU4.cell k0 (by simp)
    have k14 := hU4.cell k1 (by simp)
    go_wp2_with fail
    refine (hscan w4 v4 hv4.by).mono ?_
    rintro e w5 ⟨v5, rfl, hv5, hU5⟩
    have j5 := hU5.get j4 (by simp)
    have k05 := hU5.cell k04 (by simp)
    have k15 := hU5.cell k14 (by simp)
    have c2 : w5.cell? ⟨w.heap.size + 1 + 1, 2, none⟩ = some (.int .i64 0) := by rw [cell_lit w5 _ 2 _ _ _ j5]; rfl
    have f2 := frozen_lit w5 (w.heap.size + 1 + 1) 2 _ _ j5
    obtain ⟨w6, hw6⟩ : ∃ w6, w6 = w5.setCell ⟨w.heap.size + 1 + 1, 2, none⟩ (.int .i64 used) := ⟨_, rfl⟩
    have hU05 : Upd [] w w5 := (hU3.trans0 hU4).trans0 hU5
    have hUs : Upd [w.heap.size + 1 + 1] w5 w6 := by rw [hw6]; exact Upd.setCell _ _ _ (by simp)
    have hU06 : Upd [] w w6 := hU05.trans hUs (fun i hi hlt => by simp at hi; omega)
    have j6 : w6.heap[w.heap.size + 1 + 1]? = some (Obj.cells #[.pointer (some ⟨d, 0, none⟩), encS name, .int .i64 used] 124) := by rw [hw6, setCell_get j5]; rfl
    have k06 := hUs.cell k05 (by simp only [List.mem_singleton]; omega)
    have k16 := hUs.cell k15 (by simp only [List.mem_singleton]; omega)
    have hrecs5 := hv5.recs
    have hrecs6 : Recs w6 v5 recs := hrecs5.upd hUs (Off.cons_cells j5 (by decide) (Off.nil _ _)) (Off.cons_cells j5 (by decide) (Off.nil _ _))
    have q06 : (w5.setCell ⟨w.heap.size + 1 + 1, 2, none⟩ (.int .i64 used)).cell? ⟨w.heap.size, 0, none⟩ = some (.pointer (some ⟨d, 0, none⟩)) := by rw [← hw6]; exact k06
    have q16 : (w5.setCell ⟨w.heap.size + 1 + 1, 2, none⟩ (.int .i64 used)).cell? ⟨w.heap.size + 1, 0, none⟩ = some (encS name) := by rw [← hw6]; exact k16
    have HW6 := Lib.hid hw6
    have HD6 := Lib.hid (H.out.upd0 hU06)
    clear hw6 hUs k05 k15 hrecs5
    by_cases huse : used < b.length
    · have tu : decide ((used : Int) < (b.length : Int)) = true := by simp; omega
      have hF := HF.out
      rw [if_pos huse] at hF
      have hlay := journal_lay w6 d S D HD6.out name (by have := HN.out; omega) v5 recs hrecs6 (by have := HSB.out.2.2; omega) (by have := HSB.out; omega) HSM.out
      have hjS : w.heap.size + 1 + 1 ∉ S := fun hm => by have := H.out.lt _ hm; omega
      generalize hr : D.lay name (name ++ [43]) (framesB recs) = r at *
      obtain ⟨D7, k⟩ := r
      have HLAY := Lib.hid hlay
      clear hlay hr
      go_wp2_with fail
      rw [← HW6.out]
      refine HLAY.out.mono ?_
      rintro e w7 ⟨S7, rfl, hD7, hU7, hS7⟩
      have hU07 : Upd S w w7 := (hU06.mono (T := S) (by simp)).trans hU7 (fun j hj _ => hj)
      have hS07 : Sub w S S7 := fun j hj => (hS7 j hj).imp_right (fun h => Nat.le_trans hU06.size h)
      have j7 := hU7.get j6 hjS
      have hrecs7 : Recs w7 v5 recs := hrecs6.upd hU7 HD6.out.off8 (HD6.out.off (by decide) (by decide))
      by_cases hk : k = 0
      · subst hk
        have HPP := Lib.hid (show OpenOldPost w d S D name (.returned (.tuple #[.pointer (some ⟨w.heap.size + 1 + 1, 0, none⟩), v5, .int .i64 0])) w7 from by
          rw [HP.out, hF, if_pos rfl]
          exact ⟨_, S7, v5, rfl, by omega, ⟨S7, rfl, hD7, j7⟩, hrecs7, hU07, hS07⟩)
        clear hF hD7 hU7 hS7
        go_wp2_with fail
        go_ret3
        exact HPP.out
      · have h9 : ((k : Int) != 0) = true := by simp; omega
        have HPP := Lib.hid (show OpenOldPost w d S D name (.returned (.tuple #[.pointer none, .slice none 0 0, .int .i64 k])) w7 from by
          rw [HP.out, hF, if_neg hk]
          exact ⟨rfl, S7, hD7, hU07, hS07⟩)
        clear hF hD7 hU7 hS7 hk
        go_wp2_with fail
        go_ret3
        exact HPP.out
    · have tu : decide ((used : Int) < (b.length : Int)) = false := by simp; omega
      have hF := HF.out
      rw [if_neg huse] at hF
      have HPP := Lib.hid (show OpenOldPost w d S D name (.returned (.tuple #[.pointer (some ⟨w.heap.size + 1 + 1, 0, none⟩), v5, .int .i64 0])) w6 from by
        rw [HP.out, hF, if_pos rfl]
        exact ⟨_, S, v5, rfl, by omega, ⟨S, rfl, HD6.out, j6⟩, hrecs6, hU06.mono (by simp), Sub.refl _ _⟩)
      clear hF
      go_wp2_with fail
      go_ret3
      rw [← HW6.out]
      exact HPP.out
end Go.Proofs.YthfbfdkjgkkpcaaGreat

namespace Go.Proofs.YthfbfdkjgkkpcaaGreat
open Go Go.RowKit

theorem decGo_bounds : ∀ (n : Nat) (b : List UInt8) (out l : List TChg) (r : List UInt8), decGo n b out = some (l, r) → (∀ c ∈ out, c.key ≠ [] ∧ c.key.length ≤ 320 ∧ c.val.length ≤ 262144) → l.length = out.length + n ∧ ∀ c ∈ l, c.key ≠ [] ∧ c.key.length ≤ 320 ∧ c.val.length ≤ 262144
  | 0, b, out, l, r, h, ho => by
    simp [decGo] at h
    obtain ⟨rfl, rfl⟩ := h
    exact ⟨rfl, ho⟩
  | n + 1, [], out, l, r, h, ho => by simp [decGo] at h
  | n + 1, g :: q, out, l, r, h, ho => by
    unfold decGo at h
    split at h
    · cases h
    split at h
    · cases h
    rename_i hk
    have hk1 : (readTextB q 320).2.2 = 0 := by
      rcases Nat.eq_zero_or_pos (readTextB q 320).2.2 with h0 | h0
      · exact h0
      · exact absurd (Or.inl (by omega)) hk
    have hk2 : (readTextB q 320).1 ≠ [] := fun e => hk (Or.inr e)
    have hk3 := (rt_used hk1).2
    split at h
    · have := decGo_bounds n _ _ l r h (by
        intro c hc
        rcases List.mem_append.1 hc with hc | hc
        · exact ho c hc
        · simp at hc; subst hc; exact ⟨hk2, hk3, by simp⟩)
      exact ⟨by have := this.1; simp at this; omega, this.2⟩
    · split at h
      · cases h
      · rename_i hv
        have hv3 := (rt_used (Classical.not_not.1 hv)).2
        have := decGo_bounds n _ _ l r h (by
          intro c hc
          rcases List.mem_append.1 hc with hc | hc
          · exact ho c hc
          · simp at hc; subst hc; exact ⟨hk2, hk3, hv3⟩)
        exact ⟨by have := this.1; simp at this; omega, this.2⟩
theorem decB_bounds {b : List UInt8} {l : List TChg} (h : decB b = some l) : l.length ≤ 256 ∧ ∀ c ∈ l, c.key ≠ [] ∧ c.key.length ≤ 320 ∧ c.val.length ≤ 262144 := by
  unfold decB at h
  split at h
  · cases h
  split at h
  · cases h
  rename_i hn
  split at h
  · rename_i l' hd
    cases h
    have := decGo_bounds _ _ _ _ _ hd (fun c hc => by cases hc)
    exact ⟨by have := this.1; simp at this; omega, this.2⟩
  · cases h
theorem scan_recs : ∀ (n : Nat) (b : List UInt8), b.length ≤ n → ∀ r ∈ (scanB b).1, r.length ≤ 1048576 := by
  intro n
  induction n with
  | zero =>
    intro b hb r hr
    have h : frame1 b = none := by
      cases hf : frame1 b with
      | none => rfl
      | some p => have := (frame1_len hf).1; omega
    rw [scanB_none h] at hr
    cases hr
  | succ n ih =>
    intro b hb r hr
    cases hf : frame1 b with
    | none => rw [scanB_none hf] at hr; cases hr
    | some p =>
      have hl := frame1_len hf
      rw [scanB_some hf] at hr
      rcases List.mem_cons.1 hr with rfl | hr
      · exact hl.2
      · exact ih _ (by simp; omega) r hr
/-- What records come to. -/
def recsB (m : List (List UInt8 × List UInt8)) : List (List UInt8) → Option (List (List UInt8 × List UInt8))
  | [] => some m
  | r :: rs => match decB r with
    | none => none
    | some l => recsB (tdo m l) rs
def TopenOldPost (w : World) (d : Nat) (S : List Nat) (D : DSt) (name b : List UInt8) (e : Ending) (w' : World) : Prop :=
  if (D.openOld name).2 = 0 then
    match recsB [] (scanB b).1 with
    | some m => ∃ tb S', e = .returned (.tuple #[.pointer (some ⟨tb, 0, none⟩), .int .i64 0]) ∧ w.heap.size ≤ tb ∧ TAt w' d tb S' ⟨⟨(D.openOld name).1, name, (scanB b).2⟩, m, false⟩ ∧ Upd S w w' ∧ Sub w S S'
    | none => e = .returned (.tuple #[.pointer none, .int .i64 200]) ∧ ∃ S', DiskAt w' d S' (D.openOld name).1 ∧ Upd S w w' ∧ Sub w S S'
  else e = .returned (.tuple #[.pointer none, .int .i64 (D.openOld name).2]) ∧ ∃ S', DiskAt w' d S' (D.openOld name).1 ∧ Upd S w w' ∧ Sub w S S'
def ToRel2 (w2 : World) (mb : Nat) (recs : List (List UInt8)) (x : Value) (wr : World) : Prop :=
  ∃ (i : Nat) (m : List (List UInt8 × List UInt8)), x = .int .i64 i ∧ i ≤ recs.length ∧ Upd [mb] w2 wr ∧ MapB wr mb m ∧ recsB [] recs = recsB m (recs.drop i)
set_option maxRecDepth 100000 in
set_option maxHeartbeats 4000000 in
theorem table_open_old (w : World) (d : Nat) (S : List Nat) (D : DSt) (h : DiskAt w d S D) (name : List UInt8) (h1 : isName name = true) (h2 : isName (name ++ [43]) = true) (h3 : D.there name ≠ 6) (hsm : Small D 999000000) :
    Calls Tryz.prog 17 #[.pointer (some ⟨d, 0, none⟩), encS name] w (TopenOldPost w d S D name ((aget name D.now).getD [])) := by
  have hj := journal_open_old w d S D h name h1 h2 h3 hsm
  have hmm : ∀ W : World, (Instr.makeMap 112 none).run Tryz.prog W = .ok (.map (some W.heap.size)) (W.alloc (.map #[] 0)) := fun _ => rfl
  have hbl : ((aget name D.now).getD []).length ≤ 67108864 := by
    cases hc : aget name D.now with
    | none => simp
    | some u =>
      have e1 := aget_le_used hc
      have e2 := h.inv.usedNow
      have e3 := h.inv.room
      simp
      omega
  have hlt := h.lt
  unfold OpenOldPost at hj
  have hPq : ∀ e w', TopenOldPost w d S D name ((aget name D.now).getD []) e w' = (if (D.openOld name).2 = 0 then
    match recsB [] (scanB ((aget name D.now).getD [])).1 with
    | some m => ∃ tb S', e = .returned (.tuple #[.pointer (some ⟨tb, 0, none⟩), .int .i64 0]) ∧ w.heap.size ≤ tb ∧ TAt w' d tb S' ⟨⟨(D.openOld name).1, name, (scanB ((aget name D.now).getD [])).2⟩, m, false⟩ ∧ Upd S w w' ∧ Sub w S S'
    | none => e = .returned (.tuple #[.pointer none, .int .i64 200]) ∧ ∃ S', DiskAt w' d S' (D.openOld name).1 ∧ Upd S w w' ∧ Sub w S S'
  else e = .returned (.tuple #[.pointer none, .int .i64 (D.openOld name).2]) ∧ ∃ S', DiskAt w' d S' (D.openOld name).1 ∧ Upd S w w' ∧ Sub w S S') := fun _ _ => rfl
  generalize (aget name D.now).getD [] = b at *
  have hsb := scan_bounds b.length b (Nat.le_refl _)
  have hsr := scan_recs b.length b (Nat.le_refl _)
  generalize scanB b = sc at *
  obtain ⟨recs, used⟩ := sc
  dsimp only at hj hPq hsb hsr
  generalize D.openOld name = r at *
  obtain ⟨D1, k⟩ := r
  dsimp only at hj hPq
  have HBL := Lib.hid hbl
  have HP := Lib.hid hPq; have HSB := Lib.hid hsb; have HSR := Lib.hid hsr; have HLT := Lib.hid hlt
  clear h h1 h2 h3 hsm hbl hPq hsb hsr hlt
  by_cases hk : k = 0
  · subst hk
    simp only [if_pos] at hj
    go_enter Tryz.func17, Tryz.ntmps17
    go_wp2_with (go_at_call 12; refine hj.mono ?_; rintro e w1 ⟨jb, S', v1, rfl, hjb, hJ, hrecs, hU1, hS1⟩; obtain ⟨ao1, cap1, hs1⟩ := hrecs.shape; subst hs1)
    obtain ⟨S0, hSS, hD0, hj0⟩ := hJ.ex
    cases hSS
    obtain ⟨w2, hw2⟩ : ∃ w2, w2 = (w1.alloc (.map #[] 0)).alloc (.cells #[.pointer (some ⟨jb, 0, none⟩), .map (some w1.heap.size), .bool false] 146) := ⟨_, rfl⟩
    have hU12 : Upd [] w1 w2 := by rw [hw2]; exact (Upd.alloc [] _ _).trans0 (Upd.alloc [] _ _)
    have hm2 : MapB w2 w1.heap.size [] := by
      rw [hw2]
      exact (MapB.new w1).upd (Upd.alloc [] _ _) (Off.nil _ _) (by simp)
    have ht2 : w2.heap[w1.heap.size + 1]? = some (.cells #[.pointer (some ⟨jb, 0, none⟩), .map (some w1.heap.size), .bool false] 146 (0, 0)) := by
      rw [hw2]
      have := heap_alloc_new (w1.alloc (.map #[] 0)) (.cells #[.pointer (some ⟨jb, 0, none⟩), .map (some w1.heap.size), .bool false] 146)
      rwa [World.size_alloc] at this
    have hz2 : w2.heap.size = w1.heap.size + 1 + 1 := by rw [hw2]; simp
    have HW2 := Lib.hid hw2
    have hrecs2 := hrecs.upd0 hU12
    have hJ2 := hJ.upd0 hU12
    have hmn : w1.heap.size ∉ (jb :: S') := fun hm => by have := hJ.lt _ hm; omega
    have hoff8 : Off w2 5 [w1.heap.size] := hm2.off (Off.nil _ _)
    have hoffr : Off w2 36 [w1.heap.size] := hm2.off (Off.nil _ _)
    have htn : w1.heap.size + 1 ∉ [w1.heap.size] := by simp
    clear hw2 hrecs hJ hD0 hj0
    go_wp2_with fail
    rw [← HW2.out]
    go_loopw [30] (fun x wr => ToRel2 w2 w1.heap.size recs x wr) (fun x _ => recs.length - (intOf x).toNat)
    case atStart => exact ⟨0, [], rfl, Nat.zero_le _, Upd.refl _ _, hm2, by simp⟩
    case round =>
      obtain ⟨i, m, rfl, hi, hU, hM, hrb⟩ := hrel
      have hll : recs.length ≤ 100000000 := by have := HSB.out; have := HBL.out; omega
      have hjr := hJ2.upd hU hoff8 (fun k hk hm => by simp at hm; subst hm; exact hmn hk)
      have hsz1 := hU1.size
      by_cases hlt : i < recs.length
      · have htt : decide ((i : Int) < (recs.length : Int)) = true := by simp; omega
        obtain ⟨p, hp⟩ : ∃ p, recs[i]? = some p := ⟨_, List.getElem?_eq_getElem hlt⟩
        obtain ⟨cells, hR, hC⟩ := hrecs2.upd hU hoff8 hoffr
        obtain ⟨pv, hcv, hpv⟩ := hC.get hp
        have hu : cells[(i : Int).toNat]? = some pv := by simpa using hcv
        have hdec := table_decode wr pv p hpv (by have := HSR.out p (List.mem_of_getElem? hp); omega)
        have hrb2 : recsB [] recs = match decB p with | none => none | some l => recsB (tdo m l) (recs.drop (i + 1)) := by
          rw [hrb, List.drop_eq_getElem_cons hlt, (List.getElem?_eq_some_iff.1 hp).2]
          rfl
        unfold DecPost at hdec
        cases hdb : decB p with
        | none =>
          rw [hdb] at hdec hrb2
          dsimp only at hrb2
          have HFIN := Lib.hid (fun (w5 : World) (h5 : Upd [] wr w5) => show TopenOldPost w d S D name b (.returned (.tuple #[.pointer none, .int .i64 200])) w5 from by
            rw [HP.out, if_pos trivial, hrb2]
            obtain ⟨S0, hq, hD5, _⟩ := (hjr.upd0 h5).ex
            cases hq
            refine ⟨rfl, S', hD5, ((hU1.then0 hU12).trans hU (fun j hj hlt => by simp at hj; omega)).then0 h5, hS1⟩)
          clear hrb2 hrb hdb
          go_wp2_with (first
            | ((with_reducible show wpList _ _ _ (⟨_, .indexAddr _ _ _, _, _, _, _⟩ :: _) _ _); refine wpl_indexAddr1 elRec rfl rfl hR rfl rfl (by omega) (by omega) _ hu ?_; intro ad hcell)
            | (go_at_call 75; refine hdec.mono ?_; rintro e w5 ⟨v5, rfl, _, hU5⟩))
          go_ret2
          exact HFIN.out w5 hU5
        | some lc =>
          rw [hdb] at hdec hrb2
          dsimp only at hrb2
          have hbd := decB_bounds hdb
          have HREL := Lib.hid (fun (w6 : World) (h6 : Upd [w1.heap.size] w2 w6) (hM6 : MapB w6 w1.heap.size (tdo m lc)) => show ToRel2 w2 w1.heap.size recs (.int .i64 ((i : Int) + 1)) w6 from ⟨i + 1, tdo m lc, by simp, hlt, h6, hM6, hrb2⟩)
          have HDO := Lib.hid (fun (w5 : World) (v5 : Value) (h5 : Upd [] wr w5) (hv5 : Chgs w5 v5 lc) => table_do w5 (w1.heap.size + 1) jb w1.heap.size m (.bool false) (hM.upd h5 (Off.nil _ _) (by simp)) ((hU.then0 h5).get ht2 htn) v5 lc hv5 (by have := hbd.1; omega) (fun c hc => by have := (hbd.2 c hc).2.2; omega))
          clear hrb2 hrb hdb hbd
          go_wp2_with (first
            | ((with_reducible show wpList _ _ _ (⟨_, .indexAddr _ _ _, _, _, _, _⟩ :: _) _ _); refine wpl_indexAddr1 elRec rfl rfl hR rfl rfl (by omega) (by omega) _ hu ?_; intro ad hcell)
            | (go_at_call 75; refine hdec.mono ?_; rintro e w5 ⟨v5, rfl, hv5, hU5⟩; (have hv5c := (hv5 lc rfl).chgs); obtain ⟨ao5, cap5, hs5⟩ := hv5c.shape; subst hs5)
            | (go_at_call 76; refine (HDO.out w5 _ hU5 hv5c).mono ?_; rintro e w6 ⟨rfl, hU6, hM6⟩))
          exact ⟨HREL.out w6 ((hU.then0 hU5).trans hU6 (fun j hj _ => hj)) hM6, by simp [intOf]; omega⟩
      · have htt : decide ((i : Int) < (recs.length : Int)) = false := by simp; omega
        have hie : i = recs.length := by omega
        have HFIN := Lib.hid (show TopenOldPost w d S D name b (.returned (.tuple #[.pointer (some ⟨w1.heap.size + 1, 0, none⟩), .int .i64 0])) wr from by
          rw [HP.out, if_pos trivial, hrb, hie, List.drop_length]
          refine ⟨w1.heap.size + 1, (w1.heap.size + 1) :: w1.heap.size :: jb :: S', rfl, by omega, ⟨jb, w1.heap.size, jb :: S', rfl, hmn, hjr, hM, hU.get ht2 htn⟩, (hU1.then0 hU12).trans hU (fun j hj hlt => by simp at hj; omega), ?_⟩
          intro j hj
          simp only [List.mem_cons] at hj
          rcases hj with rfl | rfl | rfl | hj
          · right; omega
          · right; omega
          · right; exact hjb
          · exact hS1 j hj)
        clear hrb
        go_wp2_with fail
        go_ret2
        exact HFIN.out
  · simp only [if_neg hk] at hj
    have c1 : ((k : Int) != 0) = true := by simp; omega
    have HK := Lib.hid hk
    clear hk
    go_enter Tryz.func17, Tryz.ntmps17
    go_wp2_with (go_at_call 12; refine hj.mono ?_; rintro e w1 ⟨rfl, S', hD1, hU1, hS1⟩)
    go_ret2
    rw [HP.out, if_neg HK.out]
    exact ⟨rfl, S', hD1, hU1, hS1⟩
end Go.Proofs.YthfbfdkjgkkpcaaGreat

namespace Go.Proofs.YthfbfdkjgkkpcaaGreat
open Go Go.RowKit

def JSt.rewrite (J : JSt) (l : List (List UInt8)) : JSt × Nat :=
  if (J.D.lay J.name (J.name ++ [43]) (framesB l)).2 = 0 then (⟨(J.D.lay J.name (J.name ++ [43]) (framesB l)).1, J.name, (framesB l).length⟩, 0)
  else (⟨(J.D.lay J.name (J.name ++ [43]) (framesB l)).1, J.name, J.size⟩, (J.D.lay J.name (J.name ++ [43]) (framesB l)).2)
def RwRel (w : World) (n : Nat) (x : Value) (wr : World) : Prop := ∃ i : Nat, x = .int .i64 i ∧ i ≤ n ∧ wr = w
set_option maxRecDepth 100000 in
set_option maxHeartbeats 2000000 in
theorem journal_rewrite (w : World) (d j : Nat) (S : List Nat) (J : JSt) (h : JAt w d j S J) (rv : Value) (l : List (List UInt8)) (hl : Recs w rv l) (hn : J.name.length ≤ 1000) (hlen : l.length ≤ 100000000) (hb : (framesB l).length ≤ 100000000) (hp : ∀ p ∈ l, p.length ≤ 1048568) (hsm : Small J.D 999000000) :
    Calls Tryz.prog 87 #[.pointer (some ⟨j, 0, none⟩), rv] w (JPost w d j S (J.rewrite l)) := by
  obtain ⟨S0, rfl, hD, hj⟩ := h.ex
  have hnj : j ∉ S0 := not_mem_off (hD.off (e := 124) (by decide) (by decide)) hj
  have hlay := journal_lay w.drew d S0 J.D (hD.upd0 (Upd.drew [] w)) J.name hn rv l (hl.upd0 (Upd.drew [] w)) hlen hb hsm
  obtain ⟨cells, hR, hC⟩ := hl
  obtain ⟨ao, cap, rfl, _⟩ := hR.shape
  have c0 : w.drew.cell? ⟨j, 0, none⟩ = some (.pointer (some ⟨d, 0, none⟩)) := by rw [cell_lit w.drew j 0 _ _ _ hj]; rfl
  have c1 : w.drew.cell? ⟨j, 1, none⟩ = some (encS J.name) := by rw [cell_lit w.drew j 1 _ _ _ hj]; rfl
  have hF : J.rewrite l = if (J.D.lay J.name (J.name ++ [43]) (framesB l)).2 = 0 then (⟨(J.D.lay J.name (J.name ++ [43]) (framesB l)).1, J.name, (framesB l).length⟩, 0)
    else (⟨(J.D.lay J.name (J.name ++ [43]) (framesB l)).1, J.name, J.size⟩, (J.D.lay J.name (J.name ++ [43]) (framesB l)).2) := rfl
  generalize J.D.lay J.name (J.name ++ [43]) (framesB l) = r at *
  obtain ⟨D1, k⟩ := r
  dsimp only at hF
  have HF := Lib.hid hF; have HLAY := Lib.hid hlay; have HJ := Lib.hid hj; have HP := Lib.hid hp; have HN := Lib.hid hlen; have HBL := Lib.hid hb; have HND := Lib.hid hnj
  clear hF hlay hj hp hlen hb hsm hn hD h
  go_enter Tryz.func87, Tryz.ntmps87
  go_wp2_with fail
  go_loopw [13] (fun x wr => RwRel w l.length x wr) (fun x _ => l.length - (intOf x).toNat)
  case atStart => exact ⟨0, rfl, Nat.zero_le _, rfl⟩
  case round =>
    obtain ⟨i, rfl, hi, rfl⟩ := hrel
    have hll := HN.out
    by_cases hlt : i < l.length
    · have htt : decide ((i : Int) < (l.length : Int)) = true := by simp; omega
      obtain ⟨p, hpi⟩ : ∃ p, l[i]? = some p := ⟨_, List.getElem?_eq_getElem hlt⟩
      obtain ⟨pv, hcv, hpv⟩ := hC.get hpi
      have hu : cells[(i : Int).toNat]? = some pv := by simpa using hcv
      obtain ⟨ap, cp, hsp⟩ := By.val hpv
      subst hsp
      have hpl := HP.out p (List.mem_of_getElem? hpi)
      have h8 : decide ((1048568 : Int) < (p.length : Int)) = false := by simp; omega
      go_wp2_with ((with_reducible show wpList _ _ _ (⟨_, .indexAddr _ _ _, _, _, _, _⟩ :: _) _ _); refine wpl_indexAddr1 elRec rfl rfl hR rfl rfl (by omega) (by omega) _ hu ?_; intro ad hcell)
      exact ⟨⟨i + 1, by simp, hlt, rfl⟩, by simp [intOf]; omega⟩
    · have htt : decide ((i : Int) < (l.length : Int)) = false := by simp; omega
      have hS0 : wr.drew.cell? ⟨j, 0, none⟩ = some (.pointer (some ⟨d, 0, none⟩)) ∧ wr.drew.cell? ⟨j, 1, none⟩ = some (encS J.name) := ⟨c0, c1⟩
      go_wp2_with fail
      refine wp_region_H (fun W => W.cell? ⟨j, 0, none⟩ = some (.pointer (some ⟨d, 0, none⟩)) ∧ W.cell? ⟨j, 1, none⟩ = some (encS J.name)) (by kernel_rfl) ?_
      (refine wpAnyH_takeO (i := 0) (dst := (some 22)) (op := (Go.Op.move (Go.Operand.tmp 0))) (v := ?_) (by rfl) (by kernel_rfl) (by kernel_rfl) (by kernel_rfl) (fun _ _ _ h => h) ?_ hS0 ?_; rotate_left; (focus (intro _ _ _ W HW; (try dsimp only at HW); go_simp; (try with_reducible rfl))); (try simp only [Act.put, List.setIfInBounds_toArray, List.set_cons_zero, List.set_cons_succ]))
      (refine wpAnyH_takeO (i := 1) (dst := (some 23)) (op := (Go.Op.nilCheck (Go.Operand.tmp 22))) (v := ?_) (by rfl) (by kernel_rfl) (by kernel_rfl) (by kernel_rfl) (fun _ _ _ h => h) ?_ hS0 ?_; rotate_left; (focus (intro _ _ _ W HW; (try dsimp only at HW); go_simp; (try with_reducible rfl))); (try simp only [Act.put, List.setIfInBounds_toArray, List.set_cons_zero, List.set_cons_succ]))
      (refine wpAnyH_takeO (i := 2) (dst := (some 24)) (op := (Go.Op.fieldAddr 124 (Go.Operand.tmp 23) 0)) (v := ?_) (by rfl) (by kernel_rfl) (by kernel_rfl) (by kernel_rfl) (fun _ _ _ h => h) ?_ hS0 ?_; rotate_left; (focus (intro _ _ _ W HW; (try dsimp only at HW); go_simp; (try with_reducible rfl))); (try simp only [Act.put, List.setIfInBounds_toArray, List.set_cons_zero, List.set_cons_succ]))
      (refine wpAnyH_takeO (i := 3) (dst := (some 25)) (op := (Go.Op.load 23 (Go.Operand.tmp 24))) (v := ?_) (by rfl) (by kernel_rfl) (by kernel_rfl) (by kernel_rfl) (fun _ _ _ h => h) ?_ hS0 ?_; rotate_left; (focus (intro _ _ _ W HW; (try dsimp only at HW); go_simp; (try with_reducible rfl))); (try simp only [Act.put, List.setIfInBounds_toArray, List.set_cons_zero, List.set_cons_succ]))
      (refine wpAnyH_takeO (i := 4) (dst := (some 26)) (op := (Go.Op.move (Go.Operand.tmp 0))) (v := ?_) (by rfl) (by kernel_rfl) (by kernel_rfl) (by kernel_rfl) (fun _ _ _ h => h) ?_ hS0 ?_; rotate_left; (focus (intro _ _ _ W HW; (try dsimp only at HW); go_simp; (try with_reducible rfl))); (try simp only [Act.put, List.setIfInBounds_toArray, List.set_cons_zero, List.set_cons_succ]))
      (refine wpAnyH_takeO (i := 5) (dst := (some 27)) (op := (Go.Op.nilCheck (Go.Operand.tmp 26))) (v := ?_) (by rfl) (by kernel_rfl) (by kernel_rfl) (by kernel_rfl) (fun _ _ _ h => h) ?_ hS0 ?_; rotate_left; (focus (intro _ _ _ W HW; (try dsimp only at HW); go_simp; (try with_reducible rfl))); (try simp only [Act.put, List.setIfInBounds_toArray, List.set_cons_zero, List.set_cons_succ]))
      (refine wpAnyH_takeO (i := 6) (dst := (some 28)) (op := (Go.Op.fieldAddr 124 (Go.Operand.tmp 27) 1)) (v := ?_) (by rfl) (by kernel_rfl) (by kernel_rfl) (by kernel_rfl) (fun _ _ _ h => h) ?_ hS0 ?_; rotate_left; (focus (intro _ _ _ W HW; (try dsimp only at HW); go_simp; (try with_reducible rfl))); (try simp only [Act.put, List.setIfInBounds_toArray, List.set_cons_zero, List.set_cons_succ]))
      (refine wpAnyH_takeO (i := 7) (dst := (some 29)) (op := (Go.Op.load 9 (Go.Operand.tmp 28))) (v := ?_) (by rfl) (by kernel_rfl) (by kernel_rfl) (by kernel_rfl) (fun _ _ _ h => h) ?_ hS0 ?_; rotate_left; (focus (intro _ _ _ W HW; (try dsimp only at HW); go_simp; (try with_reducible rfl))); (try simp only [Act.put, List.setIfInBounds_toArray, List.set_cons_zero, List.set_cons_succ]))
      (refine wpAnyH_takeO (i := 8) (dst := (some 30)) (op := (Go.Op.move (Go.Operand.tmp 1))) (v := ?_) (by rfl) (by kernel_rfl) (by kernel_rfl) (by kernel_rfl) (fun _ _ _ h => h) ?_ hS0 ?_; rotate_left; (focus (intro _ _ _ W HW; (try dsimp only at HW); go_simp; (try with_reducible rfl))); (try simp only [Act.put, List.setIfInBounds_toArray, List.set_cons_zero, List.set_cons_succ]))
      refine wpAnyH_call (i := 9) (dst := (some 31)) (op := (Go.Op.call { callee := (Go.Callee.value (Go.Operand.func 62)), args := #[(Go.Operand.tmp 25), (Go.Operand.tmp 29), (Go.Operand.tmp 30)], argTypes := #[23, 9, 22] })) (f := 62) (vs := #[.pointer (some ⟨d, 0, none⟩), encS J.name, .slice ao l.length cap]) (by kernel_rfl) (by rfl) (fun _ _ _ => by go_simp) ?_
      refine HLAY.out.mono ?_
      rintro e w2 ⟨S2, rfl, hD2, hU2, hS2⟩
      have hS3 : w2.cell? ⟨j, 0, none⟩ = some (.pointer (some ⟨d, 0, none⟩)) ∧ w2.cell? ⟨j, 1, none⟩ = some (encS J.name) := ⟨hU2.cell c0 HND.out, hU2.cell c1 HND.out⟩
      refine ⟨_, rfl, hS3, ?_⟩
      (try simp only [Act.put, List.setIfInBounds_toArray, List.set_cons_zero, List.set_cons_succ])
      (refine wpAnyH_takeO (i := 10) (dst := (some 21)) (op := (Go.Op.move (Go.Operand.tmp 31))) (v := ?_) (by rfl) (by kernel_rfl) (by kernel_rfl) (by kernel_rfl) (fun _ _ _ h => h) ?_ hS3 ?_; rotate_left; (focus (intro _ _ _ W HW; (try dsimp only at HW); go_simp; (try with_reducible rfl))); (try simp only [Act.put, List.setIfInBounds_toArray, List.set_cons_zero, List.set_cons_succ]))
      (refine wpAnyH_takeO (i := 11) (dst := (some 32)) (op := (Go.Op.extract (Go.Operand.tmp 21) 0)) (v := ?_) (by rfl) (by kernel_rfl) (by kernel_rfl) (by kernel_rfl) (fun _ _ _ h => h) ?_ hS3 ?_; rotate_left; (focus (intro _ _ _ W HW; (try dsimp only at HW); go_simp; (try with_reducible rfl))); (try simp only [Act.put, List.setIfInBounds_toArray, List.set_cons_zero, List.set_cons_succ]))
      (refine wpAnyH_takeO (i := 12) (dst := (some 33)) (op := (Go.Op.extract (Go.Operand.tmp 21) 1)) (v := ?_) (by rfl) (by kernel_rfl) (by kernel_rfl) (by kernel_rfl) (fun _ _ _ h => h) ?_ hS3 ?_; rotate_left; (focus (intro _ _ _ W HW; (try dsimp only at HW); go_simp; (try with_reducible rfl))); (try simp only [Act.put, List.setIfInBounds_toArray, List.set_cons_zero, List.set_cons_succ]))
      (refine wpAnyH_takeO (i := 13) (dst := (some 7)) (op := (Go.Op.assign (Go.Operand.tmp 32))) (v := ?_) (by rfl) (by kernel_rfl) (by kernel_rfl) (by kernel_rfl) (fun _ _ _ h => h) ?_ hS3 ?_; rotate_left; (focus (intro _ _ _ W HW; (try dsimp only at HW); go_simp; (try with_reducible rfl))); (try simp only [Act.put, List.setIfInBounds_toArray, List.set_cons_zero, List.set_cons_succ]))
      (refine wpAnyH_takeO (i := 14) (dst := (some 8)) (op := (Go.Op.assign (Go.Operand.tmp 33))) (v := ?_) (by rfl) (by kernel_rfl) (by kernel_rfl) (by kernel_rfl) (fun _ _ _ h => h) ?_ hS3 ?_; rotate_left; (focus (intro _ _ _ W HW; (try dsimp only at HW); go_simp; (try with_reducible rfl))); (try simp only [Act.put, List.setIfInBounds_toArray, List.set_cons_zero, List.set_cons_succ]))
      refine wpAnyH_done (by kernel_rfl) ?_ _
      have hj2 := hU2.get (show wr.drew.heap[j]? = some _ from HJ.out) HND.out
      have c2 : w2.cell? ⟨j, 2, none⟩ = some (.int .i64 J.size) := by rw [cell_lit w2 j 2 _ _ _ hj2]; rfl
      have f2 := frozen_lit w2 j 2 _ _ hj2
      have hU02 : Upd (j :: S0) wr w2 := (((Upd.drew [] wr).mono (T := S0) (by simp)).trans hU2 (fun i hi _ => hi)).mono (fun i hi _ => by simp [hi])
      have hS02 : Sub wr S0 S2 := hS2
      have hnj2 : j ∉ S2 := not_mem_off (hD2.off (e := 124) (by decide) (by decide)) hj2
      have hsub : Sub wr (j :: S0) (j :: S2) := fun q hq => by
        rcases List.mem_cons.1 hq with rfl | hq
        · exact .inl (by simp)
        · exact (hS02 q hq).imp_left (fun h => by simp [h])
      by_cases hk : k = 0
      · subst hk
        have hUs : Upd [j] w2 (w2.setCell ⟨j, 2, none⟩ (.int .i64 (framesB l).length)) := Upd.setCell _ _ _ (by simp)
        have HPP := Lib.hid (show JPost wr d j (j :: S0) (J.rewrite l) (.returned (.int .i64 (0 : Nat))) (w2.setCell ⟨j, 2, none⟩ (.int .i64 (framesB l).length)) from by
          rw [HF.out, if_pos rfl]
          refine ⟨rfl, j :: S2, ⟨S2, rfl, hD2.upd hUs (Off.cons_cells hj2 (by decide) (Off.nil _ _)) (fun q hq => by simp; rintro rfl; exact hnj2 hq), ?_⟩, hU02.trans hUs (fun i hi _ => by simp at hi; simp [hi]), hsub⟩
          rw [setCell_get hj2]; rfl)
        clear hD2 hU2 hS2 hU02 hsub hUs
        go_wp2_with fail
        go_ret
        exact HPP.out
      · have h9 : ((k : Int) == 0) = false := by simp; omega
        have HPP := Lib.hid (show JPost wr d j (j :: S0) (J.rewrite l) (.returned (.int .i64 k)) w2 from by
          rw [HF.out, if_neg hk]
          exact ⟨rfl, j :: S2, ⟨S2, rfl, hD2, hj2⟩, hU02, hsub⟩)
        clear hD2 hU2 hS2 hU02 hsub hk
        go_wp2_with fail
        go_ret
        exact HPP.out
end Go.Proofs.YthfbfdkjgkkpcaaGreat

namespace Go.Proofs.YthfbfdkjgkkpcaaGreat
open Go Go.RowKit

/-- The record of one key and its value. -/
def foldRec (m : List (List UInt8 × List UInt8)) (k : List UInt8) : List UInt8 := (encB [⟨k, false, (aget k m).getD []⟩]).1
def foldRecs (m : List (List UInt8 × List UInt8)) : List (List UInt8) := (sortK m).map (foldRec m)
def TSt.fold (T : TSt) : TSt × Nat :=
  if T.down then (T, 5) else ({ T with J := (T.J.rewrite (foldRecs T.m)).1, down := decide ((T.J.rewrite (foldRecs T.m)).2 = 5) }, (T.J.rewrite (foldRecs T.m)).2)
def FoldRel (w1 : World) (m : List (List UInt8 × List UInt8)) (ks : List (List UInt8)) (x v : Value) (wr : World) : Prop :=
  ∃ i : Nat, x = .int .i64 i ∧ i ≤ ks.length ∧ OwnRecs wr w1.heap.size v ((ks.take i).map (foldRec m)) ∧ Upd [] w1 wr
set_option maxRecDepth 100000 in
set_option maxHeartbeats 4000000 in
theorem table_fold (w : World) (d tb : Nat) (S : List Nat) (T : TSt) (h : TAt w d tb S T) (hk : ∀ p ∈ T.m, p.1.length ≤ maxLen) (hn : T.m.length ≤ 100000000)
    (henc : ∀ k ∈ sortK T.m, (encB [⟨k, false, (aget k T.m).getD []⟩]).2 = 0) (hv : ∀ k, ((aget k T.m).getD []).length ≤ 1073741824) (hname : T.J.name.length ≤ 1000) (hb : (framesB (foldRecs T.m)).length ≤ 100000000) (hsm : Small T.J.D 999000000) :
    Calls Tryz.prog 24 #[.pointer (some ⟨tb, 0, none⟩)] w (TPost w d tb S T.fold) := by
  have hup := table_up w d tb S T h
  by_cases hdn : T.down = true
  · rw [hdn] at hup
    have HP := Lib.hid (show TPost w d tb S T.fold (.returned (.int .i64 (5 : Nat))) w from by
      have : T.fold = (T, 5) := by unfold TSt.fold; rw [if_pos hdn]
      rw [this]
      exact ⟨rfl, S, h, Upd.refl _ _, Sub.refl _ _⟩)
    clear h hk hn henc hv hname hb hsm
    go_enter Tryz.func24, Tryz.ntmps24
    go_wp2_with (go_at_call 81; refine hup.mono ?_; rintro e w1 ⟨rfl, rfl⟩)
    go_ret
    exact HP.out
  have hdn' : T.down = false := by simpa using hdn
  obtain ⟨jb, mb, S0, hS, hmb, hJ, hM, ht⟩ := h.ex
  rw [hdn'] at hup ht
  have c0 : w.cell? ⟨tb, 0, none⟩ = some (.pointer (some ⟨jb, 0, none⟩)) := by rw [cell_lit w tb 0 _ _ _ ht]; rfl
  have c1 : w.cell? ⟨tb, 1, none⟩ = some (.map (some mb)) := by rw [cell_lit w tb 1 _ _ _ ht]; rfl
  have hn0 : tb ∉ S0 := not_mem_off (hJ.off (e := 146) (by decide) (by decide) (by decide)) ht
  have hmlt := hM.lt
  have hK := maps_keys w mb
  have hSo := sorted_keys w mb T.m hM hk (by omega)
  have hlen : (sortK T.m).length = T.m.length := by unfold sortK; simp
  have hrl : (foldRecs T.m).length = (sortK T.m).length := by unfold foldRecs; simp
  have hrp : ∀ p ∈ foldRecs T.m, p.length ≤ 1048568 := by
    intro p hp
    unfold foldRecs at hp
    obtain ⟨k, _, rfl⟩ := List.mem_map.1 hp
    exact encB_len _
  have hF : T.fold = ({ T with J := (T.J.rewrite (foldRecs T.m)).1, down := decide ((T.J.rewrite (foldRecs T.m)).2 = 5) }, (T.J.rewrite (foldRecs T.m)).2) := by unfold TSt.fold; rw [if_neg hdn]
  have hrw := fun (W : World) (v : Value) (hU : Upd [] w W) (hr : Recs W v (foldRecs T.m)) => journal_rewrite W d jb S0 T.J (hJ.upd0 hU) v (foldRecs T.m) hr hname (by rw [hrl, hlen]; omega) hb hrp hsm
  have hget : ∀ (W : World) (hU : Upd [] w W) (es : List (List UInt8 × Value)), True := fun _ _ _ => trivial
  have hfk : foldRecs T.m = (sortK T.m).map (foldRec T.m) := rfl
  generalize hks : sortK T.m = ks at *
  rw [hfk] at hrw hF
  rw [← hlen] at hSo hn
  generalize hrr : T.J.rewrite (ks.map (foldRec T.m)) = rr at *
  obtain ⟨J9, k9⟩ := rr
  dsimp only at hF
  have HN := Lib.hid hn; have HRW := Lib.hid hrw; have HE := Lib.hid henc; have HV := Lib.hid hv
  have HS := Lib.hid hS; have HMB := Lib.hid hmb; have HJ := Lib.hid hJ; have HM := Lib.hid hM; have HT := Lib.hid ht; have HF := Lib.hid hF; have HN0 := Lib.hid hn0
  have hd := hM.find
  obtain ⟨es, hW, _, _, hby⟩ := hd
  have HBY := Lib.hid hby
  clear hby h hk hn henc hv hname hb hsm hS hmb hJ hM ht hF hdn hdn' hlen hrl hrp hget hfk hks hrr hrw hn0 hK
  have hK := maps_keys w mb
  go_enter Tryz.func24, Tryz.ntmps24
  go_wp2_with (first
    | (go_at_call 81; refine hup.mono ?_; rintro e w1 ⟨rfl, rfl⟩)
    | (go_at_call 86; refine hK.mono ?_; rintro e w1 ⟨rfl, rfl⟩)
    | (go_at_call 85; refine hSo.mono ?_; rintro e w2 ⟨v1, rfl, hv1, hU1⟩; obtain ⟨ao1, cap1, hs1, _⟩ := (Rd.of_own hv1).shape; subst hs1))
  have hU2 : Upd [] w w2 := (Upd.alloc [] _ _).trans0 hU1
  have hR1 := Rd.of_own hv1
  clear hU1 hv1
  go_loopw [22, 4] (fun x v wr => FoldRel w2 T.m ks x v wr) (fun x _ _ => ks.length - (intOf x).toNat)
  case atStart => exact ⟨0, rfl, Nat.zero_le _, OwnRecs.nil _ _, Upd.refl _ _⟩
  case round =>
    obtain ⟨i, rfl, hi, hown, hU⟩ := hrel
    have hll := HN.out
    have hUr := hU2.trans0 hU
    by_cases hlt : i < ks.length
    · have htt : decide ((i : Int) < (ks.length : Int)) = true := by simp; omega
      obtain ⟨k, hki⟩ : ∃ k, ks[i]? = some k := ⟨_, List.getElem?_eq_getElem hlt⟩
      have hR : Rd wr 9 1 (.slice ao1 ks.length cap1) ks.length (ks.map encS) := hR1.upd0 hU
      have hku : (ks.map encS)[(i : Int).toNat]? = some (encS k) := by simp [hki]
      have hc1 := hUr.cell c1 (by simp)
      have hWr := hW.upd hUr (by simp)
      have hbv := HBY.out k
      have he0 := HE.out k (List.mem_of_getElem? hki)
      have hv0 := HV.out k
      have hstep : (ks.take (i + 1)).map (foldRec T.m) = (ks.take i).map (foldRec T.m) ++ [foldRec T.m k] := by rw [List.take_add_one, hki]; simp
      have hfr : foldRec T.m k = (encB [⟨k, false, (aget k T.m).getD []⟩]).1 := rfl
      have hol : ((ks.take i).map (foldRec T.m)).length + 1 ≤ 1000000001 := by simp; omega
      generalize hvv : (aget k es).getD (.slice none 0 0) = vv at *
      have hby := hbv.upd0 hUr
      obtain ⟨apv, cpv, hsv⟩ := By.val hby
      subst hsv
      generalize (aget k T.m).getD [] = vb at *
      have henc := fun (W : World) (v : Value) (hU : Upd [] wr W) (hrd : Rd W 60 3 v 1 [encS k, .bool false, .slice apv vb.length cpv]) => table_encode W v [⟨k, false, vb⟩] ⟨_, hrd, rfl, rfl, hby.upd0 hU, trivial⟩ (by simp)
      unfold EncPost at henc
      rw [he0] at henc
      rw [← hfr] at henc
      generalize foldRec T.m k = rec at *
      have HREL := Lib.hid (fun (v7 : Value) (w7 : World) (h7 : OwnRecs w7 w2.heap.size v7 ((ks.take i).map (foldRec T.m) ++ [rec])) (hU7 : Upd [] w2 w7) => show FoldRel w2 T.m ks (.int .i64 ((i : Int) + 1)) v7 w7 from
        ⟨i + 1, by simp, hlt, by rw [hstep]; exact h7, hU7⟩)
      obtain ⟨ao4, cap4, hs4⟩ := hown.recs.shape
      generalize hlq : (ks.take i).map (foldRec T.m) = lq at *
      subst hs4
      have HENC := Lib.hid henc
      have HOL := Lib.hid hol
      clear hbv he0 hv0 hstep hfr hki hol henc hi hlq
      go_wp2_with (first
        | ((with_reducible show wpList _ _ _ (⟨_, .indexAddr _ _ _, _, _, _, _⟩ :: _) _ _); refine wpl_indexAddr1 elStr rfl rfl hR rfl rfl (by omega) (by omega) _ hku ?_; intro ad hcell)
        | ((with_reducible show wpList _ _ _ (⟨_, .lookup _ _ _ _, _, _, _, _⟩ :: _) _ _); refine wpl_lookup mapTab rfl rfl hWr rfl k rfl _ hvv ?_)
        | ((with_reducible show wpList _ _ _ (⟨_, .buildSlice _ _ _, _, _, _, _⟩ :: _) _ _); (have hgo := hv3); refine wpl_lit elRec rfl rfl rfl (cs := [.slice ao3 rec.length cap3]) rfl rfl (by omega) ?_; intro v9 w9 hv9 hU9 _)
        | ((with_reducible show wpList _ _ _ (⟨_, .buildSlice _ _ _, _, _, _, _⟩ :: _) _ _); refine wpl_lit elTChg rfl rfl rfl (cs := [encS k, .bool false, .slice apv vb.length cpv]) rfl rfl (by omega) ?_; intro v5 w5 hv5 hU5 _; obtain ⟨ao5, cap5, hs5, _⟩ := (Rd.of_own hv5).shape; subst hs5)
        | (go_at_call 82; refine (HENC.out w5 _ hU5 (Rd.of_own hv5)).mono ?_; rintro e w6 ⟨v3, rfl, hv3, hU6⟩; obtain ⟨ao3, cap3, hs3⟩ := By.val hv3.by; subst hs3; (have hU56 := hU5.trans0 hU6))
        | ((with_reducible show wpList _ _ _ (⟨_, .call ⟨.builtin .append, _, _⟩, _, _, _, _⟩ :: _) _ _); (have hgo := hU9); refine wpl_append_rec rfl rfl (hU.trans0 (hU56.trans0 hU9)) (hown.upd0 (hU56.trans0 hU9)) rfl (Rd.of_own hv9) rfl (hv3.by.upd0 hU9) HOL.out ?_; intro v7 w7 hv7 hU7))
      exact ⟨HREL.out v7 w7 hv7 hU7, by simp [intOf]; omega⟩
    · have htt : decide ((i : Int) < (ks.length : Int)) = false := by simp; omega
      have hie : i = ks.length := by omega
      subst hie
      rw [List.take_length] at hown
      have hc0 := hUr.cell c0 (by simp)
      have hrw := HRW.out wr _ hUr hown.recs
      have HPP := Lib.hid (fun (w3 : World) (S0' : List Nat) (hJ3 : JAt w3 d jb S0' J9) (hU3 : Upd S0 wr w3) (hs3 : Sub wr S0 S0') => show TPost w d tb S T.fold (.returned (.int .i64 k9)) (w3.setCell ⟨tb, 2, none⟩ (.bool (decide (k9 = 5)))) from by
        rw [HF.out]
        have hM3 := (HM.out.upd hUr (Off.nil _ _) (by simp)).upd hU3 (HJ.out.upd0 hUr).off8 HMB.out
        exact table_shut HS.out HMB.out hmlt hJ3 hM3 (hU3.get (hUr.get HT.out (by simp)) HN0.out) (((hUr.mono (T := S0) (by simp)).trans hU3 (fun j hj _ => hj)).mono (fun j hj _ => by rw [HS.out]; simp [hj])) (fun q hq => (hs3 q hq).imp_right (fun h => Nat.le_trans hUr.size h)))
      have h4 : ((k9 : Int) == 5) = decide (k9 = 5) := by by_cases h5 : k9 = 5 <;> simp [h5]; omega
      have h6 : decide ((k9 : Int) = 5) = decide (k9 = 5) := by by_cases h5 : k9 = 5 <;> simp [h5]; omega
      have H6 := Lib.hid h6
      generalize hq5 : decide (k9 = 5) = q5 at *
      clear hq5
      go_wp2_with (go_at_call 87; refine hrw.mono ?_; rintro e w3 ⟨rfl, S3, hJ3, hU3, hS3⟩; (have hg3 := hU3.get (hUr.get HT.out (by simp)) HN0.out); (have c2' : w3.cell? ⟨tb, 2, none⟩ = some (.bool false) := by rw [cell_lit w3 tb 2 _ _ _ hg3]; rfl); (have f2' := frozen_lit w3 tb 2 _ _ hg3))
      go_ret
      first | exact HPP.out w3 S3 hJ3 hU3 hS3 | (rw [H6.out]; exact HPP.out w3 S3 hJ3 hU3 hS3)
end Go.Proofs.YthfbfdkjgkkpcaaGreat

namespace Go.Proofs.YthfbfdkjgkkpcaaGreat

theorem getB_putB (n : Nat) : ∀ k, getB (putB n k) = n % 256 ^ k
  | 0 => by simp [putB, getB, Nat.mod_one]
  | k + 1 => by
    unfold putB
    rw [getB_cons, putB_length, getB_putB n k, UInt8.toNat_ofNat', Nat.mod_eq_of_lt (a := n / 256 ^ k % 256) (by omega)]
    rw [Nat.pow_succ, Nat.mod_mul, Nat.mul_comm, Nat.add_comm]
theorem frame_get (p x : List UInt8) (h : p.length ≤ 1048576) : wordB (frameB p ++ x) 0 = some p.length ∧ wordB (frameB p ++ x) 4 = some (crcB (putB p.length 4 ++ p)) ∧ ((frameB p ++ x).drop 8).take p.length = p := by
  have l1 := putB_length p.length 4
  have l2 := putB_length (crcB (putB p.length 4 ++ p)) 4
  have g1 := getB_putB p.length 4
  have g2 := getB_putB (crcB (putB p.length 4 ++ p)) 4
  have h2 := (crcB_lt (putB p.length 4 ++ p)).lt
  have hlen := frameB_length p
  unfold frameB at hlen ⊢
  generalize putB p.length 4 = a at *
  generalize crcB (a ++ p) = s at *
  generalize putB s 4 = b at *
  refine ⟨?_, ?_, ?_⟩
  · unfold wordB
    rw [if_pos (by simp; omega), List.drop_zero, List.append_assoc, List.append_assoc, List.take_append_of_le_length (by omega), List.take_of_length_le (by omega), g1]
    congr 1
    omega
  · unfold wordB
    rw [if_pos (by simp; omega), List.append_assoc, List.append_assoc, List.drop_append_of_le_length (by omega), List.drop_of_length_le (by omega), List.nil_append, List.take_append_of_le_length (by omega), List.take_of_length_le (by omega), g2]
    congr 1
    omega
  · rw [show a ++ b ++ p ++ x = (a ++ b) ++ (p ++ x) from by simp, List.drop_append_of_le_length (by simp; omega), List.drop_of_length_le (by simp; omega), List.nil_append, List.take_append_of_le_length (by omega), List.take_of_length_le (by omega)]
theorem frame1_frame (p x : List UInt8) (h : p.length ≤ 1048576) : frame1 (frameB p ++ x) = some p := by
  obtain ⟨h1, h2, h3⟩ := frame_get p x h
  unfold frame1
  rw [h1, h2]
  dsimp only
  rw [h3, if_pos ⟨h, by simp [frameB_length]; omega, rfl⟩]
theorem frame1_cut (p : List UInt8) (h : p.length ≤ 1048576) (q : Nat) (hq : q < (frameB p).length) : frame1 ((frameB p).take q) = none := by
  have hl := frameB_length p
  by_cases h8 : q < 8
  · unfold frame1
    have : wordB ((frameB p).take q) 4 = none := by unfold wordB; rw [if_neg (by simp; omega)]
    rw [this]
    split
    · rename_i h5; cases h5
    · rfl
  · obtain ⟨h1, _, _⟩ := frame_get p [] h
    rw [List.append_nil] at h1
    have h0 : wordB ((frameB p).take q) 0 = some p.length := by
      unfold wordB at h1 ⊢
      rw [if_pos (by omega)] at h1
      rw [if_pos (by simp; omega), List.drop_zero, List.take_take, Nat.min_eq_left (by omega)]
      refine Eq.trans ?_ h1
      exact congrArg (fun z => some (getB (List.take 4 z))) List.drop_zero.symm
    unfold frame1
    rw [h0]
    split
    · rename_i n s h5 h6
      have h5 := Option.some.inj h5
      subst h5
      rw [if_neg (fun hcc => by have h9 := hcc.2.1; rw [List.length_take] at h9; omega)]
    · rfl
theorem frame1_more {b p : List UInt8} (x : List UInt8) (h : frame1 b = some p) : frame1 (b ++ x) = some p := by
  have hl := (frame1_len h).1
  have w : ∀ n, n + 4 ≤ b.length → wordB (b ++ x) n = wordB b n := by
    intro n hn
    unfold wordB
    rw [if_pos hn, if_pos (by simp; omega), List.drop_append_of_le_length (by omega), List.take_append_of_le_length (by simp; omega)]
  have e8 : ∀ n, n ≤ b.length - 8 → ((b ++ x).drop 8).take n = (b.drop 8).take n := by
    intro n hn
    rw [List.drop_append_of_le_length (by omega), List.take_append_of_le_length (by simp; omega)]
  unfold frame1 at h ⊢
  rw [w 0 (by omega), w 4 (by omega)]
  split at h
  · rename_i n s h0 h4
    split at h
    · rename_i hc
      rw [e8 n hc.2.1, if_pos ⟨hc.1, by simp; omega, hc.2.2⟩]
      exact h
    · cases h
  · cases h
theorem scan_more : ∀ (n : Nat) (b x : List UInt8), b.length ≤ n → (scanB b).2 = b.length → scanB (b ++ x) = ((scanB b).1 ++ (scanB x).1, b.length + (scanB x).2) := by
  intro n
  induction n with
  | zero =>
    intro b x hb _
    have : b = [] := List.eq_nil_of_length_eq_zero (by omega)
    subst this
    rw [show scanB ([] : List UInt8) = ([], 0) from scanB_none (by decide)]
    simp
  | succ n ih =>
    intro b x hb hs
    cases hf : frame1 b with
    | none =>
      rw [scanB_none hf] at hs
      have : b = [] := List.eq_nil_of_length_eq_zero hs.symm
      subst this
      rw [scanB_none hf]
      simp
    | some p =>
      have hl := (frame1_len hf).1
      have hs2 := hs
      rw [scanB_some hf] at hs2
      dsimp only at hs2
      rw [scanB_some (frame1_more x hf), scanB_some hf, List.drop_append_of_le_length (by omega), ih (b.drop (8 + p.length)) x (by simp; omega) (by simp; omega)]
      simp
      omega
theorem scan_nil : scanB ([] : List UInt8) = ([], 0) := scanB_none (by decide)
theorem scan_frames : ∀ (l : List (List UInt8)), (∀ p ∈ l, p.length ≤ 1048576) → scanB (framesB l) = (l, (framesB l).length)
  | [], _ => by rw [show framesB [] = [] from rfl, scanB_none (by decide)]; rfl
  | p :: l, h => by
    have hp := h p (by simp)
    have hf : framesB (p :: l) = frameB p ++ framesB l := by simp [framesB]
    have hl := frameB_length p
    rw [hf, scanB_some (frame1_frame p _ hp), List.drop_append_of_le_length (by omega), List.drop_of_length_le (by omega), List.nil_append, scan_frames l (fun q hq => h q (by simp [hq]))]
    simp
    omega
/-- Bytes and part of a record's frame. -/
theorem scan_part (b p : List UInt8) (h : p.length ≤ 1048576) (hc : (scanB b).2 = b.length) (q : Nat) : scanB (b ++ (frameB p).take q) = if q < (frameB p).length then ((scanB b).1, b.length) else ((scanB b).1 ++ [p], b.length + (frameB p).length) := by
  rw [scan_more b.length b _ (Nat.le_refl _) hc]
  split
  · rename_i hq
    rw [scanB_none (frame1_cut p h q hq)]
    simp
  · rename_i hq
    rw [List.take_of_length_le (by omega)]
    have h1 := frame1_frame p [] h
    rw [List.append_nil] at h1
    have hl := frameB_length p
    rw [scanB_some h1, List.drop_of_length_le (by omega), scan_nil]
    simp
    omega
theorem recsB_more (m : List (List UInt8 × List UInt8)) (x : List (List UInt8)) : ∀ (l : List (List UInt8)) , recsB m (l ++ x) = (recsB m l).bind (fun m' => recsB m' x) := by
  intro l
  induction l generalizing m with
  | nil => rfl
  | cons r l ih =>
    simp only [List.cons_append, recsB]
    cases decB r with
    | none => rfl
    | some c => exact ih _
/-- A number comes back from its bytes. -/
theorem rc_count : ∀ (j n i acc : Nat) (x : List UInt8), n < 128 ^ (j + 1) → i + j ≤ 8 → (i = 0 ∨ 0 < n) → readCountGo (countB n ++ x) i acc = (acc + n * 128 ^ i, i + (countB n).length, 0) := by
  intro j
  induction j with
  | zero =>
    intro n i acc x hn hi hz
    have hn' : n < 128 := by simpa using hn
    rw [countB_lt hn']
    simp only [List.cons_append, List.nil_append, readCountGo]
    rw [show (UInt8.ofNat n).toNat = n from by simp; omega]
    rw [if_neg (by omega), if_pos hn', if_neg (by omega), Nat.mod_eq_of_lt hn']
    simp
  | succ j ih =>
    intro n i acc x hn hi hz
    by_cases h1 : n < 128
    · exact (by
        rw [countB_lt h1]
        simp only [List.cons_append, List.nil_append, readCountGo]
        rw [show (UInt8.ofNat n).toNat = n from by simp; omega]
        rw [if_neg (by omega), if_pos h1, if_neg (by omega), Nat.mod_eq_of_lt h1]
        simp)
    · have hd : n / 128 < 128 ^ (j + 1) := by
        rw [Nat.div_lt_iff_lt_mul (by omega)]
        rw [Nat.pow_succ] at hn
        exact hn
      rw [countB_ge h1]
      simp only [List.cons_append, readCountGo]
      rw [show (UInt8.ofNat (128 + n % 128)).toNat = 128 + n % 128 from by simp; omega]
      rw [if_neg (by omega), if_neg (by omega), ih (n / 128) (i + 1) _ x hd (by omega) (.inr (by omega))]
      simp only [List.length_cons, Prod.mk.injEq, and_true]
      refine ⟨?_, by omega⟩
      rw [Nat.pow_succ, show (128 + n % 128) % 128 = n % 128 from by omega]
      have := Nat.div_add_mod n 128
      calc acc + n % 128 * 128 ^ i + n / 128 * (128 ^ i * 128) = acc + (128 * (n / 128) + n % 128) * 128 ^ i := by
            rw [Nat.add_mul, Nat.add_assoc, Nat.add_comm (n % 128 * 128 ^ i), Nat.mul_comm (128 ^ i) 128, ← Nat.mul_assoc, Nat.mul_comm (n / 128) 128]
        _ = acc + n * 128 ^ i := by rw [this]
theorem rc_back (n : Nat) (h : n ≤ 1000000000) (x : List UInt8) : readCountB (countB n ++ x) = (n, (countB n).length, 0) := by
  unfold readCountB
  rw [rc_count 4 n 0 0 x (by omega) (by omega) (.inl rfl)]
  simp
theorem rt_back (p x : List UInt8) (most : Nat) (h : p.length ≤ most) (hm : most ≤ 1000000000) : readTextB (textB p ++ x) most = (p, (textB p).length, 0) := by
  unfold readTextB textB
  rw [List.append_assoc, rc_back p.length (by omega)]
  dsimp only
  rw [if_neg (by simp), if_neg (by omega), if_neg (by simp), List.drop_append_of_le_length (by omega), List.drop_of_length_le (by omega), List.nil_append, List.take_append_of_le_length (by omega), List.take_of_length_le (by omega)]
  simp
/-- A change as it comes back. -/
def normC (c : TChg) : TChg := if c.gone then ⟨c.key, true, []⟩ else c
theorem dec_step (n : Nat) (c : TChg) (hb : badChg c = false) (x : List UInt8) (out : List TChg) : decGo (n + 1) (encStep c ++ x) out = decGo n x (out ++ [normC c]) := by
  have hk : c.key ≠ [] ∧ c.key.length ≤ 320 ∧ c.val.length ≤ 262144 := by
    unfold badChg at hb
    rw [decide_eq_false_iff_not] at hb
    refine ⟨fun e => hb (.inl e), ?_, ?_⟩
    · rcases Nat.lt_or_ge 320 c.key.length with h | h
      · exact absurd (.inr (.inl h)) hb
      · exact h
    · rcases Nat.lt_or_ge 262144 c.val.length with h | h
      · exact absurd (.inr (.inr h)) hb
      · exact h
  unfold encStep normC
  cases hg : c.gone with
  | true =>
    have h1 := rt_back c.key x 320 hk.2.1 (by omega)
    simp only [if_true, List.cons_append, decGo]
    rw [h1]
    dsimp only
    rw [if_neg (by decide), if_neg (by simp [hk.1]), if_pos (by decide), List.drop_append_of_le_length (by omega), List.drop_of_length_le (by omega), List.nil_append]
  | false =>
    have h1 := rt_back c.key (textB c.val ++ x) 320 hk.2.1 (by omega)
    have h2 := rt_back c.val x 262144 hk.2.2 (by omega)
    simp only [Bool.false_eq_true, if_false, List.cons_append, decGo, List.append_assoc]
    rw [h1]
    dsimp only
    rw [if_neg (by decide), if_neg (by simp [hk.1]), if_neg (by decide), List.drop_append_of_le_length (by omega), List.drop_of_length_le (by omega), List.nil_append, h2]
    dsimp only
    rw [if_neg (by simp), List.drop_append_of_le_length (by omega), List.drop_of_length_le (by omega), List.nil_append]
    obtain ⟨k, g, v⟩ := c
    dsimp only at hg
    subst hg
    rfl
theorem encGo_ok : ∀ (l : List TChg) (pre : List UInt8), (encGo pre l).2 = 0 → (encGo pre l).1 = pre ++ (l.map encStep).flatten ∧ ∀ c ∈ l, badChg c = false
  | [], pre, _ => by simp [encGo]
  | c :: r, pre, h => by
    unfold encGo at h ⊢
    split at h
    · simp at h
    rename_i hb
    split at h
    · simp at h
    rename_i hl
    rw [if_neg hb, if_neg hl]
    obtain ⟨h1, h2⟩ := encGo_ok r _ h
    refine ⟨by rw [h1]; simp, ?_⟩
    intro c' hc'
    rcases List.mem_cons.1 hc' with rfl | hc'
    · simpa using hb
    · exact h2 c' hc'
theorem dec_all : ∀ (l : List TChg) (out : List TChg), (∀ c ∈ l, badChg c = false) → decGo l.length ((l.map encStep).flatten) out = some (out ++ l.map normC, [])
  | [], out, _ => by simp [decGo]
  | c :: r, out, h => by
    rw [List.map_cons, List.flatten_cons, List.length_cons, dec_step _ _ (h c (by simp)), dec_all r _ (fun c' hc' => h c' (by simp [hc']))]
    simp
theorem dec_enc (l : List TChg) (h : (encB l).2 = 0) : decB (encB l).1 = some (l.map normC) := by
  have hlen := encB_len l
  unfold encB at h hlen ⊢
  by_cases h256 : 256 < l.length
  · rw [if_pos h256] at h; simp at h
  rw [if_neg h256] at h hlen ⊢
  obtain ⟨h1, h2⟩ := encGo_ok l _ h
  rw [h1] at hlen ⊢
  unfold decB
  rw [rc_back l.length (by omega)]
  dsimp only
  rw [if_neg (by omega), if_neg (by omega), List.drop_append_of_le_length (by omega), List.drop_of_length_le (by omega), List.nil_append, dec_all l [] h2]
  rfl
theorem tdo_norm (l : List TChg) : ∀ m, tdo m (l.map normC) = tdo m l := by
  unfold tdo
  induction l with
  | nil => intro m; rfl
  | cons c r ih =>
    intro m
    simp only [List.map_cons, List.foldl_cons]
    rw [ih]
    congr 1
    unfold normC tdo1
    cases hg : c.gone <;> simp [hg]
theorem recs_enc (m : List (List UInt8 × List UInt8)) (l : List TChg) (h : (encB l).2 = 0) : recsB m [(encB l).1] = some (tdo m l) := by
  unfold recsB
  rw [dec_enc l h]
  simp only [recsB, tdo_norm]
/-- The records of a fold come to the same pairs. -/
theorem fins_last (q : List UInt8 × List UInt8) : ∀ (l : List (List UInt8 × List UInt8)), (∀ p ∈ l, p.1 < q.1) → fins q l = l ++ [q]
  | [], _ => rfl
  | p :: l, h => by
    unfold fins
    rw [if_neg (fun h' => List.lt_irrefl _ (List.lt_trans h' (h p (by simp)))), fins_last q l (fun p' hp' => h p' (by simp [hp']))]
    rfl
theorem enc_one (k v : List UInt8) (hk : k ≠ []) (h1 : k.length ≤ 320) (h2 : v.length ≤ 262144) : (encB [⟨k, false, v⟩]).2 = 0 := by
  have h3 : badChg ⟨k, false, v⟩ = false := by unfold badChg; simp [hk]; omega
  have h4 := textB_len k (by omega)
  have h5 := textB_len v (by omega)
  have h6 : countB 1 = [1] := countB_lt (by omega)
  unfold encB
  simp only [List.length_cons, List.length_nil, encGo, h3, encStep, h6]
  rw [if_neg (by omega), if_neg (by simp), if_neg (by simp; omega)]
theorem fold_back : ∀ (m : List (List UInt8 × List UInt8)) (n : List (List UInt8 × List UInt8)), Srt (n ++ m) → (∀ p ∈ m, p.1 ≠ [] ∧ p.1.length ≤ 320 ∧ p.2.length ≤ 262144) → recsB n (m.map (fun p => (encB [⟨p.1, false, p.2⟩]).1)) = some (n ++ m)
  | [], n, _, _ => by simp [recsB]
  | p :: m, n, hs, h => by
    obtain ⟨hk, h1, h2⟩ := h p (by simp)
    have he := enc_one p.1 p.2 hk h1 h2
    have hlt : ∀ q ∈ n, q.1 < p.1 := fun q hq => (List.pairwise_append.1 hs).2.2 q hq p (by simp)
    have hd : tdo n [⟨p.1, false, p.2⟩] = n ++ [p] := by
      show tdo1 n ⟨p.1, false, p.2⟩ = _
      unfold tdo1 fput
      simp only [Bool.false_eq_true, if_false]
      rw [fdel_none, fins_last _ _ hlt]
      intro hm
      obtain ⟨q, hq, hqe⟩ := List.mem_map.1 hm
      exact List.lt_irrefl _ (hqe ▸ hlt q hq)
    have := recsB_more n (m.map (fun p => (encB [⟨p.1, false, p.2⟩]).1)) [(encB [⟨p.1, false, p.2⟩]).1]
    rw [List.singleton_append] at this
    rw [List.map_cons, this, recs_enc n _ he, hd, Option.bind_some, fold_back m (n ++ [p]) (by simpa using hs) (fun q hq => h q (by simp [hq]))]
    simp
theorem foldRecs_srt {m : List (List UInt8 × List UInt8)} (hs : Srt m) : foldRecs m = m.map (fun p => (encB [⟨p.1, false, p.2⟩]).1) := by
  unfold foldRecs
  rw [sortK_srt hs, List.map_map]
  apply List.map_congr_left
  intro p hp
  show foldRec m p.1 = _
  unfold foldRec
  rw [(aget_some hs.nodup).2 (show (p.1, p.2) ∈ m from hp)]
  rfl
theorem fold_recs {m : List (List UInt8 × List UInt8)} (hs : Srt m) (h : ∀ p ∈ m, p.1 ≠ [] ∧ p.1.length ≤ 320 ∧ p.2.length ≤ 262144) : recsB [] (foldRecs m) = some m := by
  rw [foldRecs_srt hs]
  have := fold_back m [] (by simpa using hs) h
  simpa using this
theorem framesB_len_le : ∀ (l : List (List UInt8)) (n : Nat), (∀ p ∈ l, p.length + 8 ≤ n) → (framesB l).length ≤ n * l.length
  | [], n, _ => by simp [framesB]
  | p :: l, n, h => by
    have hf : framesB (p :: l) = frameB p ++ framesB l := by simp [framesB]
    have h1 := h p (by simp)
    have h2 := framesB_len_le l n (fun q hq => h q (by simp [hq]))
    have h3 := frameB_length p
    rw [hf, List.length_append, List.length_cons, Nat.mul_add]
    omega
end Go.Proofs.YthfbfdkjgkkpcaaGreat

namespace Go.Proofs.YthfbfdkjgkkpcaaGreat
open Go Go.RowKit

theorem getB_inj : ∀ (x y : List UInt8), x.length = y.length → getB x = getB y → x = y
  | [], [], _, _ => rfl
  | [], _ :: _, h, _ => by simp at h
  | _ :: _, [], h, _ => by simp at h
  | c :: r, d :: s, h, hg => by
    simp only [List.length_cons] at h
    have hl : r.length = s.length := by omega
    rw [getB_cons, getB_cons, ← hl] at hg
    have h1 := getB_lt r
    have h2 := getB_lt s
    rw [← hl] at h2
    have hc : c.toNat = d.toNat := by
      have e1 : (c.toNat * 256 ^ r.length + getB r) / 256 ^ r.length = c.toNat := by
        rw [Nat.mul_comm, Nat.mul_add_div (by omega), Nat.div_eq_of_lt h1, Nat.add_zero]
      have e2 : (d.toNat * 256 ^ r.length + getB s) / 256 ^ r.length = d.toNat := by
        rw [Nat.mul_comm, Nat.mul_add_div (by omega), Nat.div_eq_of_lt h2, Nat.add_zero]
      rw [← e1, ← e2, hg]
    rw [hc] at hg
    rw [UInt8.toNat_inj.1 hc, getB_inj r s hl (by omega)]
theorem putB_getB (x : List UInt8) : putB (getB x) x.length = x := by
  refine getB_inj _ _ (putB_length _ _) ?_
  rw [getB_putB, Nat.mod_eq_of_lt (getB_lt x)]
/-- A frame stands where it is the frame of its bytes. -/
theorem frame_same {b : List UInt8} {n : Nat} (h8 : 8 ≤ b.length) (h0 : getB (b.take 4) = n) (hn : n ≤ b.length - 8) (hm : n ≤ 1048576) :
    frame1 b = if frameB ((b.drop 8).take n) = b.take (8 + n) then some ((b.drop 8).take n) else none := by
  have w0 : wordB b 0 = some n := by unfold wordB; rw [if_pos (by omega), List.drop_zero, h0]
  have w4 : wordB b 4 = some (getB ((b.drop 4).take 4)) := by unfold wordB; rw [if_pos (by omega)]
  have hq : ((b.drop 8).take n).length = n := by simp; omega
  unfold frame1
  rw [w0, w4]
  dsimp only
  have e1 : putB n 4 = b.take 4 := by
    have := putB_getB (b.take 4)
    rw [h0, show (b.take 4).length = 4 from by simp; omega] at this
    exact this
  have e2 : b.take (8 + n) = b.take 4 ++ ((b.drop 4).take 4 ++ (b.drop 8).take n) := by
    rw [show 8 + n = 4 + (4 + n) from by omega, List.take_add, List.take_add, List.drop_drop]
  have key : crcB (putB n 4 ++ (b.drop 8).take n) = getB ((b.drop 4).take 4) ↔ frameB ((b.drop 8).take n) = b.take (8 + n) := by
    rw [e2]
    unfold frameB
    rw [hq, ← e1, List.append_assoc]
    constructor
    · intro h
      rw [h]
      have := putB_getB ((b.drop 4).take 4)
      rw [show ((b.drop 4).take 4).length = 4 from by simp; omega] at this
      rw [this]
    · intro h
      have h1 := List.append_cancel_left h
      have h2 := (List.append_inj h1 (by rw [putB_length]; simp; omega)).1
      rw [← h2, getB_putB, Nat.mod_eq_of_lt]
      exact (crcB_lt _).lt
  by_cases hc : crcB (putB n 4 ++ (b.drop 8).take n) = getB ((b.drop 4).take 4)
  · rw [if_pos ⟨hm, hn, hc⟩, if_pos (key.1 hc)]
  · rw [if_neg (fun h => hc h.2.2), if_neg (fun h => hc (key.2 h))]
theorem rf_frame (w : World) (pv : Value) (p : List UInt8) (hp : ByX w pv p) (hl : p.length ≤ 1000000000) :
    Calls Tryz.prog 74 #[pv] w (RetBy w (frameB p)) := by
  obtain ⟨ao, cap, rfl, _⟩ := hp.shape
  have hU : U64 p.length := ⟨by omega⟩
  have HPL := Lib.hid (putB_length p.length 4)
  have hC := crcB_u64 (putB p.length 4 ++ p)
  have hcw := crcB_wrap (putB p.length 4 ++ p)
  have HB := Lib.hid (show (putB p.length 4).length + p.length ≤ 1073741824 by rw [HPL.out]; omega)
  have HB2 := Lib.hid (show (putB p.length 4 ++ putB (crcB (putB p.length 4 ++ p)) 4).length + p.length ≤ 1073741824 by simp [putB_length]; omega)
  have HPUT := Lib.hid (fun (W : World) => rf_put p.length 4 hU (by omega) (by omega) W)
  have HPUT2 := Lib.hid (fun (W : World) => rf_put (crcB (putB p.length 4 ++ p)) 4 hC (by omega) (by omega) W)
  clear hU hC
  go_enter Tryz.func74, Tryz.ntmps74
  go_wp2_with fail
  refine (HPUT.out _).mono ?_
  rintro e w1 ⟨v1, rfl, hv1, hU1⟩
  obtain ⟨ao1, cap1, hs1⟩ := By.val hv1.by
  subst hs1
  go_wp2_with fail
  refine (ref_Twin w1 _ (putB p.length 4) hv1.by.x (by rw [HPL.out]; omega)).mono ?_
  rintro e w2 ⟨v2, rfl, hv2, hU2⟩
  obtain ⟨ao2, cap2, hs2⟩ := By.val hv2.by
  subst hs2
  have hU12 := hU1.trans0 hU2
  go_wp2_with ((with_reducible show wpList _ _ _ (⟨_, .call ⟨.builtin .append, _, _⟩, _, _, _, _⟩ :: _) _ _); refine wpl_append_byx (w0 := w) elU8 rfl rfl hU12 (Own.mono hv2 hU1.size) rfl (hp.upd0 hU12) rfl HB.out ?_; intro v3 w3 hv3 hU23 hU3 hb3)
  have hv13 : OwnBy w3 w.heap.size (.slice ao1 (putB p.length 4).length cap1) (putB p.length 4) := Own.upd (Own.upd0 hv1 hU2) hU23 (fun g hg hm => by
    have h1 := hv1.lt g hg
    cases hv : (Value.slice ao2 (putB p.length 4).length cap2).ownBlock with
    | none => rw [hv] at hm; cases hm
    | some g2 =>
      rw [hv] at hm
      have h2 := hv2.lt g2 hv
      simp at hm
      omega)
  obtain ⟨ao3, cap3, hs3⟩ := By.val hv3.by
  subst hs3
  clear hv1 hv2 hU1 hU2 hU12 hU23 hb3
  refine (rf_crc w3 _ _ hv3.by).mono ?_
  rintro e w4 ⟨rfl, rfl⟩
  go_wp2_with fail
  refine (HPUT2.out _).mono ?_
  rintro e w5 ⟨v5, rfl, hv5, hU5⟩
  have hU35 := hU3.trans0 hU5
  go_wp2_with (first
    | ((with_reducible show wpList _ _ _ (⟨_, .call ⟨.builtin .append, _, _⟩, _, _, _, _⟩ :: _) _ _); (have _g := hU6); refine wpl_append_byx (w0 := w) elU8 rfl rfl hU6 hv6 rfl (hp.upd0 hU6) rfl HB2.out ?_; intro v7 w7 hv7 _ hU7 hb7)
    | ((with_reducible show wpList _ _ _ (⟨_, .call ⟨.builtin .append, _, _⟩, _, _, _, _⟩ :: _) _ _); refine wpl_append_by (w0 := w) elU8 rfl rfl hU35 (Own.upd0 hv13 hU5) rfl hv5.by rfl (by simp [putB_length]) ?_; intro v6 w6 hv6 _ hU6 hb6))
  go_ret
  exact ⟨_, rfl, hv7, hU7⟩

theorem frame1_short {b : List UInt8} (h : b.length < 8) : frame1 b = none := by
  unfold frame1
  rw [show wordB b 4 = none from by unfold wordB; rw [if_neg (by omega)]]
  cases wordB b 0 <;> rfl
theorem frame1_big {b : List UInt8} {n : Nat} (h0 : getB (b.take 4) = n) (h : ¬ (n ≤ 1048576 ∧ n ≤ b.length - 8)) : frame1 b = none := by
  unfold frame1
  split
  · rename_i n' s' h1 h2
    have : n' = n := by
      unfold wordB at h1
      split at h1
      · rw [List.drop_zero, h0] at h1; cases h1; rfl
      · cases h1
    subst this
    rw [if_neg (fun h3 => h ⟨h3.1, h3.2.1⟩)]
  · rfl
set_option maxRecDepth 100000 in
set_option maxHeartbeats 2000000 in
theorem rf_scan (w : World) (p : Value) (b : List UInt8) (hp : By w p b) (hl : b.length ≤ 100000000) :
    Calls Tryz.prog 67 #[p] w (ScanPost w (scanB b)) := by
  obtain ⟨ao, cap, rfl⟩ := By.val hp
  have HL := Lib.hid hl; clear hl
  go_enter Tryz.func67, Tryz.ntmps67
  go_wp2_with fail
  go_loopw [5, 4] (fun x v wr => ScanRel w b x v wr) (fun x _ _ => b.length - (intOf x).toNat)
  case atStart => exact ⟨0, [], rfl, Nat.zero_le _, Nat.zero_le _, OwnRecs.nil _ _, Upd.refl _ _, by simp⟩
  case round =>
    obtain ⟨i, o, rfl, hi, hoi, hown, hU, hsc⟩ := hrel
    have hll := HL.out
    have hbr := hp.upd0 hU
    obtain ⟨ao4, cap4, hs4⟩ := hown.recs.shape
    subst hs4
    have HSC := Lib.hid hsc; have HOWN := Lib.hid hown
    have HSTOP := Lib.hid (fun (hn : frame1 (b.drop i) = none) => show ScanPost w (scanB b) (.returned (.tuple #[.slice ao4 o.length cap4, .int .i64 i])) wr from by
      rw [HSC.out, scanB_none hn]
      exact ⟨_, rfl, by simpa using HOWN.out, hU⟩)
    have HSTOP2 := Lib.hid (fun (hn : frame1 (b.drop i) = none) (w' : World) (hU' : Upd [] wr w') => show ScanPost w (scanB b) (.returned (.tuple #[.slice ao4 o.length cap4, .int .i64 i])) w' from by
      rw [HSC.out, scanB_none hn]
      exact ⟨_, rfl, by simpa using HOWN.out.upd0 hU', hU.trans0 hU'⟩)
    clear hsc
    have hdl : (b.drop i).length = b.length - i := by simp
    by_cases h8 : i + 8 ≤ b.length
    · have hge : decide ((8 : Int) ≤ (b.length : Int) - (i : Int)) = true := by simp; omega
      obtain ⟨n, hn0⟩ : ∃ n, getB ((b.drop i).take 4) = n := ⟨_, rfl⟩
      have hn32 : n < 4294967296 := by
        have := getB_lt ((b.drop i).take 4)
        rw [hn0, show ((b.drop i).take 4).length = 4 from by simp; omega] at this
        omega
      have HG := Lib.hid (fun (v : Value) (h : By wr v ((b.drop i).take 4)) => rf_get wr v _ h (by simp; omega))
      rw [hn0] at HG
      by_cases hn : n ≤ 1048576
      · have c1 : decide ((1048576 : Int) < (n : Int)) = false := by simp; omega
        by_cases hnl : n ≤ (b.drop i).length - 8
        · have hle : i + 8 + n ≤ b.length := by omega
          have c2 : decide ((b.length : Int) - (i : Int) - 8 < (n : Int)) = false := by simp; omega
          have hfs := frame_same (by omega) hn0 hnl hn
          rw [List.drop_drop] at hfs
          have hql : ((b.drop (i + 8)).take n).length = n := by simp; omega
          obtain ⟨q, hq⟩ : ∃ q, q = (b.drop (i + 8)).take n := ⟨_, rfl⟩
          rw [← hq] at hfs hql
          have HQ := Lib.hid hq
          have HQL := Lib.hid hql
          have HFL := Lib.hid (frameB_length q)
          clear hq
          have HTW := Lib.hid (fun (v : Value) (h : By wr v q) => ref_Twin wr v q h.x (by rw [hql]; omega))
          have HFR := Lib.hid (fun (W : World) (v : Value) (h : By W v q) => rf_frame W v q h.x (by rw [hql]; omega))
          obtain ⟨f, hf⟩ : ∃ f, f = frameB q := ⟨_, rfl⟩
          rw [← hf] at hfs HFR HFL
          have HSM := Lib.hid (fun (W : World) (v u : Value) (h1 : By W v f) (h2 : By W u ((b.drop i).take (8 + n))) => ref_Same W v u f _ h1.x h2.x (by rw [HFL.out, hql]; omega))
          have HF := Lib.hid hf
          clear hf hql hnl
          by_cases hs : f = (b.drop i).take (8 + n)
          · rw [if_pos hs] at hfs
            have hstep : scanB b = ((o ++ [q]) ++ (scanB (b.drop (i + (8 + n)))).1, (i + (8 + n)) + (scanB (b.drop (i + (8 + n)))).2) := by
              rw [HSC.out, scanB_some hfs, HQL.out, List.drop_drop]
              simp [Nat.add_assoc]
            have HREL := Lib.hid (fun (v7 : Value) (w7 : World) (h7 : OwnRecs w7 w.heap.size v7 (o ++ [q])) (hU7 : Upd [] w w7) => show ScanRel w b (.int .i64 ((i : Int) + 8 + (n : Int))) v7 w7 from
              ⟨i + (8 + n), o ++ [q], by simp; omega, by omega, by simp; omega, h7, hU7, hstep⟩)
            have HOL := Lib.hid (show o.length + 1 ≤ 1000000001 by omega)
            rw [decide_eq_true hs] at HSM
            clear hfs hstep hn0 hs
            go_wp2_with ((with_reducible show wpList _ _ _ (⟨_, .slice _ _ _ _ _, _, _, _, _⟩ :: _) _ _); refine wpl_cut_by (n := i) (m := 4) elU8 rfl rfl hbr rfl rfl rfl (by omega) (by omega) (by omega) ?_; intro v1 hb1 _)
            refine (HG.out _ hb1).mono ?_
            rintro e w2 ⟨rfl, rfl⟩
            clear hb1
            go_wp2_with ((with_reducible show wpList _ _ _ (⟨_, .slice _ _ _ _ _, _, _, _, _⟩ :: _) _ _); refine wpl_cut_by (n := i + 8) (m := n) elU8 rfl rfl hbr rfl rfl rfl (by omega) (by omega) hle ?_; intro v3 hb3 _; rw [← HQ.out] at hb3)
            refine (HTW.out _ hb3).mono ?_
            rintro e w4 ⟨v4, rfl, hv4, hU4⟩
            obtain ⟨ao5, cap5, hs5⟩ := By.val hv4.by
            subst hs5
            clear hb3
            go_wp2_with fail
            refine (HFR.out w4 _ hv4.by).mono ?_
            rintro e w6 ⟨v6, rfl, hv6, hU6⟩
            have hU46 := hU4.trans0 hU6
            have hbr6 := hbr.upd0 hU46
            go_wp2_with ((with_reducible show wpList _ _ _ (⟨_, .slice _ _ _ _ _, _, _, _, _⟩ :: _) _ _); refine wpl_cut_by (n := i) (m := 8 + n) elU8 rfl rfl hbr6 rfl rfl rfl (by omega) (by omega) (by omega) ?_; intro v7 hb7 _)
            refine (HSM.out w6 _ _ hv6.by hb7).mono ?_
            rintro e w8 ⟨rfl, hU8⟩
            have hU48 := hU46.trans0 hU8
            have hUw8 := hU.trans0 hU48
            have hown8 := HOWN.out.upd0 hU48
            have hq8 := (hv4.by.upd0 hU6).upd0 hU8
            clear hb7 hv6 hv4 hU4 hU6 hU8 hU46 hbr6 hown
            go_wp2_with (first
              | ((with_reducible show wpList _ _ _ (⟨_, .buildSlice _ _ _, _, _, _, _⟩ :: _) _ _); refine wpl_lit elRec rfl rfl rfl (cs := [.slice ao5 q.length cap5]) rfl rfl (by omega) ?_; intro v9 w9 hv9 hU9 _)
              | ((with_reducible show wpList _ _ _ (⟨_, .call ⟨.builtin .append, _, _⟩, _, _, _, _⟩ :: _) _ _); refine wpl_append_rec rfl rfl (hUw8.trans0 hU9) (hown8.upd0 hU9) rfl (Rd.of_own hv9) rfl (hq8.upd0 hU9) HOL.out ?_; intro v10 w10 hv10 hU10))
            exact ⟨HREL.out _ _ hv10 hU10, by simp [intOf]; omega⟩
          · rw [if_neg hs] at hfs
            have HR := Lib.hid (HSTOP2.out hfs)
            rw [decide_eq_false hs] at HSM
            clear hfs hn0 hs
            go_wp2_with ((with_reducible show wpList _ _ _ (⟨_, .slice _ _ _ _ _, _, _, _, _⟩ :: _) _ _); refine wpl_cut_by (n := i) (m := 4) elU8 rfl rfl hbr rfl rfl rfl (by omega) (by omega) (by omega) ?_; intro v1 hb1 _)
            refine (HG.out _ hb1).mono ?_
            rintro e w2 ⟨rfl, rfl⟩
            clear hb1
            go_wp2_with ((with_reducible show wpList _ _ _ (⟨_, .slice _ _ _ _ _, _, _, _, _⟩ :: _) _ _); refine wpl_cut_by (n := i + 8) (m := n) elU8 rfl rfl hbr rfl rfl rfl (by omega) (by omega) hle ?_; intro v3 hb3 _; rw [← HQ.out] at hb3)
            refine (HTW.out _ hb3).mono ?_
            rintro e w4 ⟨v4, rfl, hv4, hU4⟩
            obtain ⟨ao5, cap5, hs5⟩ := By.val hv4.by
            subst hs5
            clear hb3
            go_wp2_with fail
            refine (HFR.out w4 _ hv4.by).mono ?_
            rintro e w6 ⟨v6, rfl, hv6, hU6⟩
            have hU46 := hU4.trans0 hU6
            have hbr6 := hbr.upd0 hU46
            go_wp2_with ((with_reducible show wpList _ _ _ (⟨_, .slice _ _ _ _ _, _, _, _, _⟩ :: _) _ _); refine wpl_cut_by (n := i) (m := 8 + n) elU8 rfl rfl hbr6 rfl rfl rfl (by omega) (by omega) (by omega) ?_; intro v7 hb7 _)
            refine (HSM.out w6 _ _ hv6.by hb7).mono ?_
            rintro e w8 ⟨rfl, hU8⟩
            have hU48 := hU46.trans0 hU8
            clear hb7 hv6 hv4 hU4 hU6 hU8 hU46 hbr6 hown
            go_wp2_with fail
            go_ret2
            exact HR.out _ hU48
        · have c2 : decide ((b.length : Int) - (i : Int) - 8 < (n : Int)) = true := by simp; omega
          have HR := Lib.hid (HSTOP.out (frame1_big hn0 (fun h => hnl h.2)))
          clear hnl hn0
          go_wp2_with ((with_reducible show wpList _ _ _ (⟨_, .slice _ _ _ _ _, _, _, _, _⟩ :: _) _ _); refine wpl_cut_by (n := i) (m := 4) elU8 rfl rfl hbr rfl rfl rfl (by omega) (by omega) (by omega) ?_; intro v1 hb1 _)
          refine (HG.out _ hb1).mono ?_
          rintro e w2 ⟨rfl, rfl⟩
          clear hb1
          go_wp2_with fail
          go_ret2
          exact HR.out
      · have c1 : decide ((1048576 : Int) < (n : Int)) = true := by simp; omega
        have HR := Lib.hid (HSTOP.out (frame1_big hn0 (fun h => hn h.1)))
        clear hn0
        go_wp2_with ((with_reducible show wpList _ _ _ (⟨_, .slice _ _ _ _ _, _, _, _, _⟩ :: _) _ _); refine wpl_cut_by (n := i) (m := 4) elU8 rfl rfl hbr rfl rfl rfl (by omega) (by omega) (by omega) ?_; intro v1 hb1 _)
        refine (HG.out _ hb1).mono ?_
        rintro e w2 ⟨rfl, rfl⟩
        clear hb1
        go_wp2_with fail
        go_ret2
        exact HR.out
    · have hge : decide ((8 : Int) ≤ (b.length : Int) - (i : Int)) = false := by simp; omega
      have HR := Lib.hid (HSTOP.out (frame1_short (by omega)))
      go_wp2_with fail
      go_ret2
      exact HR.out
end Go.Proofs.YthfbfdkjgkkpcaaGreat

namespace Go.Proofs.YthfbfdkjgkkpcaaGreat
open Go Go.RowKit

section
variable {ops : Array Oper} {Q : Exit → Act → World → Prop} {a : Act} {w : World} {rest : List Oper} {o : Oper}
theorem wpl_append_pr (hw : Region.wanted o (yielded ops a.tmps) = true) {s x : Operand} (ho : o.op = .call { callee := .builtin .append, args := #[s, x], argTypes := #[46, 46] })
    {w0 : World} (hU : Upd [] w0 w) {v y pv : Value} {l : List (List UInt8 × List UInt8)} {p : List UInt8 × List UInt8} (hown : OwnPrs w w0.heap.size v l) (hs : a.eval s = v) (hR : Rd w 165 2 y 1 [encS p.1, pv]) (hx : a.eval x = y) (hpv : By w pv p.2) (hb : l.length + 1 ≤ 1000000001)
    (hK : ∀ v' w', OwnPrs w' w0.heap.size v' (l ++ [p]) → Upd [] w0 w' → wpList Tryz.prog ops Q rest (a.put o.dst v') w') : wpList Tryz.prog ops Q (o :: rest) a w := by
  obtain ⟨v', w', r1, r2, r3, r4⟩ := app_pr hU hown hR hpv hb o.type
  exact wpl_run hw (v := v') (w' := w') (by simp [execOp, ho, resolve, invoke, builtin, hs, hx, r1, Result.andThen]) (hK v' w' r2 r4)
end
theorem fdel_append {k : List UInt8} (a b : List (List UInt8 × List UInt8)) : fdel k (a ++ b) = fdel k a ++ fdel k b := by
  rw [fdel_eq_filter, fdel_eq_filter, fdel_eq_filter, List.filter_append]
theorem drop_take_snoc {m : List (List UInt8 × List UInt8)} {n k : Nat} {p : List UInt8 × List UInt8} (h : n ≤ k) (hp : m[k]? = some p) : (m.drop n).take (k + 1 - n) = (m.drop n).take (k - n) ++ [p] := by
  rw [show k + 1 - n = k - n + 1 from by omega, List.take_add_one, List.getElem?_drop, show n + (k - n) = k from by omega, hp]
  rfl
def DoRel (w : World) (l : List (List UInt8 × List UInt8)) (cs : List TChg) (x v : Value) (wr : World) : Prop := ∃ i : Nat, x = .int .i64 i ∧ i ≤ cs.length ∧ Prs wr v (tdo l (cs.take i)) ∧ Upd [] w wr
def CopyRel (w1 : World) (m : List (List UInt8 × List UInt8)) (n : Nat) (x v : Value) (wr : World) : Prop := ∃ k : Nat, x = .int .i64 k ∧ k ≤ n ∧ OwnPrs wr w1.heap.size v (m.take k) ∧ Upd [] w1 wr
def RestRel (w1 : World) (pre m : List (List UInt8 × List UInt8)) (key : List UInt8) (n : Nat) (x v : Value) (wr : World) : Prop :=
  ∃ k : Nat, x = .int .i64 k ∧ n ≤ k ∧ k ≤ m.length ∧ OwnPrs wr w1.heap.size v (pre ++ fdel key ((m.drop n).take (k - n))) ∧ Upd [] w1 wr
/-- What the second inner loop comes to. -/
theorem rest_done {m : List (List UInt8 × List UInt8)} (hS : Srt m) (c : TChg) : (m.take (pfind c.key m) ++ (if c.gone then [] else [(c.key, c.val)])) ++ fdel c.key ((m.drop (pfind c.key m)).take (m.length - pfind c.key m)) = tdo1 m c := by
  rw [← pdo1_eq hS, List.take_of_length_le (l := m.drop (pfind c.key m)) (by simp)]
  rfl

set_option maxRecDepth 100000 in
set_option maxHeartbeats 2000000 in
theorem ref_Do (w : World) (lv cv : Value) (l : List (List UInt8 × List UInt8)) (cs : List TChg) (hl : Prs w lv l) (hc : RChgs w cv cs) (hS : Srt l) (hn : l.length + cs.length ≤ 1000000000) (hv : ∀ c ∈ cs, c.val.length ≤ 1000000000) :
    Calls Tryz.prog 78 #[lv, cv] w fun e w' => ∃ v, e = .returned v ∧ Prs w' v (tdo l cs) ∧ Upd [] w w' := by
  obtain ⟨cells, hR, hC⟩ := hc
  obtain ⟨ao, cap, rfl, _⟩ := hR.shape
  have HV := Lib.hid hv; have HN := Lib.hid hn; have HS := Lib.hid hS; have HL := Lib.hid hl
  clear hv hn hS hl
  go_enter Tryz.func78, Tryz.ntmps78
  go_wp2_with fail
  go_loopw [5, 0] (fun x v wr => DoRel w l cs x v wr) (fun x _ _ => cs.length - (intOf x).toNat)
  case atStart => exact ⟨0, rfl, Nat.zero_le _, HL.out, Upd.refl _ _⟩
  case round =>
    obtain ⟨i, rfl, hi, hPm, hU⟩ := hrel
    obtain ⟨w1, rfl⟩ : ∃ w1, w1 = wr := ⟨wr, rfl⟩
    have hll := HN.out
    by_cases hlt : i < cs.length
    · have htt : decide ((i : Int) < (cs.length : Int)) = true := by simp; omega
      obtain ⟨c, hci⟩ : ∃ c, cs[i]? = some c := ⟨_, List.getElem?_eq_getElem hlt⟩
      obtain ⟨pv, c0, c1, c2, hpv⟩ := hC.get hci
      have hml : (tdo l (cs.take i)).length ≤ 1000000000 := by
        have := tdo_length (cs.take i) l
        simp at this; omega
      have hSm : Srt (tdo l (cs.take i)) := Srt.tdo HS.out _
      have hnext := tdo_take_succ l cs i c hci
      generalize hm : tdo l (cs.take i) = m at *
      have hcv := HV.out c (List.mem_of_getElem? hci)
      have hfind := ref_Find w1 u0 m hPm c.key hml
      have hRr : Rdx w1 3 (.slice ao cs.length cap) cs.length cells := hR.upd0 hU
      have hpr : ByX w1 pv c.val := hpv.upd0 hU
      have hple := pfind_le c.key m
      have HD := Lib.hid (rest_done hSm c)
      have HNX := Lib.hid hnext
      obtain ⟨mcells, hmR, hmC⟩ := hPm
      obtain ⟨mo, mcap, hms, _⟩ := hmR.shape
      subst hms
      obtain ⟨ap, cp, hsp, _⟩ := hpr.shape
      subst hsp
      generalize hat : pfind c.key m = n at *
      have HAT := Lib.hid hat
      clear hm hat hnext hSm hi
      go_wp2_with (first
        | ((with_reducible show wpList _ _ _ (⟨_, .indexAddr _ _ _, _, _, _, _⟩ :: _) _ _); refine wpl_indexAddrX elRChg rfl rfl hRr rfl rfl (by omega) (by omega) ?_; intro ad hcell hspot; (have k0 := hcell 0 (by omega)); (have k1 := hcell 1 (by omega)); (have k2 := hcell 2 (by omega)); rw [Int.toNat_natCast, c0] at k0; rw [Int.toNat_natCast, c1] at k1; rw [Int.toNat_natCast, c2] at k2; clear hcell; obtain ⟨gb, gof, gs⟩ := ad; cases hspot; simp only [Addr.add_lit, Nat.add_zero] at k0 k1 k2)
        | (go_at_call 140; refine hfind.mono ?_; rintro e w9 ⟨rfl, rfl⟩))
      go_loopw [8, 7] (fun x v W => CopyRel w1 m n x v W) (fun x _ _ => n - (intOf x).toNat)
      case atStart => exact ⟨0, rfl, Nat.zero_le _, OwnPrs.nil _ _, Upd.refl _ _⟩
      case round =>
        obtain ⟨k, rfl, hk, hown, hU1⟩ := hrel
        by_cases hkn : k < n
        · have htk : decide ((k : Int) < (n : Int)) = true := by simp; omega
          obtain ⟨p, hp⟩ : ∃ p, m[k]? = some p := ⟨_, List.getElem?_eq_getElem (by omega)⟩
          obtain ⟨qv, g0, g1, hqv⟩ := hmC.get hp
          have hmRr := hmR.upd0 hU1
          obtain ⟨aq, cq, hsq⟩ := By.val hqv
          subst hsq
          have HTK := Lib.hid (show m.take (k + 1) = m.take k ++ [p] by rw [List.take_add_one, hp]; rfl)
          have hlk : (m.take k).length + 1 ≤ 1000000001 := by simp; omega
          have HLK := Lib.hid hlk
          have hqr := hqv.upd0 hU1
          clear hlk
          go_wp2_with (first
            | ((with_reducible show wpList _ _ _ (⟨_, .indexAddr _ _ _, _, _, _, _⟩ :: _) _ _); refine wpl_indexAddr elPair rfl rfl hmRr rfl rfl (by omega) (by omega) ?_; intro ad hcell hspot; (have k0 := hcell 0 (by omega)); (have k1 := hcell 1 (by omega)); rw [Int.toNat_natCast, g0] at k0; rw [Int.toNat_natCast, g1] at k1; clear hcell; obtain ⟨gb, gof, gs⟩ := ad; cases hspot; simp only [Addr.add_lit, Nat.add_zero] at k0 k1)
            | ((with_reducible show wpList _ _ _ (⟨_, .buildSlice _ _ _, _, _, _, _⟩ :: _) _ _); refine wpl_lit elPair rfl rfl rfl (cs := [encS p.1, .slice aq p.2.length cq]) rfl rfl (by omega) ?_; intro v5 w5 hv5 hU5 _)
            | ((with_reducible show wpList _ _ _ (⟨_, .call ⟨.builtin .append, _, _⟩, _, _, _, _⟩ :: _) _ _); refine wpl_append_pr rfl rfl (hU1.trans0 hU5) (hown.upd0 hU5) rfl (Rd.of_own hv5) rfl (hqr.upd0 hU5) HLK.out ?_; intro v6 w6 hv6 hU6))
          exact ⟨⟨k + 1, by simp, hkn, by rw [HTK.out]; exact hv6, hU6⟩, by simp [intOf]; omega⟩
        · have htk : decide ((k : Int) < (n : Int)) = false := by simp; omega
          have hke : k = n := by omega
          subst hke
          obtain ⟨b2, o2, rfl, hc2⟩ := hR.at (by have := hR.1; omega)
          have j0 : (0 : Int) ≤ (i : Int) := by omega
          have j1 : (i : Int) < (cs.length : Int) := by omega
          have e0 := hc2 (i * 3 + 0) _ c0
          have e2 := hc2 (i * 3 + 2) _ c2
          rw [Nat.add_zero] at e0
          rw [← Nat.add_assoc] at e2
          cases hg : c.gone with
          | true =>
            have HPL := Lib.hid (show (m.take k ++ (if c.gone then [] else [(c.key, c.val)])).length ≤ k + 1 from by rw [hg]; simp; omega)
            rw [hg] at c1
            have HPRE := Lib.hid (show OwnPrs wr w1.heap.size u7 (m.take k ++ (if c.gone then [] else [(c.key, c.val)])) from by rw [hg]; simpa using hown)
            generalize hpre : m.take k ++ (if c.gone then [] else [(c.key, c.val)]) = pre at *
            obtain ⟨w2, rfl⟩ : ∃ w2, w2 = wr := ⟨wr, rfl⟩
            go_wp2_with ((with_reducible show wpList _ _ _ (⟨_, .indexAddr _ _ _, _, _, _, _⟩ :: _) _ _); refine wpl_indexAddrX elRChg rfl rfl (hRr.upd0 hU1) rfl rfl (by omega) (by omega) ?_; intro ad hcell hspot; (have k0 := hcell 0 (by omega)); (have k1 := hcell 1 (by omega)); (have k2 := hcell 2 (by omega)); rw [Int.toNat_natCast, c0] at k0; rw [Int.toNat_natCast, c1] at k1; rw [Int.toNat_natCast, c2] at k2; clear hcell; obtain ⟨gb, gof, gs⟩ := ad; cases hspot; simp only [Addr.add_lit, Nat.add_zero] at k0 k1 k2)
            go_loopw [9, 7] (fun x v W => RestRel w1 pre m c.key k x v W) (fun x _ _ => m.length - (intOf x).toNat)
            case atStart => exact ⟨k, rfl, Nat.le_refl _, hple, by rw [Nat.sub_self]; simpa [fdel] using HPRE.out, hU1⟩
            case round =>
              obtain ⟨j, rfl, hnj, hj, hown2, hU2⟩ := hrel
              have HU9 := Lib.hid (hU.trans0 hU2)
              by_cases hjl : j < m.length
              · have htj : decide ((j : Int) < (m.length : Int)) = true := by simp; omega
                obtain ⟨p, hp⟩ : ∃ p, m[j]? = some p := ⟨_, List.getElem?_eq_getElem hjl⟩
                obtain ⟨qv, g0, g1, hqv⟩ := hmC.get hp
                obtain ⟨b1, o1, rfl, hc1⟩ := hmR.x.at (by have := hmR.1; omega)
                have i0 : (0 : Int) ≤ (j : Int) := by omega
                have i1 : (j : Int) < (m.length : Int) := by omega
                have d1 := hU2.cell (hc1 (j * 2 + 0) _ g0) (by simp)
                have d2 := HU9.out.cell e0 (by simp)
                rw [Nat.add_zero] at d1
                have hsn := drop_take_snoc hnj hp
                by_cases hpk : p.1 = c.key
                · have hne : (!p.1 == c.key) = false := by simp [hpk]
                  have hR9 := Lib.hid (show RestRel w1 pre m c.key k (.int .i64 ((j : Int) + 1)) u7 wr.drew from ⟨j + 1, by simp, by omega, hjl, by
                    rw [hsn, fdel_append, show fdel c.key [p] = [] from by simp [fdel, hpk], List.append_nil]
                    exact hown2.upd0 (Upd.drew [] _), hU2.trans0 (Upd.drew [] _)⟩)
                  clear hpk hsn hc1 hc2 hp hown2
                  go_wp2_with fail
                  go_region_held3 (fun W => W.cell? ⟨b1, o1 + j * 2, none⟩ = some (encS p.1) ∧ W.cell? ⟨b2, o2 + i * 3, none⟩ = some (encS c.key)) (first | exact ⟨d1, d2⟩ | go_keep) (fail)
                  go_wp2_with fail
                  exact ⟨hR9.out, by simp [intOf]; omega⟩
                · have hne : (!p.1 == c.key) = true := by simp [hpk]
                  obtain ⟨aq, cq, hsq⟩ := By.val hqv
                  subst hsq
                  have hlk : (pre ++ fdel c.key ((m.drop k).take (j - k))).length + 1 ≤ 1000000001 := by
                    have h1 : (fdel c.key ((m.drop k).take (j - k))).length ≤ j - k := by
                      rw [fdel_eq_filter]
                      exact Nat.le_trans (List.length_filter_le _ _) (by simp; omega)
                    have h2 : pre.length ≤ k + 1 := HPL.out
                    rw [List.length_append]
                    omega
                  have HLK := Lib.hid hlk
                  have HSN := Lib.hid (show pre ++ fdel c.key ((m.drop k).take (j + 1 - k)) = pre ++ fdel c.key ((m.drop k).take (j - k)) ++ [p] from by
                    rw [hsn, fdel_append, show fdel c.key [p] = [p] from by simp [fdel, hpk], List.append_assoc])
                  have hmRr := hmR.upd0 (hU2.trans0 (Upd.drew [] wr))
                  have hqr := hqv.upd0 (hU2.trans0 (Upd.drew [] wr))
                  have hown3 := hown2.upd0 (Upd.drew [] wr)
                  have hU3 := hU2.trans0 (Upd.drew [] wr)
                  clear hlk hpk hsn hc1 hc2 hp hown2
                  go_wp2_with fail
                  go_region_held3 (fun W => W.cell? ⟨b1, o1 + j * 2, none⟩ = some (encS p.1) ∧ W.cell? ⟨b2, o2 + i * 3, none⟩ = some (encS c.key)) (first | exact ⟨d1, d2⟩ | go_keep) (fail)
                  go_wp2_with (first
                    | ((with_reducible show wpList _ _ _ (⟨_, .indexAddr _ _ _, _, _, _, _⟩ :: _) _ _); refine wpl_indexAddr elPair rfl rfl hmRr rfl rfl (by omega) (by omega) ?_; intro ad hcell hspot; (have k0 := hcell 0 (by omega)); (have k1 := hcell 1 (by omega)); rw [Int.toNat_natCast, g0] at k0; rw [Int.toNat_natCast, g1] at k1; clear hcell; obtain ⟨gb, gof, gs⟩ := ad; cases hspot; simp only [Addr.add_lit, Nat.add_zero] at k0 k1)
                    | ((with_reducible show wpList _ _ _ (⟨_, .buildSlice _ _ _, _, _, _, _⟩ :: _) _ _); refine wpl_lit elPair rfl rfl rfl (cs := [encS p.1, .slice aq p.2.length cq]) rfl rfl (by omega) ?_; intro v5 w5 hv5 hU5 _)
                    | ((with_reducible show wpList _ _ _ (⟨_, .call ⟨.builtin .append, _, _⟩, _, _, _, _⟩ :: _) _ _); refine wpl_append_pr rfl rfl (hU3.trans0 hU5) (hown3.upd0 hU5) rfl (Rd.of_own hv5) rfl (hqr.upd0 hU5) HLK.out ?_; intro v6 w6 hv6 hU6))
                  exact ⟨⟨j + 1, by simp, by omega, hjl, by rw [HSN.out]; exact hv6, hU6⟩, by simp [intOf]; omega⟩
              · have htj : decide ((j : Int) < (m.length : Int)) = false := by simp; omega
                have hje : j = m.length := by omega
                have hprs : Prs wr u7 (tdo l (cs.take (i + 1))) := by
                  rw [HNX.out, ← HD.out, ← hje]
                  exact hown2.prs
                have HP9 := Lib.hid hprs
                clear hprs hown2
                go_wp2_with fail
                exact ⟨⟨i + 1, by simp, hlt, HP9.out, HU9.out⟩, by simp [intOf]; omega⟩
          | false =>
            rw [hg] at c1
            have HPL := Lib.hid (show (m.take k ++ (if c.gone then [] else [(c.key, c.val)])).length ≤ k + 1 from by rw [hg]; simp; omega)
            have f0 := hU1.cell (hU.cell e0 (by simp)) (by simp)
            have f2 := hU1.cell (hU.cell e2 (by simp)) (by simp)
            have hlk : (m.take k).length + 1 ≤ 1000000001 := by simp; omega
            have HLK := Lib.hid hlk
            have hUd : Upd [] wr wr.drew := Upd.drew [] _
            have hS0 : wr.drew.cell? ⟨b2, o2 + i * 3, none⟩ = some (encS c.key) ∧ wr.drew.cell? ⟨b2, o2 + i * 3 + 2, none⟩ = some (.slice ap c.val.length cp) := ⟨f0, f2⟩
            clear hlk
            go_wp2_with ((with_reducible show wpList _ _ _ (⟨_, .indexAddr _ _ _, _, _, _, _⟩ :: _) _ _); refine wpl_indexAddrX elRChg rfl rfl (hRr.upd0 hU1) rfl rfl (by omega) (by omega) ?_; intro ad hcell hspot; (have k0 := hcell 0 (by omega)); (have k1 := hcell 1 (by omega)); (have k2 := hcell 2 (by omega)); rw [Int.toNat_natCast, c0] at k0; rw [Int.toNat_natCast, c1] at k1; rw [Int.toNat_natCast, c2] at k2; clear hcell; obtain ⟨gb, gof, gs⟩ := ad; cases hspot; simp only [Addr.add_lit, Nat.add_zero] at k0 k1 k2)
            refine wp_region_noPanic ?_
            refine wp_region_M 15 (fun W => W.cell? ⟨b2, o2 + i * 3, none⟩ = some (encS c.key) ∧ W.cell? ⟨b2, o2 + i * 3 + 2, none⟩ = some (.slice ap c.val.length cp)) (by kernel_rfl) ?_
            (refine wpAnyM_takeO (i := 0) (dst := (some 41)) (op := (Go.Op.move (Go.Operand.tmp 7))) (v := ?_) (by rfl) (by kernel_rfl) (by kernel_rfl) (by kernel_rfl) (by kernel_rfl) (by rfl) (fun _ _ _ h => h) ?_ hS0 ?_; rotate_left; (focus (intro _ _ _ W HW; (try dsimp only at HW); go_simp; (try with_reducible rfl))); (try simp only [Act.put, List.setIfInBounds_toArray, List.set_cons_zero, List.set_cons_succ]))
            (refine wpAnyM_takeO (i := 1) (dst := (some 42)) (op := (Go.Op.move (Go.Operand.tmp 1))) (v := ?_) (by rfl) (by kernel_rfl) (by kernel_rfl) (by kernel_rfl) (by kernel_rfl) (by rfl) (fun _ _ _ h => h) ?_ hS0 ?_; rotate_left; (focus (intro _ _ _ W HW; (try dsimp only at HW); go_simp; (try with_reducible rfl))); (try simp only [Act.put, List.setIfInBounds_toArray, List.set_cons_zero, List.set_cons_succ]))
            (refine wpAnyM_takeO (i := 2) (dst := (some 43)) (op := (Go.Op.move (Go.Operand.tmp 5))) (v := ?_) (by rfl) (by kernel_rfl) (by kernel_rfl) (by kernel_rfl) (by kernel_rfl) (by rfl) (fun _ _ _ h => h) ?_ hS0 ?_; rotate_left; (focus (intro _ _ _ W HW; (try dsimp only at HW); go_simp; (try with_reducible rfl))); (try simp only [Act.put, List.setIfInBounds_toArray, List.set_cons_zero, List.set_cons_succ]))
            (refine wpAnyM_takeO (i := 3) (dst := (some 44)) (op := (Go.Op.indexAddr 52 (Go.Operand.tmp 42) (Go.Operand.tmp 43))) (v := ?_) (by rfl) (by kernel_rfl) (by kernel_rfl) (by kernel_rfl) (by kernel_rfl) (by rfl) (fun _ _ _ h => h) ?_ hS0 ?_; rotate_left; (focus (intro _ _ _ W HW; (try dsimp only at HW); go_simp; (try with_reducible rfl))); (try simp only [Act.put, List.setIfInBounds_toArray, List.set_cons_zero, List.set_cons_succ]))
            (refine wpAnyM_takeO (i := 4) (dst := (some 45)) (op := (Go.Op.fieldAddr 72 (Go.Operand.tmp 44) 0)) (v := ?_) (by rfl) (by kernel_rfl) (by kernel_rfl) (by kernel_rfl) (by kernel_rfl) (by rfl) (fun _ _ _ h => h) ?_ hS0 ?_; rotate_left; (focus (intro _ _ _ W HW; (try dsimp only at HW); go_simp; (try with_reducible rfl))); (try simp only [Act.put, List.setIfInBounds_toArray, List.set_cons_zero, List.set_cons_succ]))
            (refine wpAnyM_takeO (i := 5) (dst := (some 46)) (op := (Go.Op.load 9 (Go.Operand.tmp 45))) (v := ?_) (by rfl) (by kernel_rfl) (by kernel_rfl) (by kernel_rfl) (by kernel_rfl) (by rfl) (fun _ _ _ h => h) ?_ hS0 ?_; rotate_left; (focus (intro _ _ _ W HW; (try dsimp only at HW); go_simp; (try with_reducible rfl))); (try simp only [Act.put, List.setIfInBounds_toArray, List.set_cons_zero, List.set_cons_succ]))
            (refine wpAnyM_takeO (i := 6) (dst := (some 47)) (op := (Go.Op.move (Go.Operand.tmp 1))) (v := ?_) (by rfl) (by kernel_rfl) (by kernel_rfl) (by kernel_rfl) (by kernel_rfl) (by rfl) (fun _ _ _ h => h) ?_ hS0 ?_; rotate_left; (focus (intro _ _ _ W HW; (try dsimp only at HW); go_simp; (try with_reducible rfl))); (try simp only [Act.put, List.setIfInBounds_toArray, List.set_cons_zero, List.set_cons_succ]))
            (refine wpAnyM_takeO (i := 7) (dst := (some 48)) (op := (Go.Op.move (Go.Operand.tmp 5))) (v := ?_) (by rfl) (by kernel_rfl) (by kernel_rfl) (by kernel_rfl) (by kernel_rfl) (by rfl) (fun _ _ _ h => h) ?_ hS0 ?_; rotate_left; (focus (intro _ _ _ W HW; (try dsimp only at HW); go_simp; (try with_reducible rfl))); (try simp only [Act.put, List.setIfInBounds_toArray, List.set_cons_zero, List.set_cons_succ]))
            (refine wpAnyM_takeO (i := 8) (dst := (some 49)) (op := (Go.Op.indexAddr 52 (Go.Operand.tmp 47) (Go.Operand.tmp 48))) (v := ?_) (by rfl) (by kernel_rfl) (by kernel_rfl) (by kernel_rfl) (by kernel_rfl) (by rfl) (fun _ _ _ h => h) ?_ hS0 ?_; rotate_left; (focus (intro _ _ _ W HW; (try dsimp only at HW); go_simp; (try with_reducible rfl))); (try simp only [Act.put, List.setIfInBounds_toArray, List.set_cons_zero, List.set_cons_succ]))
            (refine wpAnyM_takeO (i := 9) (dst := (some 50)) (op := (Go.Op.fieldAddr 72 (Go.Operand.tmp 49) 2)) (v := ?_) (by rfl) (by kernel_rfl) (by kernel_rfl) (by kernel_rfl) (by kernel_rfl) (by rfl) (fun _ _ _ h => h) ?_ hS0 ?_; rotate_left; (focus (intro _ _ _ W HW; (try dsimp only at HW); go_simp; (try with_reducible rfl))); (try simp only [Act.put, List.setIfInBounds_toArray, List.set_cons_zero, List.set_cons_succ]))
            (refine wpAnyM_takeO (i := 10) (dst := (some 51)) (op := (Go.Op.load 36 (Go.Operand.tmp 50))) (v := ?_) (by rfl) (by kernel_rfl) (by kernel_rfl) (by kernel_rfl) (by kernel_rfl) (by rfl) (fun _ _ _ h => h) ?_ hS0 ?_; rotate_left; (focus (intro _ _ _ W HW; (try dsimp only at HW); go_simp; (try with_reducible rfl))); (try simp only [Act.put, List.setIfInBounds_toArray, List.set_cons_zero, List.set_cons_succ]))
            refine wpAnyM_one (i := 11) (by kernel_rfl) ?_
            refine opM_call (i := 11) (dst := (some 52)) (op := (Go.Op.call { callee := (Go.Callee.value (Go.Operand.func 48)), args := #[(Go.Operand.tmp 51)], argTypes := #[36] })) (f := 48) (vs := #[.slice ap c.val.length cp]) (by rfl) (fun _ _ _ => by go_simp) ?_
            refine (ref_Twin _ _ c.val ((hpr.upd0 hU1).upd0 hUd) hcv).mono ?_
            rintro e w2 ⟨v2, rfl, hv2, hU2⟩
            have hS2 : w2.cell? ⟨b2, o2 + i * 3, none⟩ = some (encS c.key) ∧ w2.cell? ⟨b2, o2 + i * 3 + 2, none⟩ = some (.slice ap c.val.length cp) := ⟨hU2.cell hS0.1 (by simp), hU2.cell hS0.2 (by simp)⟩
            refine ⟨v2, rfl, .inr hS2, ?_⟩
            (try simp only [Act.put, List.setIfInBounds_toArray, List.set_cons_zero, List.set_cons_succ])
            obtain ⟨ao2, cap2, hs2⟩ := By.val hv2.by
            subst hs2
            obtain ⟨v3, w3, hr3, hv3, hU3⟩ := lit_row (P := Tryz.prog) elPair w2 (.agg #[encS c.key, .slice ao2 c.val.length cap2]) (cs := [encS c.key, .slice ao2 c.val.length cap2]) rfl rfl (by omega)
            have hS3 : w3.cell? ⟨b2, o2 + i * 3, none⟩ = some (encS c.key) ∧ w3.cell? ⟨b2, o2 + i * 3 + 2, none⟩ = some (.slice ap c.val.length cp) := ⟨hU3.cell hS2.1 (by simp), hU3.cell hS2.2 (by simp)⟩
            have hU13 := ((hU1.trans0 hUd).trans0 hU2).trans0 hU3
            obtain ⟨v4, w4, hr4, hv4, hU4, hU04⟩ := app_pr (p := (c.key, c.val)) hU13 (((hown.upd0 hUd).upd0 hU2).upd0 hU3) hv3 (hv2.by.upd0 hU3) HLK.out 0
            have hS4 : w4.cell? ⟨b2, o2 + i * 3, none⟩ = some (encS c.key) ∧ w4.cell? ⟨b2, o2 + i * 3 + 2, none⟩ = some (.slice ap c.val.length cp) := ⟨hU04.cell (hU.cell e0 (by simp)) (by simp), hU04.cell (hU.cell e2 (by simp)) (by simp)⟩
            (refine wpAnyM_val (i := 12) (dst := (some 53)) (op := (Go.Op.build 165 #[(0, (Go.Operand.tmp 46)), (1, (Go.Operand.tmp 52))])) (by rfl) (by kernel_rfl) (fun _ _ _ => by go_simp; rfl) (.inr hS2) ?_; (try simp only [Act.put, List.setIfInBounds_toArray, List.set_cons_zero, List.set_cons_succ]))
            (refine wpAnyM_val (i := 13) (dst := (some 54)) (op := (Go.Op.buildSlice 46 1 #[(0, (Go.Operand.tmp 53))])) (by rfl) (by kernel_rfl) (ex_lit hr3 (by rfl)) (.inr hS3) ?_; (try simp only [Act.put, List.setIfInBounds_toArray, List.set_cons_zero, List.set_cons_succ]))
            (refine wpAnyM_val (i := 14) (dst := (some 55)) (op := (Go.Op.call { callee := (Go.Callee.builtin Go.Builtin.append), args := #[(Go.Operand.tmp 41), (Go.Operand.tmp 54)], argTypes := #[46, 46] })) (by rfl) (by kernel_rfl) (ex_append hr4 (by rfl) (by rfl)) (.inr hS4) ?_; (try simp only [Act.put, List.setIfInBounds_toArray, List.set_cons_zero, List.set_cons_succ]))
            (refine wpAnyM_val (i := 15) (dst := (some 7)) (op := (Go.Op.assign (Go.Operand.tmp 55))) (by rfl) (by kernel_rfl) (fun _ _ _ => by go_simp; rfl) (.inr hS4) ?_; (try simp only [Act.put, List.setIfInBounds_toArray, List.set_cons_zero, List.set_cons_succ]))
            refine wpAnyM_done (by kernel_rfl) ?_ _
            refine NoPanic.normal ?_
            have HPRE := Lib.hid (show OwnPrs w4 w1.heap.size v4 (m.take k ++ (if c.gone then [] else [(c.key, c.val)])) from by rw [hg]; simpa using hv4)
            generalize hpre : m.take k ++ (if c.gone then [] else [(c.key, c.val)]) = pre at *
            clear hv4 hr4 hS4 hU4 hS3 hr3 hv3 hU3 hS2 hU2 hv2 hS0 f0 f2 hown
            go_wp2_with fail
            go_loopw [9, 7] (fun x v W => RestRel w1 pre m c.key k x v W) (fun x _ _ => m.length - (intOf x).toNat)
            case atStart => exact ⟨k, rfl, Nat.le_refl _, hple, by rw [Nat.sub_self]; simpa [fdel] using HPRE.out, hU04⟩
            case round =>
              obtain ⟨j, rfl, hnj, hj, hown2, hU2⟩ := hrel
              have HU9 := Lib.hid (hU.trans0 hU2)
              by_cases hjl : j < m.length
              · have htj : decide ((j : Int) < (m.length : Int)) = true := by simp; omega
                obtain ⟨p, hp⟩ : ∃ p, m[j]? = some p := ⟨_, List.getElem?_eq_getElem hjl⟩
                obtain ⟨qv, g0, g1, hqv⟩ := hmC.get hp
                obtain ⟨b1, o1, rfl, hc1⟩ := hmR.x.at (by have := hmR.1; omega)
                have i0 : (0 : Int) ≤ (j : Int) := by omega
                have i1 : (j : Int) < (m.length : Int) := by omega
                have d1 := hU2.cell (hc1 (j * 2 + 0) _ g0) (by simp)
                have d2 := HU9.out.cell e0 (by simp)
                rw [Nat.add_zero] at d1
                have hsn := drop_take_snoc hnj hp
                by_cases hpk : p.1 = c.key
                · have hne : (!p.1 == c.key) = false := by simp [hpk]
                  have hR9 := Lib.hid (show RestRel w1 pre m c.key k (.int .i64 ((j : Int) + 1)) u7 wr.drew from ⟨j + 1, by simp, by omega, hjl, by
                    rw [hsn, fdel_append, show fdel c.key [p] = [] from by simp [fdel, hpk], List.append_nil]
                    exact hown2.upd0 (Upd.drew [] _), hU2.trans0 (Upd.drew [] _)⟩)
                  clear hpk hsn hc1 hc2 hp hown2
                  go_wp2_with fail
                  go_region_held3 (fun W => W.cell? ⟨b1, o1 + j * 2, none⟩ = some (encS p.1) ∧ W.cell? ⟨b2, o2 + i * 3, none⟩ = some (encS c.key)) (first | exact ⟨d1, d2⟩ | go_keep) (fail)
                  go_wp2_with fail
                  exact ⟨hR9.out, by simp [intOf]; omega⟩
                · have hne : (!p.1 == c.key) = true := by simp [hpk]
                  obtain ⟨aq, cq, hsq⟩ := By.val hqv
                  subst hsq
                  have hlk : (pre ++ fdel c.key ((m.drop k).take (j - k))).length + 1 ≤ 1000000001 := by
                    have h1 : (fdel c.key ((m.drop k).take (j - k))).length ≤ j - k := by
                      rw [fdel_eq_filter]
                      exact Nat.le_trans (List.length_filter_le _ _) (by simp; omega)
                    have h2 : pre.length ≤ k + 1 := HPL.out
                    rw [List.length_append]
                    omega
                  have HLK := Lib.hid hlk
                  have HSN := Lib.hid (show pre ++ fdel c.key ((m.drop k).take (j + 1 - k)) = pre ++ fdel c.key ((m.drop k).take (j - k)) ++ [p] from by
                    rw [hsn, fdel_append, show fdel c.key [p] = [p] from by simp [fdel, hpk], List.append_assoc])
                  have hmRr := hmR.upd0 (hU2.trans0 (Upd.drew [] wr))
                  have hqr := hqv.upd0 (hU2.trans0 (Upd.drew [] wr))
                  have hown3 := hown2.upd0 (Upd.drew [] wr)
                  have hU3 := hU2.trans0 (Upd.drew [] wr)
                  clear hlk hpk hsn hc1 hc2 hp hown2
                  go_wp2_with fail
                  go_region_held3 (fun W => W.cell? ⟨b1, o1 + j * 2, none⟩ = some (encS p.1) ∧ W.cell? ⟨b2, o2 + i * 3, none⟩ = some (encS c.key)) (first | exact ⟨d1, d2⟩ | go_keep) (fail)
                  go_wp2_with (first
                    | ((with_reducible show wpList _ _ _ (⟨_, .indexAddr _ _ _, _, _, _, _⟩ :: _) _ _); refine wpl_indexAddr elPair rfl rfl hmRr rfl rfl (by omega) (by omega) ?_; intro ad hcell hspot; (have k0 := hcell 0 (by omega)); (have k1 := hcell 1 (by omega)); rw [Int.toNat_natCast, g0] at k0; rw [Int.toNat_natCast, g1] at k1; clear hcell; obtain ⟨gb, gof, gs⟩ := ad; cases hspot; simp only [Addr.add_lit, Nat.add_zero] at k0 k1)
                    | ((with_reducible show wpList _ _ _ (⟨_, .buildSlice _ _ _, _, _, _, _⟩ :: _) _ _); refine wpl_lit elPair rfl rfl rfl (cs := [encS p.1, .slice aq p.2.length cq]) rfl rfl (by omega) ?_; intro v5 w5 hv5 hU5 _)
                    | ((with_reducible show wpList _ _ _ (⟨_, .call ⟨.builtin .append, _, _⟩, _, _, _, _⟩ :: _) _ _); refine wpl_append_pr rfl rfl (hU3.trans0 hU5) (hown3.upd0 hU5) rfl (Rd.of_own hv5) rfl (hqr.upd0 hU5) HLK.out ?_; intro v6 w6 hv6 hU6))
                  exact ⟨⟨j + 1, by simp, by omega, hjl, by rw [HSN.out]; exact hv6, hU6⟩, by simp [intOf]; omega⟩
              · have htj : decide ((j : Int) < (m.length : Int)) = false := by simp; omega
                have hje : j = m.length := by omega
                have hprs : Prs wr u7 (tdo l (cs.take (i + 1))) := by
                  rw [HNX.out, ← HD.out, ← hje]
                  exact hown2.prs
                have HP9 := Lib.hid hprs
                clear hprs hown2
                go_wp2_with fail
                exact ⟨⟨i + 1, by simp, hlt, HP9.out, HU9.out⟩, by simp [intOf]; omega⟩
    · have htt : decide ((i : Int) < (cs.length : Int)) = false := by simp; omega
      have hie : i = cs.length := by omega
      subst hie
      rw [List.take_length] at hPm
      go_wp2_with fail
      go_ret
      exact ⟨_, rfl, hPm, hU⟩
end Go.Proofs.YthfbfdkjgkkpcaaGreat
