/-
  An Apply that has room and power.
-/
import Derived.Test.YthfbfdkjgkkpcaaApply
namespace Go.Proofs.Ythfbfdkjgkkpcaa

/-- The power is on, and nothing cuts it; nothing is loose; the journal's file is there. -/
structure Fine (T : TSt) : Prop where
  up : T.down = false
  dup : T.J.D.down = false
  fuse : T.J.D.fuse = -1
  loose : T.J.D.loose = []
  nodup : (T.J.D.now.map (·.1)).Nodup
  file : (aget T.J.name T.J.D.now).isSome = true
theorem does_fine (D : DSt) (c : Chg) (h : D.fuse = -1) : D.does c = ({ D with fuse := -1, now := fdo D.now c, loose := D.loose ++ [c] }, 0) := by
  unfold DSt.does
  rw [if_neg (by omega), h]
  rfl
theorem sync_fine (D : DSt) (h1 : D.down = false) (h : D.fuse = -1) : D.sync = ({ D with fuse := -1, sure := D.now, loose := [] }, 0) := by
  unfold DSt.sync
  rw [if_neg (by simp [h1]), if_neg (by omega), h]
  rfl
theorem append_fine (J : JSt) (p : List UInt8) (h1 : J.D.down = false) (h2 : J.D.fuse = -1) (h3 : (aget J.name J.D.now).isSome = true) (h4 : p.length ≤ 1048568) (h5 : used J.D.now + (p.length + 8) ≤ J.D.room) :
    J.append p = (⟨{ J.D with fuse := -1, now := fdo J.D.now ⟨1, J.name, [], frameB p⟩, loose := J.D.loose ++ [⟨1, J.name, [], frameB p⟩] }, J.name, J.size + (8 + p.length)⟩, 0) := by
  have h6 : (aget J.name J.D.now).isNone = false := by
    cases hc : aget J.name J.D.now with
    | none => rw [hc] at h3; cases h3
    | some v => rfl
  have hl := frameB_length p
  have ha := DSt.append_full J.D J.name (frameB p) h1 h6 (by omega) (by omega)
  rw [does_fine _ _ h2] at ha
  unfold JSt.append
  rw [if_neg (by omega), ha]
  simp
/-- A journal behind a record that lasts. -/
def JSt.then (J : JSt) (p : List UInt8) : JSt :=
  ⟨⟨J.D.room, fdo J.D.now ⟨1, J.name, [], frameB p⟩, fdo J.D.now ⟨1, J.name, [], frameB p⟩, [], -1, J.D.down⟩, J.name, J.size + (8 + p.length)⟩
theorem apply_fine (T : TSt) (l : List TChg) (h : Fine T) (he : (encB l).2 = 0) (hr : used T.J.D.now + ((encB l).1.length + 8) ≤ T.J.D.room) :
    T.apply l = (⟨T.J.then (encB l).1, tdo T.m l, false⟩, 0) ∧ Fine ⟨T.J.then (encB l).1, tdo T.m l, false⟩ := by
  have ha := append_fine T.J (encB l).1 h.dup h.fuse h.file (encB_len l) hr
  have hs : (T.J.append (encB l).1).1.sync = (T.J.then (encB l).1, 0) := by
    rw [ha]
    have hy := sync_fine { T.J.D with fuse := -1, now := fdo T.J.D.now ⟨1, T.J.name, [], frameB (encB l).1⟩, loose := T.J.D.loose ++ [⟨1, T.J.name, [], frameB (encB l).1⟩] } h.dup rfl
    unfold JSt.sync
    simp only [hy]
    rfl
  have hg : ∀ v, aget T.J.name (fput T.J.name v T.J.D.now) = some v := fun v => by rw [aget_fput _ _ _ h.nodup, if_pos rfl]
  refine ⟨?_, ⟨rfl, h.dup, rfl, rfl, fdo_nodup h.nodup ⟨1, T.J.name, [], frameB (encB l).1⟩, ?_⟩⟩
  · unfold TSt.apply
    rw [if_neg (by simp [h.up]), if_neg (by simp [he]), if_neg (by rw [ha]; simp), if_neg (by rw [hs]; simp), hs]
  · show (aget T.J.name (fdo T.J.D.now ⟨1, T.J.name, [], frameB (encB l).1⟩)).isSome = true
    unfold fdo
    rw [if_neg (show ¬ (1 : Nat) = 0 from by decide), if_pos rfl, hg]
    rfl
theorem apply_bad (T : TSt) (l : List TChg) (h : T.down = false) (he : (encB l).2 ≠ 0) : T.apply l = (T, (encB l).2) := by
  unfold TSt.apply
  rw [if_neg (by simp [h]), if_pos he]
  have h5 := encB_err l
  rw [show decide ((encB l).2 = 5) = false from by simpa using h5, ← h]
end Go.Proofs.Ythfbfdkjgkkpcaa
