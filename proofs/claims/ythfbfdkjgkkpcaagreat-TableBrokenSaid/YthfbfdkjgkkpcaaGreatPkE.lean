/-
  The document's journal: Lay.
  The document's journal: Open.
  The document's octets: ReadCount, ReadText.
  The document's table: Decode.
  The document's table in memory: Open.
  What the blocks of an object are: two objects of unlike kinds share none.
  The walk of the document's Same of pairs.
  The walks of the law's small, Pairs and Is.
  The walk of the statement TableBroken.
  Arguments opened: bytes, and changes, as the walks read them.
  The argument of TableBroken opened: records, as the walk reads them.
  What every last proof of this seat takes: how the row's condition opens, and what it asks behind the call.
-/
import Derived.Test.YthfbfdkjgkkpcaaGreatPkD
import Derived.Test.YthfbfdkjgkkpcaaGreatPkC
import Derived.Test.YthfbfdkjgkkpcaaGreatPkB
import Derived.Test.YthfbfdkjgkkpcaaGreatPkA
import Derived.ChangeSlices
import Derived.OpenShut
import Derived.ProofKit
import Derived.ChangeMaps5
import Derived.WalkKit
import Derived.Carry
namespace Go.Proofs.YthfbfdkjgkkpcaaGreat
open Go Go.RowKit

theorem step_four {D : DSt} {c : Chg} (h : (D.step c).2 = 4) : (D.step c).1.down = false := by
  unfold DSt.step at h ⊢
  split
  · rename_i h1; rw [if_pos h1] at h; cases h
  · rename_i h1
    rw [if_neg h1] at h
    split
    · simpa using h1
    · rename_i h2
      rw [if_neg h2] at h
      unfold DSt.does at h
      split at h <;> cases h
theorem step_six {D : DSt} {c : Chg} (h0 : D.down = false) (hk : c.kind = 2) (hs : (aget c.a D.now).isSome = true) : (D.step c).2 = 0 ∨ (D.step c).2 = 5 := by
  have hm : D.may c = 0 := by
    unfold DSt.may
    rw [if_neg (by omega), if_neg (by cases hc : aget c.a D.now <;> simp_all), if_neg (by omega), if_neg (fun h3 => by omega)]
  unfold DSt.step DSt.does
  rw [if_neg (by simp [h0]), if_neg (by omega)]
  split
  · exact .inr rfl
  · exact .inl rfl
theorem clear_none {D : DSt} {tmp : List UInt8} (h0 : D.down = false) (hs : (aget tmp D.now).isSome = false) : D.clear tmp = (D, 0) := by
  have : D.remove tmp = (D, 6) := by unfold DSt.remove; rw [if_neg (by simp [h0]), if_pos (by cases hc : aget tmp D.now <;> simp_all)]
  unfold DSt.clear
  rw [this, if_pos rfl]
theorem clear_some {D : DSt} {tmp : List UInt8} (h0 : D.down = false) (hs : (aget tmp D.now).isSome = true) : D.clear tmp = D.step ⟨2, tmp, [], []⟩ := by
  unfold DSt.clear
  rw [DSt.remove_step]
  have := step_six (c := ⟨2, tmp, [], []⟩) h0 rfl hs
  rw [if_neg (by omega)]
theorem lay_other {D Dx : DSt} {name tmp b : List UInt8} {e : Nat} (h : stepsAll (laySteps name tmp b) D = (Dx, e)) (he : e ≠ 4) : D.lay name tmp b = (Dx, e) := by
  unfold DSt.lay
  rw [h, if_neg he]
theorem lay_four_none {D Dx : DSt} {name tmp b : List UInt8} (h : stepsAll (laySteps name tmp b) D = (Dx, 4)) (h0 : Dx.down = false) (hs : (aget tmp Dx.now).isSome = false) : D.lay name tmp b = (Dx, 4) := by
  unfold DSt.lay
  rw [h, if_pos rfl, clear_none h0 hs, if_neg (by simp)]
theorem lay_four_some {D Dx : DSt} {name tmp b : List UInt8} (h : stepsAll (laySteps name tmp b) D = (Dx, 4)) (h0 : Dx.down = false) (hs : (aget tmp Dx.now).isSome = true) :
    D.lay name tmp b = if (Dx.step ⟨2, tmp, [], []⟩).2 ≠ 0 then Dx.step ⟨2, tmp, [], []⟩ else ((Dx.step ⟨2, tmp, [], []⟩).1, 4) := by
  unfold DSt.lay
  rw [h, if_pos rfl, clear_some h0 hs]
theorem Small.step {D : DSt} {n : Nat} (h : Small D n) (c : Chg) : Small (D.step c).1 (n + 1) := by
  unfold DSt.step
  repeat' split
  · exact h.mono (by omega)
  · exact h.mono (by omega)
  · exact h.does _
/-- What the walk holds of the disk between two steps of Lay. -/
structure Lst (w W : World) (d : Nat) (S Sx : List Nat) (Dx : DSt) (n : Nat) : Prop where
  disk : RDiskAt W d Sx Dx
  upd : Upd S w W
  sub : Sub w S Sx
  small : Small Dx n
section
variable {w W W' : World} {d : Nat} {S Sx S' : List Nat} {Dx D' : DSt} {n m : Nat}
theorem Lst.quiet (h : Lst w W d S Sx Dx n) (hU : Upd [] W W') : Lst w W' d S Sx Dx n := ⟨h.disk.upd0 hU, h.upd.then0 hU, h.sub, h.small⟩
theorem Lst.step (h : Lst w W d S Sx Dx n) (hD : RDiskAt W' d S' D') (hU : Upd Sx W W') (hs : Sub W Sx S') (hsm : Small D' m) : Lst w W' d S S' D' m := ⟨hD, h.upd.sub h.sub hU, h.sub.trans hs h.upd.size, hsm⟩
theorem Lst.post (h : Lst w W d S Sx Dx n) (r : DSt × Nat) (k : Nat) (hr : r = (Dx, k)) : RPost w d S r (.returned (.int .i64 (k : Nat))) W := by
  subst hr
  exact ⟨rfl, Sx, h.disk, h.upd, h.sub⟩
theorem Lst.see (h : Lst w W d S Sx Dx n) : ∃ no nc, W.cell? ⟨d, 1, none⟩ = some (.slice no Dx.now.length nc) ∧ W.cell? ⟨d, 5, none⟩ = some (.bool Dx.down) ∧ Fls W (.slice no Dx.now.length nc) Dx.now := by
  obtain ⟨nv, sv, lv, cells, _, hd, hfn, _⟩ := h.disk.ex
  obtain ⟨no, nc, rfl⟩ := hfn.shape
  exact ⟨no, nc, by rw [cell_lit W _ 1 _ _ _ hd]; rfl, by rw [cell_lit W _ 5 _ _ _ hd]; rfl, hfn⟩
/-- What a step answers, and leaves; a slice that read as bytes reads so still. -/
def StPost (w W : World) (d : Nat) (S : List Nat) (n : Nat) (bv : Value) (b : List UInt8) (r : DSt × Nat) (e : Ending) (w' : World) : Prop := e = .returned (.int .i64 (r.2 : Nat)) ∧ By w' bv b ∧ ∃ S', Lst w w' d S S' r.1 (n + 1)
theorem Lst.does (h : Lst w W d S Sx Dx n) (hn : n ≤ 999999000) {bv : Value} {b : List UInt8} (hb : By W bv b) (c : Chg) (pv : Value) (hk : c.kind ≤ 3) (hp : By W pv c.p) (hal : c.a.length ≤ 1000000000) (hbl : c.b.length ≤ 1000000000) (hpl : c.p.length ≤ 1000000000) (hp0 : c.kind ≠ 1 → c.p = []) :
    Calls Tryz.prog 65 #[.pointer (some ⟨d, 0, none⟩), .agg #[.int .i64 c.kind, encS c.a, encS c.b, pv]] W (StPost w W d S n bv b (Dx.step c)) := by
  refine (rd_step W d Sx Dx h.disk c pv hk hp (by have := h.small.1; omega) (by have := h.small.2; omega) hpl hal hbl hp0).mono ?_
  rintro e w' ⟨rfl, S', h1, h2, h3⟩
  exact ⟨rfl, hb.upd h2 h.disk.off8, S', h.step h1 h2 h3 (h.small.step c)⟩
theorem Lst.syncs (h : Lst w W d S Sx Dx n) {bv : Value} {b : List UInt8} (hb : By W bv b) : Calls Tryz.prog 66 #[.pointer (some ⟨d, 0, none⟩)] W (StPost w W d S n bv b Dx.sync) := by
  refine (rd_sync W d Sx Dx h.disk).mono ?_
  rintro e w' ⟨rfl, S', h1, h2, h3⟩
  exact ⟨rfl, hb.upd h2 h.disk.off8, S', h.step h1 h2 h3 (h.small.sync.mono (by omega))⟩
end
theorem By.nil (w : World) : By w (.slice none 0 0) [] := Rd.nil _ _ _
theorem sync_four {D : DSt} : D.sync.2 ≠ 4 := by
  unfold DSt.sync
  repeat' split
  all_goals simp
theorem plus_str (name : List UInt8) : (({ data := name.toArray } : ByteArray) ++ ({ data := #[43] } : ByteArray)) = { data := (name ++ [43]).toArray } := ByteArray.ext (by rw [ByteArray.data_append]; simp)
def LyR (w : World) (l : List (List UInt8)) (x v : Value) (wr : World) : Prop := ∃ i : Nat, x = .int .i64 i ∧ i ≤ l.length ∧ OwnBy wr w.heap.size v (framesB (l.take i)) ∧ Upd [] w wr
/-- The state of Lay's loop over the pieces. -/
def LpR (w : World) (d : Nat) (S : List Nat) (D3 : DSt) (tmp b : List UInt8) (bv x ev : Value) (wr : World) : Prop :=
  ∃ (i e n : Nat) (Sx : List Nat) (Dx : DSt), x = .int .i64 i ∧ ev = .int .i64 e ∧ i ≤ b.length + 1048576 ∧ n ≤ 800000010 + i ∧ Lst w wr d S Sx Dx n ∧ By wr bv b ∧ (e = 4 → Dx.down = false) ∧
    (e = 0 → D3.write tmp b = Dx.write tmp (b.drop i)) ∧ (e ≠ 0 → D3.write tmp b = (Dx, e))

set_option maxRecDepth 100000 in
set_option maxHeartbeats 8000000 in
theorem rj_lay_go (w : World) (d : Nat) (S : List Nat) (D : DSt) (h : RDiskAt w d S D) (name : List UInt8) (hn : name.length ≤ 1000) (rv : Value) (l : List (List UInt8)) (hl : Recs w rv l) (hlen : l.length ≤ 100000000) (hb : (framesB l).length ≤ 100000000) (hsm : Small D 800000000) (tmp b : List UInt8) (ht : tmp = name ++ [43]) (hbb : b = framesB l) :
    Calls Tryz.prog 68 #[.pointer (some ⟨d, 0, none⟩), encS name, rv] w (RPost w d S (D.lay name tmp b)) := by
  have HTQ := Lib.hid ht
  have HBQ := Lib.hid hbb
  clear ht hbb
  obtain ⟨cells, hR, hC⟩ := hl
  obtain ⟨ao, cap, rfl, _⟩ := hR.shape
  have HL0 := Lib.hid (show Lst w w d S S D 800000000 from ⟨h, Upd.refl _ _, Sub.refl _ _, hsm⟩)
  have HTL := Lib.hid (show (name ++ [43]).length ≤ 1000000000 from by simp; omega)
  have HNL := Lib.hid (show name.length ≤ 1000000000 from by omega)
  have HB := Lib.hid hb; have HLN := Lib.hid hlen
  clear hb hlen hsm h
  go_enter Tryz.func68, Tryz.ntmps68
  go_wp2_with fail
  rw [plus_str, ← HTQ.out]
  rw [← HTQ.out] at HTL
  go_loopw [9, 8] (fun x v wr => LyR w l x v wr) (fun x _ _ => l.length - (intOf x).toNat)
  case atStart => exact ⟨0, rfl, Nat.zero_le _, World.ownsRow_nil _ _ _ _, Upd.refl _ _⟩
  case round =>
    obtain ⟨i, rfl, hi, hown, hU⟩ := hrel
    have hll := HLN.out
    by_cases hlt : i < l.length
    · have htt : decide ((i : Int) < (l.length : Int)) = true := by simp; omega
      obtain ⟨p, hp⟩ : ∃ p, l[i]? = some p := ⟨_, List.getElem?_eq_getElem hlt⟩
      obtain ⟨pv, hcv, hpv⟩ := hC.get hp
      have hRr := hR.upd0 hU
      have hpr := hpv.upd0 hU
      obtain ⟨ap, cp, hsp⟩ := By.val hpr
      subst hsp
      have htk : framesB (l.take (i + 1)) = framesB (l.take i) ++ frameB p := by
        rw [List.take_add_one, hp]
        exact framesB_snoc _ _
      have hfl : (framesB (l.take i)).length + (frameB p).length ≤ 100000000 := by
        have := framesB_take l (i + 1)
        rw [htk, List.length_append] at this
        have := HB.out
        omega
      have hpl : p.length ≤ 1000000000 := by have := frameB_length p; omega
      have HTK := Lib.hid htk; have HFL := Lib.hid hfl
      have HFR := Lib.hid (rf_frame wr _ p hpr.x hpl)
      clear htk hfl hp hpl
      go_wp2_with ((with_reducible show wpList _ _ _ (⟨_, .indexAddr _ _ _, _, _, _, _⟩ :: _) _ _); refine wpl_indexAddr1 elRec rfl rfl hRr rfl rfl (by omega) (by omega) (.slice ap p.length cp) (by rw [Int.toNat_natCast]; exact hcv) ?_; intro ad hcell)
      refine HFR.out.mono ?_
      rintro e w2 ⟨v2, rfl, hv2, hU2⟩
      go_wp2_with ((with_reducible show wpList _ _ _ (⟨_, .call ⟨.builtin .append, _, _⟩, _, _, _, _⟩ :: _) _ _); refine wpl_append_by elU8 rfl rfl (hU.trans0 hU2) (Own.upd0 hown hU2) rfl hv2.by rfl (by have := HFL.out; omega) ?_; intro v3 w3 hv3 _ hU3 _)
      exact ⟨⟨i + 1, by simp, hlt, by rw [HTK.out]; exact hv3, hU3⟩, by simp [intOf]; omega⟩
    · have htt : decide ((i : Int) < (l.length : Int)) = false := by simp; omega
      have hie : i = l.length := by omega
      subst hie
      rw [List.take_length] at hown
      have HL1 := HL0.out.quiet hU
      obtain ⟨no, nc, cd1, cd5, hfl⟩ := HL1.see
      have HBY := hown.by
      obtain ⟨bo, bc, hbs⟩ := By.val HBY
      subst hbs
      have hbl := HB.out
      rw [← HBQ.out] at HBY hbl ⊢
      clear hown hU HL0 hi
      cases hdn : D.down with
      | true =>
        have hsa : stepsAll (laySteps name tmp b) D = (D, 5) := by
          have : D.clear tmp = (D, 5) := by
            have : D.remove tmp = (D, 5) := by unfold DSt.remove; rw [if_pos hdn]
            unfold DSt.clear
            rw [this, if_neg (by simp)]
          rw [laySteps, stepsAll, this, if_pos (by simp)]
        have h5 : D.step ⟨0, tmp, [], []⟩ = (D, 5) := by unfold DSt.step; rw [if_pos hdn]
        have HD2 := Lib.hid (HL1.does (by omega) HBY ⟨0, tmp, [], []⟩ (.slice none 0 0) (by simp) (Rd.nil _ _ _) HTL.out (by simp) (by simp) (fun _ => rfl))
        rw [h5] at HD2
        have HSA := Lib.hid hsa
        rw [hdn] at cd5
        clear h5 hsa hdn
        go_wp2_with fail
        refine HD2.out.mono ?_
        rintro e2 w2 ⟨rfl, _, S2, h2⟩
        have HF := Lib.hid (h2.post _ 5 (lay_other HSA.out (by omega)))
        clear HD2
        go_wp2_with fail
        go_loopw [11, 10] (fun x ev W => x = .int .i64 0 ∧ ev = .int .i64 5 ∧ W = w2) (fun _ _ _ => 0)
        case atStart => exact ⟨rfl, rfl, rfl⟩
        case round =>
          obtain ⟨rfl, rfl, rfl⟩ := hrel
          by_cases hz : 0 < b.length
          · have htz : decide ((0 : Int) < (b.length : Int)) = true := by simp; omega
            go_wp2_with fail
            go_ret
            exact HF.out
          · have htz : decide ((0 : Int) < (b.length : Int)) = false := by simpa using hz
            go_wp2_with fail
            go_ret
            exact HF.out
      | false =>
        have HFD0 := Lib.hid (rf_find wr _ D.now hfl tmp (by have := HL1.small.2; omega))
        unfold FndPost at HFD0
        rw [hdn] at cd5
        cases hss : (aget tmp D.now).isSome with
        | false =>
          have hcl := clear_none hdn hss
          have HS0 := Lib.hid (show stepsAll (laySteps name tmp b) D = stepsAll [fun D => D.create tmp, fun D => D.write tmp b, fun D => D.sync, fun D => D.rename tmp name, fun D => D.sync] D from by rw [laySteps, stepsAll, hcl, if_neg (by simp)])
          rw [hss] at HFD0
          clear hss hcl hfl hdn
          go_wp2_with fail
          refine HFD0.out.mono ?_
          rintro e0 w0 ⟨x0, rfl, hx0, _, rfl⟩
          -- HL1: the state; wr: the world; HBY: the blocks' bytes; HS0.out: all steps come to those behind the first; D: the disk; 0: the count
          have HD2 := Lib.hid ((HL1).does (by omega) HBY ⟨0, tmp, [], []⟩ (.slice none 0 0) (by simp) (Rd.nil _ _ _) HTL.out (by simp) (by simp) (fun _ => rfl))
          have HSA1 := Lib.hid HS0.out
          have hdn2 : (((D).step ⟨0, tmp, [], []⟩).2 = 4 → ((D).step ⟨0, tmp, [], []⟩).1.down = false) := fun h4 => step_four h4
          rw [← DSt.create_step] at HD2 hdn2
          have HD9 := Lib.hid (DSt.create_step D tmp)
          generalize hr2 : (D).create tmp = r2 at *
          obtain ⟨D2, k2⟩ := r2
          dsimp only at hdn2
          have hsa2 : stepsAll (laySteps name tmp b) D = if k2 ≠ 0 then (D2, k2) else stepsAll [fun D => D.write tmp b, fun D => D.sync, fun D => D.rename tmp name, fun D => D.sync] D2 := by
            rw [HSA1.out, stepsAll, hr2]
          clear hr2 HD9
          go_wp2_with fail
          refine HD2.out.mono ?_
          rintro e2 w2 ⟨rfl, hB2, S2, h2⟩
          dsimp only at h2
          clear HD2 HSA1
          by_cases hk2 : k2 = 0
          rotate_left
          · rw [if_pos hk2] at hsa2
            have hk2b : ((k2 : Int) == 0) = false := by simp; omega
            -- through the loop, which is left at once; then as tail
            go_wp2_with fail
            go_loopw [11, 10] (fun x ev W => x = .int .i64 0 ∧ ev = .int .i64 k2 ∧ W = w2) (fun _ _ _ => 0)
            case atStart => exact ⟨rfl, rfl, rfl⟩
            case round =>
              obtain ⟨rfl, rfl, rfl⟩ := hrel
              by_cases hz : 0 < b.length
              · have htz : decide ((0 : Int) < (b.length : Int)) = true := by simp; omega
                -- h2: the state; k2: e; wr: the world; S2: the blocks; hsa2: all steps' outcome
                have HT1 := Lib.hid h2
                by_cases he4 : k2 = 4
                · have hdn := hdn2 he4
                  have hsa := hsa2
                  rw [he4] at hsa ⊢
                  obtain ⟨no, nc, cd1, cd5, hfl⟩ := (h2).see
                  have HFD := Lib.hid (rf_find wr _ _ hfl tmp (by have := (h2).small.2; omega))
                  cases hss : (aget tmp _).isSome with
                  | false =>
                    have HF := Lib.hid ((h2).post _ 4 (lay_four_none hsa hdn hss))
                    unfold FndPost at HFD
                    rw [hss] at HFD
                    clear hss hdn hsa cd5 hfl he4
                    go_wp2_with fail
                    refine HFD.out.mono ?_
                    rintro e9 w9 ⟨x9, rfl, hx9, _, rfl⟩
                    go_wp2_with fail
                    go_ret
                    exact HF.out
                  | true =>
                    have hlf := lay_four_some hsa hdn hss
                    have HDS := Lib.hid ((h2).does (by omega) (By.nil wr) ⟨2, tmp, [], []⟩ (.slice none 0 0) (by simp) (Rd.nil _ _ _) HTL.out (by simp) (by simp) (fun _ => rfl))
                    unfold FndPost at HFD
                    rw [hss] at HFD
                    generalize hr9 : DSt.step _ ⟨2, tmp, [], []⟩ = r9 at *
                    obtain ⟨D9, k9⟩ := r9
                    dsimp only at hlf
                    by_cases hk9 : k9 = 0
                    · rw [if_neg (by omega)] at hlf
                      have HLF := Lib.hid hlf
                      subst hk9
                      clear hss hdn hsa cd5 hfl he4 hr9 hlf
                      go_wp2_with fail
                      refine HFD.out.mono ?_
                      rintro e9 w9 ⟨x9, rfl, hx9, _, rfl⟩
                      go_wp2_with fail
                      refine HDS.out.mono ?_
                      rintro e9 w9 ⟨rfl, _, S9, h9⟩
                      have HF := Lib.hid (h9.post _ 4 HLF.out)
                      go_wp2_with fail
                      go_ret
                      exact HF.out
                    · rw [if_pos hk9] at hlf
                      have HLF := Lib.hid hlf
                      have hk9b : ((k9 : Int) != 0) = true := by simpa using hk9
                      clear hss hdn hsa cd5 hfl he4 hr9 hlf hk9
                      go_wp2_with fail
                      refine HFD.out.mono ?_
                      rintro e9 w9 ⟨x9, rfl, hx9, _, rfl⟩
                      go_wp2_with fail
                      refine HDS.out.mono ?_
                      rintro e9 w9 ⟨rfl, _, S9, h9⟩
                      have HF := Lib.hid (h9.post _ k9 HLF.out)
                      go_wp2_with fail
                      go_ret
                      exact HF.out
                · have HF := Lib.hid ((h2).post _ k2 (lay_other hsa2 he4))
                  have he4b : ((k2 : Int) == 4) = false := by simp; omega
                  clear he4
                  go_wp2_with fail
                  go_ret
                  exact HF.out
              · have htz : decide ((0 : Int) < (b.length : Int)) = false := by simpa using hz
                -- h2: the state; k2: e; wr: the world; S2: the blocks; hsa2: all steps' outcome
                have HT1 := Lib.hid h2
                by_cases he4 : k2 = 4
                · have hdn := hdn2 he4
                  have hsa := hsa2
                  rw [he4] at hsa ⊢
                  obtain ⟨no, nc, cd1, cd5, hfl⟩ := (h2).see
                  have HFD := Lib.hid (rf_find wr _ _ hfl tmp (by have := (h2).small.2; omega))
                  cases hss : (aget tmp _).isSome with
                  | false =>
                    have HF := Lib.hid ((h2).post _ 4 (lay_four_none hsa hdn hss))
                    unfold FndPost at HFD
                    rw [hss] at HFD
                    clear hss hdn hsa cd5 hfl he4
                    go_wp2_with fail
                    refine HFD.out.mono ?_
                    rintro e9 w9 ⟨x9, rfl, hx9, _, rfl⟩
                    go_wp2_with fail
                    go_ret
                    exact HF.out
                  | true =>
                    have hlf := lay_four_some hsa hdn hss
                    have HDS := Lib.hid ((h2).does (by omega) (By.nil wr) ⟨2, tmp, [], []⟩ (.slice none 0 0) (by simp) (Rd.nil _ _ _) HTL.out (by simp) (by simp) (fun _ => rfl))
                    unfold FndPost at HFD
                    rw [hss] at HFD
                    generalize hr9 : DSt.step _ ⟨2, tmp, [], []⟩ = r9 at *
                    obtain ⟨D9, k9⟩ := r9
                    dsimp only at hlf
                    by_cases hk9 : k9 = 0
                    · rw [if_neg (by omega)] at hlf
                      have HLF := Lib.hid hlf
                      subst hk9
                      clear hss hdn hsa cd5 hfl he4 hr9 hlf
                      go_wp2_with fail
                      refine HFD.out.mono ?_
                      rintro e9 w9 ⟨x9, rfl, hx9, _, rfl⟩
                      go_wp2_with fail
                      refine HDS.out.mono ?_
                      rintro e9 w9 ⟨rfl, _, S9, h9⟩
                      have HF := Lib.hid (h9.post _ 4 HLF.out)
                      go_wp2_with fail
                      go_ret
                      exact HF.out
                    · rw [if_pos hk9] at hlf
                      have HLF := Lib.hid hlf
                      have hk9b : ((k9 : Int) != 0) = true := by simpa using hk9
                      clear hss hdn hsa cd5 hfl he4 hr9 hlf hk9
                      go_wp2_with fail
                      refine HFD.out.mono ?_
                      rintro e9 w9 ⟨x9, rfl, hx9, _, rfl⟩
                      go_wp2_with fail
                      refine HDS.out.mono ?_
                      rintro e9 w9 ⟨rfl, _, S9, h9⟩
                      have HF := Lib.hid (h9.post _ k9 HLF.out)
                      go_wp2_with fail
                      go_ret
                      exact HF.out
                · have HF := Lib.hid ((h2).post _ k2 (lay_other hsa2 he4))
                  have he4b : ((k2 : Int) == 4) = false := by simp; omega
                  clear he4
                  go_wp2_with fail
                  go_ret
                  exact HF.out
          rw [if_neg (by omega)] at hsa2
          subst hk2
          have HSA2 := Lib.hid hsa2
          clear hsa2 hdn2
          go_wp2_with fail
          go_loopw [11, 10] (fun x ev W => LpR w d S D2 tmp b (.slice bo b.length bc) x ev W) (fun x _ _ => b.length + 2097152 - (intOf x).toNat)
          case atStart => exact ⟨0, 0, _, S2, D2, rfl, rfl, by omega, by omega, h2, hB2, fun h4 => by omega, fun _ => by simp, fun h4 => absurd rfl h4⟩
          case round =>
            obtain ⟨i, e, n, Sx, Dx, rfl, rfl, hi, hnn, hL, hB, hdn, h0, h1⟩ := hrel
            by_cases he : e = 0
            · subst he
              by_cases hlt : i < b.length
              · have htt : decide ((i : Int) < (b.length : Int)) = true := by simp; omega
                by_cases hend : b.length < i + 1048576
                · have hte : decide ((b.length : Int) < (i : Int) + 1048576) = true := by simp; omega
                  -- x: what is asked of the end
                  obtain ⟨q, hq⟩ : ∃ q, q = (b.drop i).take 1048576 := ⟨_, rfl⟩
                  have HCT := Lib.hid (show (b.drop i).take (b.length - i) = q from by first | exact hq.symm | (rw [hq]; exact (by rw [List.take_of_length_le (by simp), List.take_of_length_le (by simp; omega)])))
                  have HQL := Lib.hid (show q.length = (b.length - i) ∧ q.length ≤ 1048576 from ⟨by rw [hq, List.length_take, List.length_drop]; omega, by rw [hq, List.length_take]; omega⟩)
                  have HDS := Lib.hid (fun (v : Value) (hv : By wr v q) => hL.does (by omega) hB ⟨1, tmp, [], q⟩ v (by simp) hv HTL.out (by simp) (by have := HQL.out.2; show q.length ≤ _; omega) (by simp))
                  rw [← DSt.append_step] at HDS
                  generalize hr : Dx.append tmp q = r at *
                  obtain ⟨D4, k4⟩ := r
                  have HNX := Lib.hid (show (k4 = 4 → D4.down = false) ∧ (k4 = 0 → D2.write tmp b = D4.write tmp (b.drop (i + 1048576))) ∧ (k4 ≠ 0 → D2.write tmp b = (D4, k4)) from by
                    have hw := h0 rfl
                    rw [DSt.write_cons Dx tmp (b.drop i) (by rw [List.length_drop]; omega), ← hq, hr, List.drop_drop] at hw
                    dsimp only at hw
                    refine ⟨fun h4 => ?_, fun h4 => ?_, fun h4 => ?_⟩
                    · have := step_four (D := Dx) (c := ⟨1, tmp, [], q⟩) (by rw [← DSt.append_step, hr]; exact h4)
                      rwa [← DSt.append_step, hr] at this
                    · rw [hw, if_neg (by omega)]
                    · rw [hw, if_pos h4])
                  clear hr h0 h1 hdn hq
                  go_wp2_with ((with_reducible show wpList _ _ _ (⟨_, .slice _ _ _ _ _, _, _, _, _⟩ :: _) _ _); refine wpl_cut_by (n := i) (m := (b.length - i)) elU8 rfl rfl hB rfl rfl rfl (by omega) (by omega) (by omega) ?_; intro v5 hb5 _; rw [HCT.out] at hb5; obtain ⟨ao5, cap5, hs5⟩ := By.val hb5; subst hs5)
                  refine (HDS.out _ hb5).mono ?_
                  rintro e5 w5 ⟨rfl, hB5, S5, hL5⟩
                  dsimp only at hL5
                  go_wp2_with fail
                  exact ⟨⟨i + 1048576, k4, n + 1, S5, D4, by simp, rfl, by omega, by omega, hL5, hB5, HNX.out.1, HNX.out.2.1, HNX.out.2.2⟩, by simp [intOf]; omega⟩
                · have hte : decide ((b.length : Int) < (i : Int) + 1048576) = false := by simp; omega
                  -- x: what is asked of the end
                  obtain ⟨q, hq⟩ : ∃ q, q = (b.drop i).take 1048576 := ⟨_, rfl⟩
                  have HCT := Lib.hid (show (b.drop i).take 1048576 = q from by first | exact hq.symm | (rw [hq]; exact rfl))
                  have HQL := Lib.hid (show q.length = 1048576 ∧ q.length ≤ 1048576 from ⟨by rw [hq, List.length_take, List.length_drop]; omega, by rw [hq, List.length_take]; omega⟩)
                  have HDS := Lib.hid (fun (v : Value) (hv : By wr v q) => hL.does (by omega) hB ⟨1, tmp, [], q⟩ v (by simp) hv HTL.out (by simp) (by have := HQL.out.2; show q.length ≤ _; omega) (by simp))
                  rw [← DSt.append_step] at HDS
                  generalize hr : Dx.append tmp q = r at *
                  obtain ⟨D4, k4⟩ := r
                  have HNX := Lib.hid (show (k4 = 4 → D4.down = false) ∧ (k4 = 0 → D2.write tmp b = D4.write tmp (b.drop (i + 1048576))) ∧ (k4 ≠ 0 → D2.write tmp b = (D4, k4)) from by
                    have hw := h0 rfl
                    rw [DSt.write_cons Dx tmp (b.drop i) (by rw [List.length_drop]; omega), ← hq, hr, List.drop_drop] at hw
                    dsimp only at hw
                    refine ⟨fun h4 => ?_, fun h4 => ?_, fun h4 => ?_⟩
                    · have := step_four (D := Dx) (c := ⟨1, tmp, [], q⟩) (by rw [← DSt.append_step, hr]; exact h4)
                      rwa [← DSt.append_step, hr] at this
                    · rw [hw, if_neg (by omega)]
                    · rw [hw, if_pos h4])
                  clear hr h0 h1 hdn hq
                  go_wp2_with ((with_reducible show wpList _ _ _ (⟨_, .slice _ _ _ _ _, _, _, _, _⟩ :: _) _ _); refine wpl_cut_by (n := i) (m := 1048576) elU8 rfl rfl hB rfl rfl rfl (by omega) (by omega) (by omega) ?_; intro v5 hb5 _; rw [HCT.out] at hb5; obtain ⟨ao5, cap5, hs5⟩ := By.val hb5; subst hs5)
                  refine (HDS.out _ hb5).mono ?_
                  rintro e5 w5 ⟨rfl, hB5, S5, hL5⟩
                  dsimp only at hL5
                  go_wp2_with fail
                  exact ⟨⟨i + 1048576, k4, n + 1, S5, D4, by simp, rfl, by omega, by omega, hL5, hB5, HNX.out.1, HNX.out.2.1, HNX.out.2.2⟩, by simp [intOf]; omega⟩
              · have htt : decide ((i : Int) < (b.length : Int)) = false := by simp; omega
                have hw := h0 rfl
                rw [DSt.write_nil Dx tmp (b.drop i) (by rw [List.length_drop]; omega)] at hw
                have HY := Lib.hid (hL.syncs hB)
                generalize hr4 : Dx.sync = r4 at *
                obtain ⟨D4, k4⟩ := r4
                have hn4 : k4 ≠ 4 := by have := @sync_four Dx; rw [hr4] at this; exact this
                have hsa4 : stepsAll (laySteps name tmp b) D = if k4 ≠ 0 then (D4, k4) else stepsAll [fun D => D.rename tmp name, fun D => D.sync] D4 := by
                  rw [HSA2.out, stepsAll, hw, if_neg (by simp), stepsAll, hr4]
                clear hr4 hw h0 h1 hdn
                go_wp2_with fail
                refine HY.out.mono ?_
                rintro e4 w4 ⟨rfl, hB4, S4, h4⟩
                dsimp only at h4
                clear HY
                by_cases hk4 : k4 = 0
                rotate_left
                · rw [if_pos hk4] at hsa4
                  have hk4b : ((k4 : Int) == 0) = false := by simp; omega
                  -- h4: the state; k4: e; w4: the world; S4: the blocks; hsa4: all steps' outcome
                  have HT1 := Lib.hid h4
                  by_cases he4 : k4 = 4
                  · have hdn := (fun h5 => (absurd h5 hn4 : D4.down = false)) he4
                    have hsa := hsa4
                    rw [he4] at hsa ⊢
                    obtain ⟨no, nc, cd1, cd5, hfl⟩ := (h4).see
                    have HFD := Lib.hid (rf_find w4 _ _ hfl tmp (by have := (h4).small.2; omega))
                    cases hss : (aget tmp _).isSome with
                    | false =>
                      have HF := Lib.hid ((h4).post _ 4 (lay_four_none hsa hdn hss))
                      unfold FndPost at HFD
                      rw [hss] at HFD
                      clear hss hdn hsa cd5 hfl he4
                      go_wp2_with fail
                      refine HFD.out.mono ?_
                      rintro e9 w9 ⟨x9, rfl, hx9, _, rfl⟩
                      go_wp2_with fail
                      go_ret
                      exact HF.out
                    | true =>
                      have hlf := lay_four_some hsa hdn hss
                      have HDS := Lib.hid ((h4).does (by omega) (By.nil w4) ⟨2, tmp, [], []⟩ (.slice none 0 0) (by simp) (Rd.nil _ _ _) HTL.out (by simp) (by simp) (fun _ => rfl))
                      unfold FndPost at HFD
                      rw [hss] at HFD
                      generalize hr9 : DSt.step _ ⟨2, tmp, [], []⟩ = r9 at *
                      obtain ⟨D9, k9⟩ := r9
                      dsimp only at hlf
                      by_cases hk9 : k9 = 0
                      · rw [if_neg (by omega)] at hlf
                        have HLF := Lib.hid hlf
                        subst hk9
                        clear hss hdn hsa cd5 hfl he4 hr9 hlf
                        go_wp2_with fail
                        refine HFD.out.mono ?_
                        rintro e9 w9 ⟨x9, rfl, hx9, _, rfl⟩
                        go_wp2_with fail
                        refine HDS.out.mono ?_
                        rintro e9 w9 ⟨rfl, _, S9, h9⟩
                        have HF := Lib.hid (h9.post _ 4 HLF.out)
                        go_wp2_with fail
                        go_ret
                        exact HF.out
                      · rw [if_pos hk9] at hlf
                        have HLF := Lib.hid hlf
                        have hk9b : ((k9 : Int) != 0) = true := by simpa using hk9
                        clear hss hdn hsa cd5 hfl he4 hr9 hlf hk9
                        go_wp2_with fail
                        refine HFD.out.mono ?_
                        rintro e9 w9 ⟨x9, rfl, hx9, _, rfl⟩
                        go_wp2_with fail
                        refine HDS.out.mono ?_
                        rintro e9 w9 ⟨rfl, _, S9, h9⟩
                        have HF := Lib.hid (h9.post _ k9 HLF.out)
                        go_wp2_with fail
                        go_ret
                        exact HF.out
                  · have HF := Lib.hid ((h4).post _ k4 (lay_other hsa4 he4))
                    have he4b : ((k4 : Int) == 4) = false := by simp; omega
                    clear he4
                    go_wp2_with fail
                    go_ret
                    exact HF.out
                rw [if_neg (by omega)] at hsa4
                subst hk4
                have HSA4 := Lib.hid hsa4
                clear hsa4 hn4
                have HD5 := Lib.hid (h4.does (by omega) hB4 ⟨3, tmp, name, []⟩ (.slice none 0 0) (by simp) (Rd.nil _ _ _) HTL.out HNL.out (by simp) (fun _ => rfl))
                have hdn5 : ((D4.step ⟨3, tmp, name, []⟩).2 = 4 → (D4.step ⟨3, tmp, name, []⟩).1.down = false) := fun h5 => step_four h5
                rw [← DSt.rename_step] at HD5 hdn5
                generalize hr5 : D4.rename tmp name = r5 at *
                obtain ⟨D5, k5⟩ := r5
                dsimp only at hdn5
                have hsa5 : stepsAll (laySteps name tmp b) D = if k5 ≠ 0 then (D5, k5) else stepsAll [fun D => D.sync] D5 := by
                  rw [HSA4.out, stepsAll, hr5]
                clear hr5
                go_wp2_with fail
                refine HD5.out.mono ?_
                rintro e5 w5 ⟨rfl, hB5, S5, h5⟩
                dsimp only at h5
                clear HD5
                by_cases hk5 : k5 = 0
                rotate_left
                · rw [if_pos hk5] at hsa5
                  have hk5b : ((k5 : Int) == 0) = false := by simp; omega
                  -- h5: the state; k5: e; w5: the world; S5: the blocks; hsa5: all steps' outcome
                  have HT1 := Lib.hid h5
                  by_cases he4 : k5 = 4
                  · have hdn := hdn5 he4
                    have hsa := hsa5
                    rw [he4] at hsa ⊢
                    obtain ⟨no, nc, cd1, cd5, hfl⟩ := (h5).see
                    have HFD := Lib.hid (rf_find w5 _ _ hfl tmp (by have := (h5).small.2; omega))
                    cases hss : (aget tmp _).isSome with
                    | false =>
                      have HF := Lib.hid ((h5).post _ 4 (lay_four_none hsa hdn hss))
                      unfold FndPost at HFD
                      rw [hss] at HFD
                      clear hss hdn hsa cd5 hfl he4
                      go_wp2_with fail
                      refine HFD.out.mono ?_
                      rintro e9 w9 ⟨x9, rfl, hx9, _, rfl⟩
                      go_wp2_with fail
                      go_ret
                      exact HF.out
                    | true =>
                      have hlf := lay_four_some hsa hdn hss
                      have HDS := Lib.hid ((h5).does (by omega) (By.nil w5) ⟨2, tmp, [], []⟩ (.slice none 0 0) (by simp) (Rd.nil _ _ _) HTL.out (by simp) (by simp) (fun _ => rfl))
                      unfold FndPost at HFD
                      rw [hss] at HFD
                      generalize hr9 : DSt.step _ ⟨2, tmp, [], []⟩ = r9 at *
                      obtain ⟨D9, k9⟩ := r9
                      dsimp only at hlf
                      by_cases hk9 : k9 = 0
                      · rw [if_neg (by omega)] at hlf
                        have HLF := Lib.hid hlf
                        subst hk9
                        clear hss hdn hsa cd5 hfl he4 hr9 hlf
                        go_wp2_with fail
                        refine HFD.out.mono ?_
                        rintro e9 w9 ⟨x9, rfl, hx9, _, rfl⟩
                        go_wp2_with fail
                        refine HDS.out.mono ?_
                        rintro e9 w9 ⟨rfl, _, S9, h9⟩
                        have HF := Lib.hid (h9.post _ 4 HLF.out)
                        go_wp2_with fail
                        go_ret
                        exact HF.out
                      · rw [if_pos hk9] at hlf
                        have HLF := Lib.hid hlf
                        have hk9b : ((k9 : Int) != 0) = true := by simpa using hk9
                        clear hss hdn hsa cd5 hfl he4 hr9 hlf hk9
                        go_wp2_with fail
                        refine HFD.out.mono ?_
                        rintro e9 w9 ⟨x9, rfl, hx9, _, rfl⟩
                        go_wp2_with fail
                        refine HDS.out.mono ?_
                        rintro e9 w9 ⟨rfl, _, S9, h9⟩
                        have HF := Lib.hid (h9.post _ k9 HLF.out)
                        go_wp2_with fail
                        go_ret
                        exact HF.out
                  · have HF := Lib.hid ((h5).post _ k5 (lay_other hsa5 he4))
                    have he4b : ((k5 : Int) == 4) = false := by simp; omega
                    clear he4
                    go_wp2_with fail
                    go_ret
                    exact HF.out
                rw [if_neg (by omega)] at hsa5
                subst hk5
                have HSA5 := Lib.hid hsa5
                clear hsa5 hdn5
                have HY6 := Lib.hid (h5.syncs hB5)
                generalize hr6 : D5.sync = r6 at *
                obtain ⟨D6, k6⟩ := r6
                have hn6 : k6 ≠ 4 := by have := @sync_four D5; rw [hr6] at this; exact this
                have hsa6 : stepsAll (laySteps name tmp b) D = (D6, k6) := by
                  rw [HSA5.out, stepsAll, hr6]
                  split
                  · rfl
                  · rename_i h9
                    rw [stepsAll]
                    congr 1
                    have : k6 = 0 := by simpa using h9
                    exact this.symm
                clear hr6
                go_wp2_with fail
                refine HY6.out.mono ?_
                rintro e6 w6 ⟨rfl, hB6, S6, h6⟩
                dsimp only at h6
                clear HY6
                -- h6: the state; k6: e; w6: the world; S6: the blocks; hsa6: all steps' outcome
                have HT1 := Lib.hid h6
                by_cases he4 : k6 = 4
                · have hdn := (fun h7 => (absurd h7 hn6 : D6.down = false)) he4
                  have hsa := hsa6
                  rw [he4] at hsa ⊢
                  obtain ⟨no, nc, cd1, cd5, hfl⟩ := (h6).see
                  have HFD := Lib.hid (rf_find w6 _ _ hfl tmp (by have := (h6).small.2; omega))
                  cases hss : (aget tmp _).isSome with
                  | false =>
                    have HF := Lib.hid ((h6).post _ 4 (lay_four_none hsa hdn hss))
                    unfold FndPost at HFD
                    rw [hss] at HFD
                    clear hss hdn hsa cd5 hfl he4
                    go_wp2_with fail
                    refine HFD.out.mono ?_
                    rintro e9 w9 ⟨x9, rfl, hx9, _, rfl⟩
                    go_wp2_with fail
                    go_ret
                    exact HF.out
                  | true =>
                    have hlf := lay_four_some hsa hdn hss
                    have HDS := Lib.hid ((h6).does (by omega) (By.nil w6) ⟨2, tmp, [], []⟩ (.slice none 0 0) (by simp) (Rd.nil _ _ _) HTL.out (by simp) (by simp) (fun _ => rfl))
                    unfold FndPost at HFD
                    rw [hss] at HFD
                    generalize hr9 : DSt.step _ ⟨2, tmp, [], []⟩ = r9 at *
                    obtain ⟨D9, k9⟩ := r9
                    dsimp only at hlf
                    by_cases hk9 : k9 = 0
                    · rw [if_neg (by omega)] at hlf
                      have HLF := Lib.hid hlf
                      subst hk9
                      clear hss hdn hsa cd5 hfl he4 hr9 hlf
                      go_wp2_with fail
                      refine HFD.out.mono ?_
                      rintro e9 w9 ⟨x9, rfl, hx9, _, rfl⟩
                      go_wp2_with fail
                      refine HDS.out.mono ?_
                      rintro e9 w9 ⟨rfl, _, S9, h9⟩
                      have HF := Lib.hid (h9.post _ 4 HLF.out)
                      go_wp2_with fail
                      go_ret
                      exact HF.out
                    · rw [if_pos hk9] at hlf
                      have HLF := Lib.hid hlf
                      have hk9b : ((k9 : Int) != 0) = true := by simpa using hk9
                      clear hss hdn hsa cd5 hfl he4 hr9 hlf hk9
                      go_wp2_with fail
                      refine HFD.out.mono ?_
                      rintro e9 w9 ⟨x9, rfl, hx9, _, rfl⟩
                      go_wp2_with fail
                      refine HDS.out.mono ?_
                      rintro e9 w9 ⟨rfl, _, S9, h9⟩
                      have HF := Lib.hid (h9.post _ k9 HLF.out)
                      go_wp2_with fail
                      go_ret
                      exact HF.out
                · have HF := Lib.hid ((h6).post _ k6 (lay_other hsa6 he4))
                  have he4b : ((k6 : Int) == 4) = false := by simp; omega
                  clear he4
                  go_wp2_with fail
                  go_ret
                  exact HF.out
            · have hsx := h1 he
              have hsa3 : stepsAll (laySteps name tmp b) D = (Dx, e) := by
                rw [HSA2.out, stepsAll, hsx, if_pos he]
              have heb : ((e : Int) == 0) = false := by simp; omega
              clear h0 h1 hsx
              by_cases hlt : i < b.length
              · have htt : decide ((i : Int) < (b.length : Int)) = true := by simp; omega
                -- hL: the state; e: e; wr: the world; Sx: the blocks; hsa3: all steps' outcome
                have HT1 := Lib.hid hL
                by_cases he4 : e = 4
                · have hdn := hdn he4
                  have hsa := hsa3
                  rw [he4] at hsa ⊢
                  obtain ⟨no, nc, cd1, cd5, hfl⟩ := (hL).see
                  have HFD := Lib.hid (rf_find wr _ _ hfl tmp (by have := (hL).small.2; omega))
                  cases hss : (aget tmp _).isSome with
                  | false =>
                    have HF := Lib.hid ((hL).post _ 4 (lay_four_none hsa hdn hss))
                    unfold FndPost at HFD
                    rw [hss] at HFD
                    clear hss hdn hsa cd5 hfl he4
                    go_wp2_with fail
                    refine HFD.out.mono ?_
                    rintro e9 w9 ⟨x9, rfl, hx9, _, rfl⟩
                    go_wp2_with fail
                    go_ret
                    exact HF.out
                  | true =>
                    have hlf := lay_four_some hsa hdn hss
                    have HDS := Lib.hid ((hL).does (by omega) (By.nil wr) ⟨2, tmp, [], []⟩ (.slice none 0 0) (by simp) (Rd.nil _ _ _) HTL.out (by simp) (by simp) (fun _ => rfl))
                    unfold FndPost at HFD
                    rw [hss] at HFD
                    generalize hr9 : DSt.step _ ⟨2, tmp, [], []⟩ = r9 at *
                    obtain ⟨D9, k9⟩ := r9
                    dsimp only at hlf
                    by_cases hk9 : k9 = 0
                    · rw [if_neg (by omega)] at hlf
                      have HLF := Lib.hid hlf
                      subst hk9
                      clear hss hdn hsa cd5 hfl he4 hr9 hlf
                      go_wp2_with fail
                      refine HFD.out.mono ?_
                      rintro e9 w9 ⟨x9, rfl, hx9, _, rfl⟩
                      go_wp2_with fail
                      refine HDS.out.mono ?_
                      rintro e9 w9 ⟨rfl, _, S9, h9⟩
                      have HF := Lib.hid (h9.post _ 4 HLF.out)
                      go_wp2_with fail
                      go_ret
                      exact HF.out
                    · rw [if_pos hk9] at hlf
                      have HLF := Lib.hid hlf
                      have hk9b : ((k9 : Int) != 0) = true := by simpa using hk9
                      clear hss hdn hsa cd5 hfl he4 hr9 hlf hk9
                      go_wp2_with fail
                      refine HFD.out.mono ?_
                      rintro e9 w9 ⟨x9, rfl, hx9, _, rfl⟩
                      go_wp2_with fail
                      refine HDS.out.mono ?_
                      rintro e9 w9 ⟨rfl, _, S9, h9⟩
                      have HF := Lib.hid (h9.post _ k9 HLF.out)
                      go_wp2_with fail
                      go_ret
                      exact HF.out
                · have HF := Lib.hid ((hL).post _ e (lay_other hsa3 he4))
                  have he4b : ((e : Int) == 4) = false := by simp; omega
                  clear he4
                  go_wp2_with fail
                  go_ret
                  exact HF.out
              · have htt : decide ((i : Int) < (b.length : Int)) = false := by simp; omega
                -- hL: the state; e: e; wr: the world; Sx: the blocks; hsa3: all steps' outcome
                have HT1 := Lib.hid hL
                by_cases he4 : e = 4
                · have hdn := hdn he4
                  have hsa := hsa3
                  rw [he4] at hsa ⊢
                  obtain ⟨no, nc, cd1, cd5, hfl⟩ := (hL).see
                  have HFD := Lib.hid (rf_find wr _ _ hfl tmp (by have := (hL).small.2; omega))
                  cases hss : (aget tmp _).isSome with
                  | false =>
                    have HF := Lib.hid ((hL).post _ 4 (lay_four_none hsa hdn hss))
                    unfold FndPost at HFD
                    rw [hss] at HFD
                    clear hss hdn hsa cd5 hfl he4
                    go_wp2_with fail
                    refine HFD.out.mono ?_
                    rintro e9 w9 ⟨x9, rfl, hx9, _, rfl⟩
                    go_wp2_with fail
                    go_ret
                    exact HF.out
                  | true =>
                    have hlf := lay_four_some hsa hdn hss
                    have HDS := Lib.hid ((hL).does (by omega) (By.nil wr) ⟨2, tmp, [], []⟩ (.slice none 0 0) (by simp) (Rd.nil _ _ _) HTL.out (by simp) (by simp) (fun _ => rfl))
                    unfold FndPost at HFD
                    rw [hss] at HFD
                    generalize hr9 : DSt.step _ ⟨2, tmp, [], []⟩ = r9 at *
                    obtain ⟨D9, k9⟩ := r9
                    dsimp only at hlf
                    by_cases hk9 : k9 = 0
                    · rw [if_neg (by omega)] at hlf
                      have HLF := Lib.hid hlf
                      subst hk9
                      clear hss hdn hsa cd5 hfl he4 hr9 hlf
                      go_wp2_with fail
                      refine HFD.out.mono ?_
                      rintro e9 w9 ⟨x9, rfl, hx9, _, rfl⟩
                      go_wp2_with fail
                      refine HDS.out.mono ?_
                      rintro e9 w9 ⟨rfl, _, S9, h9⟩
                      have HF := Lib.hid (h9.post _ 4 HLF.out)
                      go_wp2_with fail
                      go_ret
                      exact HF.out
                    · rw [if_pos hk9] at hlf
                      have HLF := Lib.hid hlf
                      have hk9b : ((k9 : Int) != 0) = true := by simpa using hk9
                      clear hss hdn hsa cd5 hfl he4 hr9 hlf hk9
                      go_wp2_with fail
                      refine HFD.out.mono ?_
                      rintro e9 w9 ⟨x9, rfl, hx9, _, rfl⟩
                      go_wp2_with fail
                      refine HDS.out.mono ?_
                      rintro e9 w9 ⟨rfl, _, S9, h9⟩
                      have HF := Lib.hid (h9.post _ k9 HLF.out)
                      go_wp2_with fail
                      go_ret
                      exact HF.out
                · have HF := Lib.hid ((hL).post _ e (lay_other hsa3 he4))
                  have he4b : ((e : Int) == 4) = false := by simp; omega
                  clear he4
                  go_wp2_with fail
                  go_ret
                  exact HF.out
        | true =>
          have hcl := clear_some hdn hss
          have HD1 := Lib.hid (HL1.does (by omega) HBY ⟨2, tmp, [], []⟩ (.slice none 0 0) (by simp) (Rd.nil _ _ _) HTL.out (by simp) (by simp) (fun _ => rfl))
          have hdn1 : ((D.step ⟨2, tmp, [], []⟩).2 = 4 → (D.step ⟨2, tmp, [], []⟩).1.down = false) := fun h4 => step_four h4
          generalize hr1 : D.step ⟨2, tmp, [], []⟩ = r1 at *
          obtain ⟨D1, k1⟩ := r1
          dsimp only at hdn1
          have hsa1 : stepsAll (laySteps name tmp b) D = if k1 ≠ 0 then (D1, k1) else stepsAll [fun D => D.create tmp, fun D => D.write tmp b, fun D => D.sync, fun D => D.rename tmp name, fun D => D.sync] D1 := by rw [laySteps, stepsAll, hcl]
          rw [hss] at HFD0
          clear hss hcl hfl hdn hr1
          go_wp2_with fail
          refine HFD0.out.mono ?_
          rintro e0 w0 ⟨x0, rfl, hx0, _, rfl⟩
          go_wp2_with fail
          refine HD1.out.mono ?_
          rintro e1 w1 ⟨rfl, hB1, S1, h1⟩
          dsimp only at h1
          clear HD1 HFD0
          by_cases hk1 : k1 = 0
          rotate_left
          · rw [if_pos hk1] at hsa1
            have hk1b : ((k1 : Int) == 0) = false := by simp; omega
            -- through the loop, which is left at once; then as tail
            go_wp2_with fail
            go_loopw [11, 10] (fun x ev W => x = .int .i64 0 ∧ ev = .int .i64 k1 ∧ W = w1) (fun _ _ _ => 0)
            case atStart => exact ⟨rfl, rfl, rfl⟩
            case round =>
              obtain ⟨rfl, rfl, rfl⟩ := hrel
              by_cases hz : 0 < b.length
              · have htz : decide ((0 : Int) < (b.length : Int)) = true := by simp; omega
                -- h1: the state; k1: e; wr: the world; S1: the blocks; hsa1: all steps' outcome
                have HT1 := Lib.hid h1
                by_cases he4 : k1 = 4
                · have hdn := hdn1 he4
                  have hsa := hsa1
                  rw [he4] at hsa ⊢
                  obtain ⟨no, nc, cd1, cd5, hfl⟩ := (h1).see
                  have HFD := Lib.hid (rf_find wr _ _ hfl tmp (by have := (h1).small.2; omega))
                  cases hss : (aget tmp _).isSome with
                  | false =>
                    have HF := Lib.hid ((h1).post _ 4 (lay_four_none hsa hdn hss))
                    unfold FndPost at HFD
                    rw [hss] at HFD
                    clear hss hdn hsa cd5 hfl he4
                    go_wp2_with fail
                    refine HFD.out.mono ?_
                    rintro e9 w9 ⟨x9, rfl, hx9, _, rfl⟩
                    go_wp2_with fail
                    go_ret
                    exact HF.out
                  | true =>
                    have hlf := lay_four_some hsa hdn hss
                    have HDS := Lib.hid ((h1).does (by omega) (By.nil wr) ⟨2, tmp, [], []⟩ (.slice none 0 0) (by simp) (Rd.nil _ _ _) HTL.out (by simp) (by simp) (fun _ => rfl))
                    unfold FndPost at HFD
                    rw [hss] at HFD
                    generalize hr9 : DSt.step _ ⟨2, tmp, [], []⟩ = r9 at *
                    obtain ⟨D9, k9⟩ := r9
                    dsimp only at hlf
                    by_cases hk9 : k9 = 0
                    · rw [if_neg (by omega)] at hlf
                      have HLF := Lib.hid hlf
                      subst hk9
                      clear hss hdn hsa cd5 hfl he4 hr9 hlf
                      go_wp2_with fail
                      refine HFD.out.mono ?_
                      rintro e9 w9 ⟨x9, rfl, hx9, _, rfl⟩
                      go_wp2_with fail
                      refine HDS.out.mono ?_
                      rintro e9 w9 ⟨rfl, _, S9, h9⟩
                      have HF := Lib.hid (h9.post _ 4 HLF.out)
                      go_wp2_with fail
                      go_ret
                      exact HF.out
                    · rw [if_pos hk9] at hlf
                      have HLF := Lib.hid hlf
                      have hk9b : ((k9 : Int) != 0) = true := by simpa using hk9
                      clear hss hdn hsa cd5 hfl he4 hr9 hlf hk9
                      go_wp2_with fail
                      refine HFD.out.mono ?_
                      rintro e9 w9 ⟨x9, rfl, hx9, _, rfl⟩
                      go_wp2_with fail
                      refine HDS.out.mono ?_
                      rintro e9 w9 ⟨rfl, _, S9, h9⟩
                      have HF := Lib.hid (h9.post _ k9 HLF.out)
                      go_wp2_with fail
                      go_ret
                      exact HF.out
                · have HF := Lib.hid ((h1).post _ k1 (lay_other hsa1 he4))
                  have he4b : ((k1 : Int) == 4) = false := by simp; omega
                  clear he4
                  go_wp2_with fail
                  go_ret
                  exact HF.out
              · have htz : decide ((0 : Int) < (b.length : Int)) = false := by simpa using hz
                -- h1: the state; k1: e; wr: the world; S1: the blocks; hsa1: all steps' outcome
                have HT1 := Lib.hid h1
                by_cases he4 : k1 = 4
                · have hdn := hdn1 he4
                  have hsa := hsa1
                  rw [he4] at hsa ⊢
                  obtain ⟨no, nc, cd1, cd5, hfl⟩ := (h1).see
                  have HFD := Lib.hid (rf_find wr _ _ hfl tmp (by have := (h1).small.2; omega))
                  cases hss : (aget tmp _).isSome with
                  | false =>
                    have HF := Lib.hid ((h1).post _ 4 (lay_four_none hsa hdn hss))
                    unfold FndPost at HFD
                    rw [hss] at HFD
                    clear hss hdn hsa cd5 hfl he4
                    go_wp2_with fail
                    refine HFD.out.mono ?_
                    rintro e9 w9 ⟨x9, rfl, hx9, _, rfl⟩
                    go_wp2_with fail
                    go_ret
                    exact HF.out
                  | true =>
                    have hlf := lay_four_some hsa hdn hss
                    have HDS := Lib.hid ((h1).does (by omega) (By.nil wr) ⟨2, tmp, [], []⟩ (.slice none 0 0) (by simp) (Rd.nil _ _ _) HTL.out (by simp) (by simp) (fun _ => rfl))
                    unfold FndPost at HFD
                    rw [hss] at HFD
                    generalize hr9 : DSt.step _ ⟨2, tmp, [], []⟩ = r9 at *
                    obtain ⟨D9, k9⟩ := r9
                    dsimp only at hlf
                    by_cases hk9 : k9 = 0
                    · rw [if_neg (by omega)] at hlf
                      have HLF := Lib.hid hlf
                      subst hk9
                      clear hss hdn hsa cd5 hfl he4 hr9 hlf
                      go_wp2_with fail
                      refine HFD.out.mono ?_
                      rintro e9 w9 ⟨x9, rfl, hx9, _, rfl⟩
                      go_wp2_with fail
                      refine HDS.out.mono ?_
                      rintro e9 w9 ⟨rfl, _, S9, h9⟩
                      have HF := Lib.hid (h9.post _ 4 HLF.out)
                      go_wp2_with fail
                      go_ret
                      exact HF.out
                    · rw [if_pos hk9] at hlf
                      have HLF := Lib.hid hlf
                      have hk9b : ((k9 : Int) != 0) = true := by simpa using hk9
                      clear hss hdn hsa cd5 hfl he4 hr9 hlf hk9
                      go_wp2_with fail
                      refine HFD.out.mono ?_
                      rintro e9 w9 ⟨x9, rfl, hx9, _, rfl⟩
                      go_wp2_with fail
                      refine HDS.out.mono ?_
                      rintro e9 w9 ⟨rfl, _, S9, h9⟩
                      have HF := Lib.hid (h9.post _ k9 HLF.out)
                      go_wp2_with fail
                      go_ret
                      exact HF.out
                · have HF := Lib.hid ((h1).post _ k1 (lay_other hsa1 he4))
                  have he4b : ((k1 : Int) == 4) = false := by simp; omega
                  clear he4
                  go_wp2_with fail
                  go_ret
                  exact HF.out
          rw [if_neg (by omega)] at hsa1
          subst hk1
          have HS1 := Lib.hid hsa1
          clear hsa1 hdn1
          -- h1: the state; w1: the world; hB1: the blocks' bytes; HS1.out: all steps come to those behind the first; D1: the disk; 1: the count
          have HD2 := Lib.hid ((h1).does (by omega) hB1 ⟨0, tmp, [], []⟩ (.slice none 0 0) (by simp) (Rd.nil _ _ _) HTL.out (by simp) (by simp) (fun _ => rfl))
          have HSA1 := Lib.hid HS1.out
          have hdn2 : (((D1).step ⟨0, tmp, [], []⟩).2 = 4 → ((D1).step ⟨0, tmp, [], []⟩).1.down = false) := fun h4 => step_four h4
          rw [← DSt.create_step] at HD2 hdn2
          have HD9 := Lib.hid (DSt.create_step D1 tmp)
          generalize hr2 : (D1).create tmp = r2 at *
          obtain ⟨D2, k2⟩ := r2
          dsimp only at hdn2
          have hsa2 : stepsAll (laySteps name tmp b) D = if k2 ≠ 0 then (D2, k2) else stepsAll [fun D => D.write tmp b, fun D => D.sync, fun D => D.rename tmp name, fun D => D.sync] D2 := by
            rw [HSA1.out, stepsAll, hr2]
          clear hr2 HD9
          go_wp2_with fail
          refine HD2.out.mono ?_
          rintro e2 w2 ⟨rfl, hB2, S2, h2⟩
          dsimp only at h2
          clear HD2 HSA1
          by_cases hk2 : k2 = 0
          rotate_left
          · rw [if_pos hk2] at hsa2
            have hk2b : ((k2 : Int) == 0) = false := by simp; omega
            -- through the loop, which is left at once; then as tail
            go_wp2_with fail
            go_loopw [11, 10] (fun x ev W => x = .int .i64 0 ∧ ev = .int .i64 k2 ∧ W = w2) (fun _ _ _ => 0)
            case atStart => exact ⟨rfl, rfl, rfl⟩
            case round =>
              obtain ⟨rfl, rfl, rfl⟩ := hrel
              by_cases hz : 0 < b.length
              · have htz : decide ((0 : Int) < (b.length : Int)) = true := by simp; omega
                -- h2: the state; k2: e; wr: the world; S2: the blocks; hsa2: all steps' outcome
                have HT1 := Lib.hid h2
                by_cases he4 : k2 = 4
                · have hdn := hdn2 he4
                  have hsa := hsa2
                  rw [he4] at hsa ⊢
                  obtain ⟨no, nc, cd1, cd5, hfl⟩ := (h2).see
                  have HFD := Lib.hid (rf_find wr _ _ hfl tmp (by have := (h2).small.2; omega))
                  cases hss : (aget tmp _).isSome with
                  | false =>
                    have HF := Lib.hid ((h2).post _ 4 (lay_four_none hsa hdn hss))
                    unfold FndPost at HFD
                    rw [hss] at HFD
                    clear hss hdn hsa cd5 hfl he4
                    go_wp2_with fail
                    refine HFD.out.mono ?_
                    rintro e9 w9 ⟨x9, rfl, hx9, _, rfl⟩
                    go_wp2_with fail
                    go_ret
                    exact HF.out
                  | true =>
                    have hlf := lay_four_some hsa hdn hss
                    have HDS := Lib.hid ((h2).does (by omega) (By.nil wr) ⟨2, tmp, [], []⟩ (.slice none 0 0) (by simp) (Rd.nil _ _ _) HTL.out (by simp) (by simp) (fun _ => rfl))
                    unfold FndPost at HFD
                    rw [hss] at HFD
                    generalize hr9 : DSt.step _ ⟨2, tmp, [], []⟩ = r9 at *
                    obtain ⟨D9, k9⟩ := r9
                    dsimp only at hlf
                    by_cases hk9 : k9 = 0
                    · rw [if_neg (by omega)] at hlf
                      have HLF := Lib.hid hlf
                      subst hk9
                      clear hss hdn hsa cd5 hfl he4 hr9 hlf
                      go_wp2_with fail
                      refine HFD.out.mono ?_
                      rintro e9 w9 ⟨x9, rfl, hx9, _, rfl⟩
                      go_wp2_with fail
                      refine HDS.out.mono ?_
                      rintro e9 w9 ⟨rfl, _, S9, h9⟩
                      have HF := Lib.hid (h9.post _ 4 HLF.out)
                      go_wp2_with fail
                      go_ret
                      exact HF.out
                    · rw [if_pos hk9] at hlf
                      have HLF := Lib.hid hlf
                      have hk9b : ((k9 : Int) != 0) = true := by simpa using hk9
                      clear hss hdn hsa cd5 hfl he4 hr9 hlf hk9
                      go_wp2_with fail
                      refine HFD.out.mono ?_
                      rintro e9 w9 ⟨x9, rfl, hx9, _, rfl⟩
                      go_wp2_with fail
                      refine HDS.out.mono ?_
                      rintro e9 w9 ⟨rfl, _, S9, h9⟩
                      have HF := Lib.hid (h9.post _ k9 HLF.out)
                      go_wp2_with fail
                      go_ret
                      exact HF.out
                · have HF := Lib.hid ((h2).post _ k2 (lay_other hsa2 he4))
                  have he4b : ((k2 : Int) == 4) = false := by simp; omega
                  clear he4
                  go_wp2_with fail
                  go_ret
                  exact HF.out
              · have htz : decide ((0 : Int) < (b.length : Int)) = false := by simpa using hz
                -- h2: the state; k2: e; wr: the world; S2: the blocks; hsa2: all steps' outcome
                have HT1 := Lib.hid h2
                by_cases he4 : k2 = 4
                · have hdn := hdn2 he4
                  have hsa := hsa2
                  rw [he4] at hsa ⊢
                  obtain ⟨no, nc, cd1, cd5, hfl⟩ := (h2).see
                  have HFD := Lib.hid (rf_find wr _ _ hfl tmp (by have := (h2).small.2; omega))
                  cases hss : (aget tmp _).isSome with
                  | false =>
                    have HF := Lib.hid ((h2).post _ 4 (lay_four_none hsa hdn hss))
                    unfold FndPost at HFD
                    rw [hss] at HFD
                    clear hss hdn hsa cd5 hfl he4
                    go_wp2_with fail
                    refine HFD.out.mono ?_
                    rintro e9 w9 ⟨x9, rfl, hx9, _, rfl⟩
                    go_wp2_with fail
                    go_ret
                    exact HF.out
                  | true =>
                    have hlf := lay_four_some hsa hdn hss
                    have HDS := Lib.hid ((h2).does (by omega) (By.nil wr) ⟨2, tmp, [], []⟩ (.slice none 0 0) (by simp) (Rd.nil _ _ _) HTL.out (by simp) (by simp) (fun _ => rfl))
                    unfold FndPost at HFD
                    rw [hss] at HFD
                    generalize hr9 : DSt.step _ ⟨2, tmp, [], []⟩ = r9 at *
                    obtain ⟨D9, k9⟩ := r9
                    dsimp only at hlf
                    by_cases hk9 : k9 = 0
                    · rw [if_neg (by omega)] at hlf
                      have HLF := Lib.hid hlf
                      subst hk9
                      clear hss hdn hsa cd5 hfl he4 hr9 hlf
                      go_wp2_with fail
                      refine HFD.out.mono ?_
                      rintro e9 w9 ⟨x9, rfl, hx9, _, rfl⟩
                      go_wp2_with fail
                      refine HDS.out.mono ?_
                      rintro e9 w9 ⟨rfl, _, S9, h9⟩
                      have HF := Lib.hid (h9.post _ 4 HLF.out)
                      go_wp2_with fail
                      go_ret
                      exact HF.out
                    · rw [if_pos hk9] at hlf
                      have HLF := Lib.hid hlf
                      have hk9b : ((k9 : Int) != 0) = true := by simpa using hk9
                      clear hss hdn hsa cd5 hfl he4 hr9 hlf hk9
                      go_wp2_with fail
                      refine HFD.out.mono ?_
                      rintro e9 w9 ⟨x9, rfl, hx9, _, rfl⟩
                      go_wp2_with fail
                      refine HDS.out.mono ?_
                      rintro e9 w9 ⟨rfl, _, S9, h9⟩
                      have HF := Lib.hid (h9.post _ k9 HLF.out)
                      go_wp2_with fail
                      go_ret
                      exact HF.out
                · have HF := Lib.hid ((h2).post _ k2 (lay_other hsa2 he4))
                  have he4b : ((k2 : Int) == 4) = false := by simp; omega
                  clear he4
                  go_wp2_with fail
                  go_ret
                  exact HF.out
          rw [if_neg (by omega)] at hsa2
          subst hk2
          have HSA2 := Lib.hid hsa2
          clear hsa2 hdn2
          go_wp2_with fail
          go_loopw [11, 10] (fun x ev W => LpR w d S D2 tmp b (.slice bo b.length bc) x ev W) (fun x _ _ => b.length + 2097152 - (intOf x).toNat)
          case atStart => exact ⟨0, 0, _, S2, D2, rfl, rfl, by omega, by omega, h2, hB2, fun h4 => by omega, fun _ => by simp, fun h4 => absurd rfl h4⟩
          case round =>
            obtain ⟨i, e, n, Sx, Dx, rfl, rfl, hi, hnn, hL, hB, hdn, h0, h1⟩ := hrel
            by_cases he : e = 0
            · subst he
              by_cases hlt : i < b.length
              · have htt : decide ((i : Int) < (b.length : Int)) = true := by simp; omega
                by_cases hend : b.length < i + 1048576
                · have hte : decide ((b.length : Int) < (i : Int) + 1048576) = true := by simp; omega
                  -- x: what is asked of the end
                  obtain ⟨q, hq⟩ : ∃ q, q = (b.drop i).take 1048576 := ⟨_, rfl⟩
                  have HCT := Lib.hid (show (b.drop i).take (b.length - i) = q from by first | exact hq.symm | (rw [hq]; exact (by rw [List.take_of_length_le (by simp), List.take_of_length_le (by simp; omega)])))
                  have HQL := Lib.hid (show q.length = (b.length - i) ∧ q.length ≤ 1048576 from ⟨by rw [hq, List.length_take, List.length_drop]; omega, by rw [hq, List.length_take]; omega⟩)
                  have HDS := Lib.hid (fun (v : Value) (hv : By wr v q) => hL.does (by omega) hB ⟨1, tmp, [], q⟩ v (by simp) hv HTL.out (by simp) (by have := HQL.out.2; show q.length ≤ _; omega) (by simp))
                  rw [← DSt.append_step] at HDS
                  generalize hr : Dx.append tmp q = r at *
                  obtain ⟨D4, k4⟩ := r
                  have HNX := Lib.hid (show (k4 = 4 → D4.down = false) ∧ (k4 = 0 → D2.write tmp b = D4.write tmp (b.drop (i + 1048576))) ∧ (k4 ≠ 0 → D2.write tmp b = (D4, k4)) from by
                    have hw := h0 rfl
                    rw [DSt.write_cons Dx tmp (b.drop i) (by rw [List.length_drop]; omega), ← hq, hr, List.drop_drop] at hw
                    dsimp only at hw
                    refine ⟨fun h4 => ?_, fun h4 => ?_, fun h4 => ?_⟩
                    · have := step_four (D := Dx) (c := ⟨1, tmp, [], q⟩) (by rw [← DSt.append_step, hr]; exact h4)
                      rwa [← DSt.append_step, hr] at this
                    · rw [hw, if_neg (by omega)]
                    · rw [hw, if_pos h4])
                  clear hr h0 h1 hdn hq
                  go_wp2_with ((with_reducible show wpList _ _ _ (⟨_, .slice _ _ _ _ _, _, _, _, _⟩ :: _) _ _); refine wpl_cut_by (n := i) (m := (b.length - i)) elU8 rfl rfl hB rfl rfl rfl (by omega) (by omega) (by omega) ?_; intro v5 hb5 _; rw [HCT.out] at hb5; obtain ⟨ao5, cap5, hs5⟩ := By.val hb5; subst hs5)
                  refine (HDS.out _ hb5).mono ?_
                  rintro e5 w5 ⟨rfl, hB5, S5, hL5⟩
                  dsimp only at hL5
                  go_wp2_with fail
                  exact ⟨⟨i + 1048576, k4, n + 1, S5, D4, by simp, rfl, by omega, by omega, hL5, hB5, HNX.out.1, HNX.out.2.1, HNX.out.2.2⟩, by simp [intOf]; omega⟩
                · have hte : decide ((b.length : Int) < (i : Int) + 1048576) = false := by simp; omega
                  -- x: what is asked of the end
                  obtain ⟨q, hq⟩ : ∃ q, q = (b.drop i).take 1048576 := ⟨_, rfl⟩
                  have HCT := Lib.hid (show (b.drop i).take 1048576 = q from by first | exact hq.symm | (rw [hq]; exact rfl))
                  have HQL := Lib.hid (show q.length = 1048576 ∧ q.length ≤ 1048576 from ⟨by rw [hq, List.length_take, List.length_drop]; omega, by rw [hq, List.length_take]; omega⟩)
                  have HDS := Lib.hid (fun (v : Value) (hv : By wr v q) => hL.does (by omega) hB ⟨1, tmp, [], q⟩ v (by simp) hv HTL.out (by simp) (by have := HQL.out.2; show q.length ≤ _; omega) (by simp))
                  rw [← DSt.append_step] at HDS
                  generalize hr : Dx.append tmp q = r at *
                  obtain ⟨D4, k4⟩ := r
                  have HNX := Lib.hid (show (k4 = 4 → D4.down = false) ∧ (k4 = 0 → D2.write tmp b = D4.write tmp (b.drop (i + 1048576))) ∧ (k4 ≠ 0 → D2.write tmp b = (D4, k4)) from by
                    have hw := h0 rfl
                    rw [DSt.write_cons Dx tmp (b.drop i) (by rw [List.length_drop]; omega), ← hq, hr, List.drop_drop] at hw
                    dsimp only at hw
                    refine ⟨fun h4 => ?_, fun h4 => ?_, fun h4 => ?_⟩
                    · have := step_four (D := Dx) (c := ⟨1, tmp, [], q⟩) (by rw [← DSt.append_step, hr]; exact h4)
                      rwa [← DSt.append_step, hr] at this
                    · rw [hw, if_neg (by omega)]
                    · rw [hw, if_pos h4])
                  clear hr h0 h1 hdn hq
                  go_wp2_with ((with_reducible show wpList _ _ _ (⟨_, .slice _ _ _ _ _, _, _, _, _⟩ :: _) _ _); refine wpl_cut_by (n := i) (m := 1048576) elU8 rfl rfl hB rfl rfl rfl (by omega) (by omega) (by omega) ?_; intro v5 hb5 _; rw [HCT.out] at hb5; obtain ⟨ao5, cap5, hs5⟩ := By.val hb5; subst hs5)
                  refine (HDS.out _ hb5).mono ?_
                  rintro e5 w5 ⟨rfl, hB5, S5, hL5⟩
                  dsimp only at hL5
                  go_wp2_with fail
                  exact ⟨⟨i + 1048576, k4, n + 1, S5, D4, by simp, rfl, by omega, by omega, hL5, hB5, HNX.out.1, HNX.out.2.1, HNX.out.2.2⟩, by simp [intOf]; omega⟩
              · have htt : decide ((i : Int) < (b.length : Int)) = false := by simp; omega
                have hw := h0 rfl
                rw [DSt.write_nil Dx tmp (b.drop i) (by rw [List.length_drop]; omega)] at hw
                have HY := Lib.hid (hL.syncs hB)
                generalize hr4 : Dx.sync = r4 at *
                obtain ⟨D4, k4⟩ := r4
                have hn4 : k4 ≠ 4 := by have := @sync_four Dx; rw [hr4] at this; exact this
                have hsa4 : stepsAll (laySteps name tmp b) D = if k4 ≠ 0 then (D4, k4) else stepsAll [fun D => D.rename tmp name, fun D => D.sync] D4 := by
                  rw [HSA2.out, stepsAll, hw, if_neg (by simp), stepsAll, hr4]
                clear hr4 hw h0 h1 hdn
                go_wp2_with fail
                refine HY.out.mono ?_
                rintro e4 w4 ⟨rfl, hB4, S4, h4⟩
                dsimp only at h4
                clear HY
                by_cases hk4 : k4 = 0
                rotate_left
                · rw [if_pos hk4] at hsa4
                  have hk4b : ((k4 : Int) == 0) = false := by simp; omega
                  -- h4: the state; k4: e; w4: the world; S4: the blocks; hsa4: all steps' outcome
                  have HT1 := Lib.hid h4
                  by_cases he4 : k4 = 4
                  · have hdn := (fun h5 => (absurd h5 hn4 : D4.down = false)) he4
                    have hsa := hsa4
                    rw [he4] at hsa ⊢
                    obtain ⟨no, nc, cd1, cd5, hfl⟩ := (h4).see
                    have HFD := Lib.hid (rf_find w4 _ _ hfl tmp (by have := (h4).small.2; omega))
                    cases hss : (aget tmp _).isSome with
                    | false =>
                      have HF := Lib.hid ((h4).post _ 4 (lay_four_none hsa hdn hss))
                      unfold FndPost at HFD
                      rw [hss] at HFD
                      clear hss hdn hsa cd5 hfl he4
                      go_wp2_with fail
                      refine HFD.out.mono ?_
                      rintro e9 w9 ⟨x9, rfl, hx9, _, rfl⟩
                      go_wp2_with fail
                      go_ret
                      exact HF.out
                    | true =>
                      have hlf := lay_four_some hsa hdn hss
                      have HDS := Lib.hid ((h4).does (by omega) (By.nil w4) ⟨2, tmp, [], []⟩ (.slice none 0 0) (by simp) (Rd.nil _ _ _) HTL.out (by simp) (by simp) (fun _ => rfl))
                      unfold FndPost at HFD
                      rw [hss] at HFD
                      generalize hr9 : DSt.step _ ⟨2, tmp, [], []⟩ = r9 at *
                      obtain ⟨D9, k9⟩ := r9
                      dsimp only at hlf
                      by_cases hk9 : k9 = 0
                      · rw [if_neg (by omega)] at hlf
                        have HLF := Lib.hid hlf
                        subst hk9
                        clear hss hdn hsa cd5 hfl he4 hr9 hlf
                        go_wp2_with fail
                        refine HFD.out.mono ?_
                        rintro e9 w9 ⟨x9, rfl, hx9, _, rfl⟩
                        go_wp2_with fail
                        refine HDS.out.mono ?_
                        rintro e9 w9 ⟨rfl, _, S9, h9⟩
                        have HF := Lib.hid (h9.post _ 4 HLF.out)
                        go_wp2_with fail
                        go_ret
                        exact HF.out
                      · rw [if_pos hk9] at hlf
                        have HLF := Lib.hid hlf
                        have hk9b : ((k9 : Int) != 0) = true := by simpa using hk9
                        clear hss hdn hsa cd5 hfl he4 hr9 hlf hk9
                        go_wp2_with fail
                        refine HFD.out.mono ?_
                        rintro e9 w9 ⟨x9, rfl, hx9, _, rfl⟩
                        go_wp2_with fail
                        refine HDS.out.mono ?_
                        rintro e9 w9 ⟨rfl, _, S9, h9⟩
                        have HF := Lib.hid (h9.post _ k9 HLF.out)
                        go_wp2_with fail
                        go_ret
                        exact HF.out
                  · have HF := Lib.hid ((h4).post _ k4 (lay_other hsa4 he4))
                    have he4b : ((k4 : Int) == 4) = false := by simp; omega
                    clear he4
                    go_wp2_with fail
                    go_ret
                    exact HF.out
                rw [if_neg (by omega)] at hsa4
                subst hk4
                have HSA4 := Lib.hid hsa4
                clear hsa4 hn4
                have HD5 := Lib.hid (h4.does (by omega) hB4 ⟨3, tmp, name, []⟩ (.slice none 0 0) (by simp) (Rd.nil _ _ _) HTL.out HNL.out (by simp) (fun _ => rfl))
                have hdn5 : ((D4.step ⟨3, tmp, name, []⟩).2 = 4 → (D4.step ⟨3, tmp, name, []⟩).1.down = false) := fun h5 => step_four h5
                rw [← DSt.rename_step] at HD5 hdn5
                generalize hr5 : D4.rename tmp name = r5 at *
                obtain ⟨D5, k5⟩ := r5
                dsimp only at hdn5
                have hsa5 : stepsAll (laySteps name tmp b) D = if k5 ≠ 0 then (D5, k5) else stepsAll [fun D => D.sync] D5 := by
                  rw [HSA4.out, stepsAll, hr5]
                clear hr5
                go_wp2_with fail
                refine HD5.out.mono ?_
                rintro e5 w5 ⟨rfl, hB5, S5, h5⟩
                dsimp only at h5
                clear HD5
                by_cases hk5 : k5 = 0
                rotate_left
                · rw [if_pos hk5] at hsa5
                  have hk5b : ((k5 : Int) == 0) = false := by simp; omega
                  -- h5: the state; k5: e; w5: the world; S5: the blocks; hsa5: all steps' outcome
                  have HT1 := Lib.hid h5
                  by_cases he4 : k5 = 4
                  · have hdn := hdn5 he4
                    have hsa := hsa5
                    rw [he4] at hsa ⊢
                    obtain ⟨no, nc, cd1, cd5, hfl⟩ := (h5).see
                    have HFD := Lib.hid (rf_find w5 _ _ hfl tmp (by have := (h5).small.2; omega))
                    cases hss : (aget tmp _).isSome with
                    | false =>
                      have HF := Lib.hid ((h5).post _ 4 (lay_four_none hsa hdn hss))
                      unfold FndPost at HFD
                      rw [hss] at HFD
                      clear hss hdn hsa cd5 hfl he4
                      go_wp2_with fail
                      refine HFD.out.mono ?_
                      rintro e9 w9 ⟨x9, rfl, hx9, _, rfl⟩
                      go_wp2_with fail
                      go_ret
                      exact HF.out
                    | true =>
                      have hlf := lay_four_some hsa hdn hss
                      have HDS := Lib.hid ((h5).does (by omega) (By.nil w5) ⟨2, tmp, [], []⟩ (.slice none 0 0) (by simp) (Rd.nil _ _ _) HTL.out (by simp) (by simp) (fun _ => rfl))
                      unfold FndPost at HFD
                      rw [hss] at HFD
                      generalize hr9 : DSt.step _ ⟨2, tmp, [], []⟩ = r9 at *
                      obtain ⟨D9, k9⟩ := r9
                      dsimp only at hlf
                      by_cases hk9 : k9 = 0
                      · rw [if_neg (by omega)] at hlf
                        have HLF := Lib.hid hlf
                        subst hk9
                        clear hss hdn hsa cd5 hfl he4 hr9 hlf
                        go_wp2_with fail
                        refine HFD.out.mono ?_
                        rintro e9 w9 ⟨x9, rfl, hx9, _, rfl⟩
                        go_wp2_with fail
                        refine HDS.out.mono ?_
                        rintro e9 w9 ⟨rfl, _, S9, h9⟩
                        have HF := Lib.hid (h9.post _ 4 HLF.out)
                        go_wp2_with fail
                        go_ret
                        exact HF.out
                      · rw [if_pos hk9] at hlf
                        have HLF := Lib.hid hlf
                        have hk9b : ((k9 : Int) != 0) = true := by simpa using hk9
                        clear hss hdn hsa cd5 hfl he4 hr9 hlf hk9
                        go_wp2_with fail
                        refine HFD.out.mono ?_
                        rintro e9 w9 ⟨x9, rfl, hx9, _, rfl⟩
                        go_wp2_with fail
                        refine HDS.out.mono ?_
                        rintro e9 w9 ⟨rfl, _, S9, h9⟩
                        have HF := Lib.hid (h9.post _ k9 HLF.out)
                        go_wp2_with fail
                        go_ret
                        exact HF.out
                  · have HF := Lib.hid ((h5).post _ k5 (lay_other hsa5 he4))
                    have he4b : ((k5 : Int) == 4) = false := by simp; omega
                    clear he4
                    go_wp2_with fail
                    go_ret
                    exact HF.out
                rw [if_neg (by omega)] at hsa5
                subst hk5
                have HSA5 := Lib.hid hsa5
                clear hsa5 hdn5
                have HY6 := Lib.hid (h5.syncs hB5)
                generalize hr6 : D5.sync = r6 at *
                obtain ⟨D6, k6⟩ := r6
                have hn6 : k6 ≠ 4 := by have := @sync_four D5; rw [hr6] at this; exact this
                have hsa6 : stepsAll (laySteps name tmp b) D = (D6, k6) := by
                  rw [HSA5.out, stepsAll, hr6]
                  split
                  · rfl
                  · rename_i h9
                    rw [stepsAll]
                    congr 1
                    have : k6 = 0 := by simpa using h9
                    exact this.symm
                clear hr6
                go_wp2_with fail
                refine HY6.out.mono ?_
                rintro e6 w6 ⟨rfl, hB6, S6, h6⟩
                dsimp only at h6
                clear HY6
                -- h6: the state; k6: e; w6: the world; S6: the blocks; hsa6: all steps' outcome
                have HT1 := Lib.hid h6
                by_cases he4 : k6 = 4
                · have hdn := (fun h7 => (absurd h7 hn6 : D6.down = false)) he4
                  have hsa := hsa6
                  rw [he4] at hsa ⊢
                  obtain ⟨no, nc, cd1, cd5, hfl⟩ := (h6).see
                  have HFD := Lib.hid (rf_find w6 _ _ hfl tmp (by have := (h6).small.2; omega))
                  cases hss : (aget tmp _).isSome with
                  | false =>
                    have HF := Lib.hid ((h6).post _ 4 (lay_four_none hsa hdn hss))
                    unfold FndPost at HFD
                    rw [hss] at HFD
                    clear hss hdn hsa cd5 hfl he4
                    go_wp2_with fail
                    refine HFD.out.mono ?_
                    rintro e9 w9 ⟨x9, rfl, hx9, _, rfl⟩
                    go_wp2_with fail
                    go_ret
                    exact HF.out
                  | true =>
                    have hlf := lay_four_some hsa hdn hss
                    have HDS := Lib.hid ((h6).does (by omega) (By.nil w6) ⟨2, tmp, [], []⟩ (.slice none 0 0) (by simp) (Rd.nil _ _ _) HTL.out (by simp) (by simp) (fun _ => rfl))
                    unfold FndPost at HFD
                    rw [hss] at HFD
                    generalize hr9 : DSt.step _ ⟨2, tmp, [], []⟩ = r9 at *
                    obtain ⟨D9, k9⟩ := r9
                    dsimp only at hlf
                    by_cases hk9 : k9 = 0
                    · rw [if_neg (by omega)] at hlf
                      have HLF := Lib.hid hlf
                      subst hk9
                      clear hss hdn hsa cd5 hfl he4 hr9 hlf
                      go_wp2_with fail
                      refine HFD.out.mono ?_
                      rintro e9 w9 ⟨x9, rfl, hx9, _, rfl⟩
                      go_wp2_with fail
                      refine HDS.out.mono ?_
                      rintro e9 w9 ⟨rfl, _, S9, h9⟩
                      have HF := Lib.hid (h9.post _ 4 HLF.out)
                      go_wp2_with fail
                      go_ret
                      exact HF.out
                    · rw [if_pos hk9] at hlf
                      have HLF := Lib.hid hlf
                      have hk9b : ((k9 : Int) != 0) = true := by simpa using hk9
                      clear hss hdn hsa cd5 hfl he4 hr9 hlf hk9
                      go_wp2_with fail
                      refine HFD.out.mono ?_
                      rintro e9 w9 ⟨x9, rfl, hx9, _, rfl⟩
                      go_wp2_with fail
                      refine HDS.out.mono ?_
                      rintro e9 w9 ⟨rfl, _, S9, h9⟩
                      have HF := Lib.hid (h9.post _ k9 HLF.out)
                      go_wp2_with fail
                      go_ret
                      exact HF.out
                · have HF := Lib.hid ((h6).post _ k6 (lay_other hsa6 he4))
                  have he4b : ((k6 : Int) == 4) = false := by simp; omega
                  clear he4
                  go_wp2_with fail
                  go_ret
                  exact HF.out
            · have hsx := h1 he
              have hsa3 : stepsAll (laySteps name tmp b) D = (Dx, e) := by
                rw [HSA2.out, stepsAll, hsx, if_pos he]
              have heb : ((e : Int) == 0) = false := by simp; omega
              clear h0 h1 hsx
              by_cases hlt : i < b.length
              · have htt : decide ((i : Int) < (b.length : Int)) = true := by simp; omega
                -- hL: the state; e: e; wr: the world; Sx: the blocks; hsa3: all steps' outcome
                have HT1 := Lib.hid hL
                by_cases he4 : e = 4
                · have hdn := hdn he4
                  have hsa := hsa3
                  rw [he4] at hsa ⊢
                  obtain ⟨no, nc, cd1, cd5, hfl⟩ := (hL).see
                  have HFD := Lib.hid (rf_find wr _ _ hfl tmp (by have := (hL).small.2; omega))
                  cases hss : (aget tmp _).isSome with
                  | false =>
                    have HF := Lib.hid ((hL).post _ 4 (lay_four_none hsa hdn hss))
                    unfold FndPost at HFD
                    rw [hss] at HFD
                    clear hss hdn hsa cd5 hfl he4
                    go_wp2_with fail
                    refine HFD.out.mono ?_
                    rintro e9 w9 ⟨x9, rfl, hx9, _, rfl⟩
                    go_wp2_with fail
                    go_ret
                    exact HF.out
                  | true =>
                    have hlf := lay_four_some hsa hdn hss
                    have HDS := Lib.hid ((hL).does (by omega) (By.nil wr) ⟨2, tmp, [], []⟩ (.slice none 0 0) (by simp) (Rd.nil _ _ _) HTL.out (by simp) (by simp) (fun _ => rfl))
                    unfold FndPost at HFD
                    rw [hss] at HFD
                    generalize hr9 : DSt.step _ ⟨2, tmp, [], []⟩ = r9 at *
                    obtain ⟨D9, k9⟩ := r9
                    dsimp only at hlf
                    by_cases hk9 : k9 = 0
                    · rw [if_neg (by omega)] at hlf
                      have HLF := Lib.hid hlf
                      subst hk9
                      clear hss hdn hsa cd5 hfl he4 hr9 hlf
                      go_wp2_with fail
                      refine HFD.out.mono ?_
                      rintro e9 w9 ⟨x9, rfl, hx9, _, rfl⟩
                      go_wp2_with fail
                      refine HDS.out.mono ?_
                      rintro e9 w9 ⟨rfl, _, S9, h9⟩
                      have HF := Lib.hid (h9.post _ 4 HLF.out)
                      go_wp2_with fail
                      go_ret
                      exact HF.out
                    · rw [if_pos hk9] at hlf
                      have HLF := Lib.hid hlf
                      have hk9b : ((k9 : Int) != 0) = true := by simpa using hk9
                      clear hss hdn hsa cd5 hfl he4 hr9 hlf hk9
                      go_wp2_with fail
                      refine HFD.out.mono ?_
                      rintro e9 w9 ⟨x9, rfl, hx9, _, rfl⟩
                      go_wp2_with fail
                      refine HDS.out.mono ?_
                      rintro e9 w9 ⟨rfl, _, S9, h9⟩
                      have HF := Lib.hid (h9.post _ k9 HLF.out)
                      go_wp2_with fail
                      go_ret
                      exact HF.out
                · have HF := Lib.hid ((hL).post _ e (lay_other hsa3 he4))
                  have he4b : ((e : Int) == 4) = false := by simp; omega
                  clear he4
                  go_wp2_with fail
                  go_ret
                  exact HF.out
              · have htt : decide ((i : Int) < (b.length : Int)) = false := by simp; omega
                -- hL: the state; e: e; wr: the world; Sx: the blocks; hsa3: all steps' outcome
                have HT1 := Lib.hid hL
                by_cases he4 : e = 4
                · have hdn := hdn he4
                  have hsa := hsa3
                  rw [he4] at hsa ⊢
                  obtain ⟨no, nc, cd1, cd5, hfl⟩ := (hL).see
                  have HFD := Lib.hid (rf_find wr _ _ hfl tmp (by have := (hL).small.2; omega))
                  cases hss : (aget tmp _).isSome with
                  | false =>
                    have HF := Lib.hid ((hL).post _ 4 (lay_four_none hsa hdn hss))
                    unfold FndPost at HFD
                    rw [hss] at HFD
                    clear hss hdn hsa cd5 hfl he4
                    go_wp2_with fail
                    refine HFD.out.mono ?_
                    rintro e9 w9 ⟨x9, rfl, hx9, _, rfl⟩
                    go_wp2_with fail
                    go_ret
                    exact HF.out
                  | true =>
                    have hlf := lay_four_some hsa hdn hss
                    have HDS := Lib.hid ((hL).does (by omega) (By.nil wr) ⟨2, tmp, [], []⟩ (.slice none 0 0) (by simp) (Rd.nil _ _ _) HTL.out (by simp) (by simp) (fun _ => rfl))
                    unfold FndPost at HFD
                    rw [hss] at HFD
                    generalize hr9 : DSt.step _ ⟨2, tmp, [], []⟩ = r9 at *
                    obtain ⟨D9, k9⟩ := r9
                    dsimp only at hlf
                    by_cases hk9 : k9 = 0
                    · rw [if_neg (by omega)] at hlf
                      have HLF := Lib.hid hlf
                      subst hk9
                      clear hss hdn hsa cd5 hfl he4 hr9 hlf
                      go_wp2_with fail
                      refine HFD.out.mono ?_
                      rintro e9 w9 ⟨x9, rfl, hx9, _, rfl⟩
                      go_wp2_with fail
                      refine HDS.out.mono ?_
                      rintro e9 w9 ⟨rfl, _, S9, h9⟩
                      have HF := Lib.hid (h9.post _ 4 HLF.out)
                      go_wp2_with fail
                      go_ret
                      exact HF.out
                    · rw [if_pos hk9] at hlf
                      have HLF := Lib.hid hlf
                      have hk9b : ((k9 : Int) != 0) = true := by simpa using hk9
                      clear hss hdn hsa cd5 hfl he4 hr9 hlf hk9
                      go_wp2_with fail
                      refine HFD.out.mono ?_
                      rintro e9 w9 ⟨x9, rfl, hx9, _, rfl⟩
                      go_wp2_with fail
                      refine HDS.out.mono ?_
                      rintro e9 w9 ⟨rfl, _, S9, h9⟩
                      have HF := Lib.hid (h9.post _ k9 HLF.out)
                      go_wp2_with fail
                      go_ret
                      exact HF.out
                · have HF := Lib.hid ((hL).post _ e (lay_other hsa3 he4))
                  have he4b : ((e : Int) == 4) = false := by simp; omega
                  clear he4
                  go_wp2_with fail
                  go_ret
                  exact HF.out
theorem rj_lay (w : World) (d : Nat) (S : List Nat) (D : DSt) (h : RDiskAt w d S D) (name : List UInt8) (hn : name.length ≤ 1000) (rv : Value) (l : List (List UInt8)) (hl : Recs w rv l) (hlen : l.length ≤ 100000000) (hb : (framesB l).length ≤ 100000000) (hsm : Small D 800000000) :
    Calls Tryz.prog 68 #[.pointer (some ⟨d, 0, none⟩), encS name, rv] w (RPost w d S (D.lay name (name ++ [43]) (framesB l))) := rj_lay_go w d S D h name hn rv l hl hlen hb hsm _ _ rfl rfl
end Go.Proofs.YthfbfdkjgkkpcaaGreat

namespace Go.Proofs.YthfbfdkjgkkpcaaGreat
open Go Go.RowKit

def ROpenPost (w : World) (d : Nat) (S : List Nat) (r : DSt × Nat) (name : List UInt8) (recs : List (List UInt8)) (sz : Nat) (e : Ending) (w' : World) : Prop :=
  if r.2 = 0 then ∃ j S', e = .returned (.tuple #[.pointer (some ⟨j, 0, none⟩), .int .i64 0]) ∧ w.heap.size ≤ j ∧ RJAt w' d j S' ⟨r.1, name, sz⟩ recs ∧ Upd S w w' ∧ Sub w S S'
  else e = .returned (.tuple #[.pointer none, .int .i64 r.2]) ∧ ∃ S', RDiskAt w' d S' r.1 ∧ Upd S w w' ∧ Sub w S S'
theorem name_short {name : List UInt8} (h : isName (name ++ [43]) = true) : name.length ≤ 159 := by
  unfold isName at h
  have := of_decide_eq_true h
  have h2 := this.2
  simp at h2
  omega
theorem Lst.base {w wb W : World} {d : Nat} {S Sx : List Nat} {Dx : DSt} {n : Nat} (h : Lst wb W d S Sx Dx n) (hU : Upd [] w wb) : Lst w W d S Sx Dx n :=
  ⟨h.disk, (hU.mono (T := S) (by simp)).trans h.upd (fun i hi _ => hi), fun k hk => by
    rcases h.sub k hk with h1 | h1
    · exact .inl h1
    · exact .inr (Nat.le_trans hU.size h1), h.small⟩
/-- A journal's box laid ahead of the disk's steps. -/
theorem Lst.journal {w wb W : World} {d j : Nat} {S Sx : List Nat} {Dx : DSt} {n : Nat} {name : List UInt8} {rv : Value} {cells : List Value} {recs : List (List UInt8)} {sz : Nat} (h : Lst wb W d S Sx Dx n) (hU : Upd [] w wb) (hjw : w.heap.size ≤ j)
    (hj : W.heap[j]? = some (.cells #[.pointer (some ⟨d, 0, none⟩), encS name, rv] 70 (0, 0))) (ho : W.ownsRow 0 36 1 rv recs.length cells) (hc : BCells W cells recs) (hr : ∀ k, rv.ownBlock = some k → w.heap.size ≤ k) :
    ∃ S', RJAt W d j S' ⟨Dx, name, sz⟩ recs ∧ Upd S w W ∧ Sub w S S' := by
  have hb := h.base hU
  refine ⟨j :: (rv.ownBlock.toList ++ Sx), ⟨rv, cells, Sx, rfl, h.disk, hj, ho, hc⟩, hb.upd, fun k hk => ?_⟩
  simp only [List.mem_cons, List.mem_append, Option.mem_toList] at hk
  rcases hk with rfl | hk | hk
  · exact .inr hjw
  · exact .inr (hr k hk)
  · exact hb.sub k hk
set_option maxRecDepth 100000 in
set_option maxHeartbeats 4000000 in
theorem rj_open_new (w : World) (d : Nat) (S : List Nat) (D : DSt) (h : RDiskAt w d S D) (name : List UInt8) (h1 : isName name = true) (h2 : isName (name ++ [43]) = true) (h3 : D.there name = 6) (hsm : Small D 800000000) :
    Calls Tryz.prog 13 #[.pointer (some ⟨d, 0, none⟩), encS name] w (ROpenPost w d S (D.openNew name) name [] 0) := by
  have hnl := name_short h2
  have hdn : D.down = false := by
    unfold DSt.there at h3
    split at h3
    · cases h3
    · rename_i h9; simpa using h9
  have hnone : aget name D.now = none := by
    unfold DSt.there at h3
    rw [if_neg (by simp [hdn])] at h3
    split at h3
    · rename_i h9; simpa using h9
    · cases h3
  have HNM := Lib.hid (fun (W : World) => rf_isName W name (by omega))
  rw [h1] at HNM
  have t160 : ((name.length : Int) == 160) = false := by simp; omega
  obtain ⟨nv, sv, lv, cells, hS, hd, hfn, _⟩ := h.ex
  obtain ⟨no, nc, hns⟩ := hfn.shape
  subst hns
  have c5 : w.cell? ⟨d, 5, none⟩ = some (.bool false) := by rw [cell_lit w _ 5 _ _ _ hd, ← hdn]; rfl
  have hU0 : Upd [] w (w.alloc (Obj.cells #[.pointer (some ⟨d, 0, none⟩), encS name, .slice none 0 0] 70)) := Upd.alloc [] _ _
  have hb0 := heap_alloc_new w (Obj.cells #[.pointer (some ⟨d, 0, none⟩), encS name, .slice none 0 0] 70)
  have hL : Lst (w.alloc (Obj.cells #[.pointer (some ⟨d, 0, none⟩), encS name, .slice none 0 0] 70)) (w.alloc (Obj.cells #[.pointer (some ⟨d, 0, none⟩), encS name, .slice none 0 0] 70)) d S S D 800000000 := ⟨h.upd0 hU0, Upd.refl _ _, Sub.refl _ _, hsm⟩
  have hd1 := hU0.get hd (by simp)
  have c1 : (w.alloc (Obj.cells #[.pointer (some ⟨d, 0, none⟩), encS name, .slice none 0 0] 70)).cell? ⟨d, 1, none⟩ = some (.slice no D.now.length nc) := by rw [cell_lit _ _ 1 _ _ _ hd1]; rfl
  have hfn0 := hfn.upd0 hU0
  have hjS : w.heap.size ∉ S := fun hm => by have := h.lt _ hm; omega
  have HFD := Lib.hid (rf_find_none _ _ D.now hfn0 name (by have := hsm.2; omega) hnone)
  have HD1 := Lib.hid (hL.does (by omega) (By.nil _) ⟨0, name, [], []⟩ (.slice none 0 0) (by simp) (Rd.nil _ _ _) (by show name.length ≤ _; omega) (by simp) (by simp) (fun _ => rfl))
  rw [← DSt.create_step] at HD1
  have hON : D.openNew name = if (D.create name).2 = 0 then (D.create name).1.sync else D.create name := rfl
  generalize hr1 : D.create name = r1 at *
  obtain ⟨D1, k1⟩ := r1
  dsimp only at hON
  have HON := Lib.hid hON
  have HB0 := Lib.hid hb0; have HJS := Lib.hid hjS
  generalize hwb : w.alloc (Obj.cells #[.pointer (some ⟨d, 0, none⟩), encS name, .slice none 0 0] 70) = wb at HFD HD1 HB0 hL hU0
  have HWB := Lib.hid hwb
  clear hON hr1 hdn hnone h1 h2 h3 hS hd hfn hfn0 hsm h hb0 hjS hd1 hwb
  go_enter Tryz.func13, Tryz.ntmps13
  go_wp2_with fail
  refine (HNM.out _).mono ?_
  rintro e w1 ⟨rfl, rfl⟩
  go_wp2_with fail
  rw [HWB.out]
  refine HFD.out.mono ?_
  rintro e w2 ⟨rfl, rfl⟩
  go_wp2_with fail
  refine HD1.out.mono ?_
  rintro e w3 ⟨rfl, _, S3, hL3⟩
  dsimp only at hL3
  have hj3 := HB0.out
  clear hL c1 HD1 HFD
  by_cases hk1 : k1 = 0
  · subst hk1
    have hon := HON.out
    rw [if_pos rfl] at hon
    have hj3b := hL3.upd.get hj3 HJS.out
    have HY := Lib.hid (hL3.syncs (By.nil w3))
    generalize hr2 : D1.sync = r2 at *
    obtain ⟨D2, k2⟩ := r2
    have HON2 := Lib.hid hon
    clear hr2 hon
    go_wp2_with fail
    refine HY.out.mono ?_
    rintro e w4 ⟨rfl, _, S4, hL4⟩
    dsimp only at hL4
    have hj4 := hL4.upd.get hj3 HJS.out
    clear HY hL3 hj3b
    by_cases hk2 : k2 = 0
    · subst hk2
      have HF := Lib.hid (show ROpenPost w d S (D.openNew name) name [] 0 (.returned (.tuple #[.pointer (some ⟨w.heap.size, 0, none⟩), .int .i64 (0 : Nat)])) w4 from by
        rw [HON2.out]
        unfold ROpenPost
        rw [if_pos rfl]
        obtain ⟨S', q1, q2, q3⟩ := hL4.journal (sz := 0) hU0 (Nat.le_refl _) hj4 (World.ownsRow_nil _ _ _ _) (recs := []) trivial (by intro k hk; simp [Value.ownBlock] at hk)
        exact ⟨_, S', rfl, Nat.le_refl _, q1, q2, q3⟩)
      go_wp2_with fail
      go_ret2
      exact HF.out
    · have HF := Lib.hid (show ROpenPost w d S (D.openNew name) name [] 0 (.returned (.tuple #[.pointer none, .int .i64 (k2 : Nat)])) w4 from by
        rw [HON2.out]
        unfold ROpenPost
        rw [if_neg hk2]
        have hb := hL4.base hU0
        exact ⟨rfl, S4, hb.disk, hb.upd, hb.sub⟩)
      have hk2c : ((k2 : Int) != 0) = true := by simp; omega
      clear hk2
      go_wp2_with fail
      go_ret2
      exact HF.out
  · have hon := HON.out
    rw [if_neg hk1] at hon
    have HF := Lib.hid (show ROpenPost w d S (D.openNew name) name [] 0 (.returned (.tuple #[.pointer none, .int .i64 (k1 : Nat)])) w3 from by
      rw [hon]
      unfold ROpenPost
      rw [if_neg hk1]
      have hb := hL3.base hU0
      exact ⟨rfl, S3, hb.disk, hb.upd, hb.sub⟩)
    have hk1b : ((k1 : Int) == 0) = false := by simp; omega
    have hk1c : ((k1 : Int) != 0) = true := by simp; omega
    clear hk1 hon
    go_wp2_with fail
    go_ret2
    exact HF.out

set_option maxRecDepth 100000 in
set_option maxHeartbeats 4000000 in
theorem rj_open_old (w : World) (d : Nat) (S : List Nat) (D : DSt) (h : RDiskAt w d S D) (name : List UInt8) (h1 : isName name = true) (h2 : isName (name ++ [43]) = true) (h3 : D.there name ≠ 6) (hsm : Small D 800000000) :
    Calls Tryz.prog 13 #[.pointer (some ⟨d, 0, none⟩), encS name] w (ROpenPost w d S (D.openOld name) name (scanB ((aget name D.now).getD [])).1 (scanB ((aget name D.now).getD [])).2) := by
  have hnl := name_short h2
  have HNM := Lib.hid (fun (W : World) => rf_isName W name (by omega))
  rw [h1] at HNM
  have t160 : ((name.length : Int) == 160) = false := by simp; omega
  obtain ⟨nv, sv, lv, cells, hS, hd, hfn, _⟩ := h.ex
  obtain ⟨no, nc, hns⟩ := hfn.shape
  subst hns
  have c5 : w.cell? ⟨d, 5, none⟩ = some (.bool D.down) := by rw [cell_lit w _ 5 _ _ _ hd]; rfl
  cases hdn : D.down with
  | true =>
    have HF := Lib.hid (show ROpenPost w d S (D.openOld name) name (scanB ((aget name D.now).getD [])).1 (scanB ((aget name D.now).getD [])).2 (.returned (.tuple #[.pointer none, .int .i64 (5 : Nat)])) w from by
      have ht : D.there name = 5 := by unfold DSt.there; rw [if_pos hdn]
      have : D.openOld name = (D, 5) := by unfold DSt.openOld; rw [if_pos (by omega), ht]
      rw [this]
      unfold ROpenPost
      rw [if_neg (by simp)]
      exact ⟨rfl, S, h, Upd.refl _ _, Sub.refl _ _⟩)
    rw [hdn] at c5
    clear hdn h1 h2 h3 hS hd hfn hsm h
    go_enter Tryz.func13, Tryz.ntmps13
    go_wp2_with fail
    refine (HNM.out _).mono ?_
    rintro e w1 ⟨rfl, rfl⟩
    go_wp2_with fail
    go_ret2
    exact HF.out
  | false =>
    obtain ⟨b, hb⟩ : ∃ b, aget name D.now = some b := by
      unfold DSt.there at h3
      rw [if_neg (by simp [hdn])] at h3
      cases hc : aget name D.now with
      | none => rw [hc] at h3; exact absurd rfl h3
      | some b => exact ⟨b, rfl⟩
    have ht : D.there name = 0 := by unfold DSt.there; rw [if_neg (by simp [hdn]), if_neg (by rw [hb]; simp)]
    have hbl : b.length ≤ 67108864 := by have := aget_le_used hb; have := h.inv.usedNow; have := h.inv.room; omega
    have hOO : D.openOld name = if (scanB b).2 < b.length then D.lay name (name ++ [43]) (framesB (scanB b).1) else (D, 0) := by
      unfold DSt.openOld
      rw [if_neg (by omega), hb]
      rfl
    have hfb : (framesB (scanB b).1).length ≤ 100000000 := by have := scan_bounds b.length b (Nat.le_refl _); omega
    have hrl : (scanB b).1.length ≤ 100000000 := by have := scan_bounds b.length b (Nat.le_refl _); omega
    rw [hb]
    show Calls _ _ _ _ (ROpenPost w d S (D.openOld name) name (scanB b).1 (scanB b).2)
    have hU0 : Upd [] w (w.alloc (Obj.cells #[.pointer (some ⟨d, 0, none⟩), encS name, .slice none 0 0] 70)) := Upd.alloc [] _ _
    have hb0 := heap_alloc_new w (Obj.cells #[.pointer (some ⟨d, 0, none⟩), encS name, .slice none 0 0] 70)
    have hd1 := hU0.get hd (by simp)
    have c1 : (w.alloc (Obj.cells #[.pointer (some ⟨d, 0, none⟩), encS name, .slice none 0 0] 70)).cell? ⟨d, 1, none⟩ = some (.slice no D.now.length nc) := by rw [cell_lit _ _ 1 _ _ _ hd1]; rfl
    have hjS : w.heap.size ∉ S := fun hm => by have := h.lt _ hm; omega
    have hwbd := h.upd0 hU0
    have hfn0 := hfn.upd0 hU0
    have HFD := Lib.hid (rf_find_some _ _ D.now hfn0 name b (by have := hsm.2; omega) hb)
    have HB0 := Lib.hid hb0; have HJS := Lib.hid hjS; have HBL := Lib.hid hbl; have HOO := Lib.hid hOO; have HFB := Lib.hid hfb; have HRL := Lib.hid hrl; have HSM := Lib.hid hsm; have HNL := Lib.hid hnl
    generalize hwb : w.alloc (Obj.cells #[.pointer (some ⟨d, 0, none⟩), encS name, .slice none 0 0] 70) = wb at HFD HB0 hwbd hU0 hfn0
    have HWB := Lib.hid hwb
    rw [hdn] at c5
    clear hdn h1 h2 h3 hS hd hsm h hb0 hjS hd1 hwb hbl hOO hfb hrl ht hb hfn hnl
    go_enter Tryz.func13, Tryz.ntmps13
    go_wp2_with fail
    refine (HNM.out _).mono ?_
    rintro e w1 ⟨rfl, rfl⟩
    go_wp2_with fail
    rw [HWB.out]
    refine HFD.out.mono ?_
    rintro e w2 ⟨i, hi, rfl, rfl⟩
    obtain ⟨cells1, qv, hR, g0, g1, hqv, hil⟩ := hfn0.index hi
    have i0 : (0 : Int) ≤ (i : Int) := by omega
    have c1' : wb.cell? ⟨d, 1, none⟩ = some (.slice no D.now.length nc) := by rw [← HWB.out]; exact c1
    obtain ⟨qo, qc, rfl⟩ := By.val hqv
    have HSC := Lib.hid (rf_scan wb _ b hqv (by have := HBL.out; omega))
    clear hi HFD c1
    go_wp2_with ((with_reducible show wpList _ _ _ (⟨_, .indexAddr _ _ _, _, _, _, _⟩ :: _) _ _); refine wpl_indexAddr elFile rfl rfl hR rfl rfl (by omega) (by omega) ?_; intro ad hcell hspot; (have k0 := hcell 0 (by omega)); (have k1 := hcell 1 (by omega)); rw [Int.toNat_natCast, g0] at k0; rw [Int.toNat_natCast, g1] at k1; clear hcell; obtain ⟨gb, gof, gs⟩ := ad; cases hspot; simp only [Addr.add_lit, Nat.add_zero] at k0 k1)
    refine HSC.out.mono ?_
    rintro e w3 ⟨v3, rfl, hv3, hU3⟩
    obtain ⟨ro, rc, hrs⟩ := hv3.recs.shape
    subst hrs
    have hj3 := hU3.get HB0.out (by simp)
    have k2 : w3.cell? ⟨w.heap.size, 2, none⟩ = some (.slice none 0 0) := by rw [cell_lit w3 _ 2 _ _ _ hj3]; rfl
    have kf := frozen_lit w3 w.heap.size 2 _ _ hj3
    have hj4 := setCell_get (i := 2) hj3 (.slice ro (scanB b).1.length rc)
    have hU4 : Upd [w.heap.size] w3 (w3.setCell ⟨w.heap.size, 2, none⟩ (.slice ro (scanB b).1.length rc)) := Upd.setCell _ _ _ (by simp)
    have o8 : Off w3 5 [w.heap.size] := Off.cons_cells hj3 (by decide) (Off.nil _ _)
    have oF : Off w3 138 [w.heap.size] := Off.cons_cells hj3 (by decide) (Off.nil _ _)
    have oR : Off w3 36 [w.heap.size] := Off.cons_cells hj3 (by decide) (Off.nil _ _)
    have hD4 := (hwbd.upd0 hU3).upd hU4 o8 oF (fun k hk hm => by simp at hm; subst hm; exact HJS.out hk)
    obtain ⟨rcells, hro, hrC⟩ := hv3
    have hro4 := Own.upd (Own.mono hro (Nat.zero_le _)) hU4 (own_away hro oR)
    have hrn : ∀ k, (Value.slice ro (scanB b).1.length rc).ownBlock = some k → w.heap.size ≤ k := fun k hk => by have := (hro.lt k hk).1; have := hU0.size; omega
    have hrC4 := hrC.upd hU4 o8
    have hU04 : Upd [] w (w3.setCell ⟨w.heap.size, 2, none⟩ (.slice ro (scanB b).1.length rc)) := (hU0.trans0 hU3).trans hU4 (fun j hj hlt => by simp at hj; omega)
    clear hU3 hU4 o8 oF oR hro hrC hR g0 g1 hqv hfn0 HSC hwbd hU0
    by_cases hlt : (scanB b).2 < b.length
    · have tlt : decide (((scanB b).2 : Int) < (b.length : Int)) = true := by simp; omega
      have hoo := HOO.out
      rw [if_pos hlt] at hoo
      have HLY := Lib.hid (fun (W : World) (hD : RDiskAt W d S D) (hrec : Recs W (.slice ro (scanB b).1.length rc) (scanB b).1) => rj_lay W d S D hD name (by have := HNL.out; omega) _ _ hrec HRL.out HFB.out HSM.out)
      rw [← hoo] at HLY
      have HBN := Lib.hid hlt
      clear hoo
      go_wp2_with fail
      generalize hw4 : w3.setCell ⟨w.heap.size, 2, none⟩ (.slice ro (scanB b).1.length rc) = w4 at *
      refine (HLY.out w4 hD4 ⟨rcells, Rd.of_own hro4, hrC4⟩).mono ?_
      rintro e w5 ⟨rfl, S5, hD5, hU5, hs5⟩
      have hoffJ := hD4.off (e := 70) (by decide) (by decide)
      have hj5 := hU5.get hj4 (not_mem_off hoffJ hj4)
      have hro5 := Own.upd hro4 hU5 (own_away hro4 (hD4.off (by decide) (by decide)))
      have hrC5 := hrC4.upd hU5 hD4.off8
      have hL5 : Lst w4 w5 d S S5 (D.openOld name).1 ((D.openOld name).1.loose.length + (D.openOld name).1.now.length) := ⟨hD5, hU5, hs5, ⟨by omega, by omega⟩⟩
      generalize hr : D.openOld name = r at *
      obtain ⟨D5, k5⟩ := r
      dsimp only at hL5
      clear hw4 hD5 hU5 hs5 hr
      by_cases hk5 : k5 = 0
      · subst hk5
        have HF := Lib.hid (show ROpenPost w d S (D5, 0) name (scanB b).1 (scanB b).2 (.returned (.tuple #[.pointer (some ⟨w.heap.size, 0, none⟩), .int .i64 (0 : Nat)])) w5 from by
          unfold ROpenPost
          rw [if_pos rfl]
          obtain ⟨S', q1, q2, q3⟩ := hL5.journal (sz := (scanB b).2) hU04 (Nat.le_refl _) hj5 hro5 hrC5 hrn
          exact ⟨_, S', rfl, Nat.le_refl _, q1, q2, q3⟩)
        clear hlt
        go_wp2_with fail
        go_ret2
        exact HF.out
      · have HF := Lib.hid (show ROpenPost w d S (D5, k5) name (scanB b).1 (scanB b).2 (.returned (.tuple #[.pointer none, .int .i64 (k5 : Nat)])) w5 from by
          unfold ROpenPost
          rw [if_neg hk5]
          have hb := hL5.base hU04
          exact ⟨rfl, S5, hb.disk, hb.upd, hb.sub⟩)
        have hk5c : ((k5 : Int) != 0) = true := by simp; omega
        clear hlt hk5
        go_wp2_with fail
        go_ret2
        exact HF.out
    · have tlt : decide (((scanB b).2 : Int) < (b.length : Int)) = false := by simp; omega
      have hoo := HOO.out
      rw [if_neg hlt] at hoo
      have HF := Lib.hid (show ROpenPost w d S (D.openOld name) name (scanB b).1 (scanB b).2 (.returned (.tuple #[.pointer (some ⟨w.heap.size, 0, none⟩), .int .i64 (0 : Nat)])) (w3.setCell ⟨w.heap.size, 2, none⟩ (.slice ro (scanB b).1.length rc)) from by
        rw [hoo]
        unfold ROpenPost
        rw [if_pos rfl]
        have hL5 : Lst (w3.setCell ⟨w.heap.size, 2, none⟩ (.slice ro (scanB b).1.length rc)) (w3.setCell ⟨w.heap.size, 2, none⟩ (.slice ro (scanB b).1.length rc)) d S S D 800000000 := ⟨hD4, Upd.refl _ _, Sub.refl _ _, HSM.out⟩
        obtain ⟨S', q1, q2, q3⟩ := hL5.journal (sz := (scanB b).2) hU04 (Nat.le_refl _) hj4 hro4 hrC4 hrn
        exact ⟨_, S', rfl, Nat.le_refl _, q1, q2, q3⟩)
      clear hoo
      go_wp2_with fail
      go_ret2
      exact HF.out
end Go.Proofs.YthfbfdkjgkkpcaaGreat

namespace Go.Proofs.YthfbfdkjgkkpcaaGreat
open Go Go.RowKit

theorem rc_add (n i : Nat) (c : UInt8) (hn : n < 128 ^ i) (hb : c.toNat % 128 * 128 ^ i < 18446744073709551616) (h9 : i ≤ 9) :
    IntKind.u64.wrap ((n : Int) + IntKind.u64.wrap ((c.toNat : Int) % 128 * 2 ^ (7 * i))) = ((n + c.toNat % 128 * 128 ^ i : Nat) : Int) := by
  have hc := c.toNat_lt
  have hp : (128 : Nat) ^ i = 2 ^ (7 * i) := by rw [Nat.pow_mul]
  have hpi : ((2 : Int) ^ (7 * i)) = ((128 ^ i : Nat) : Int) := by rw [hp]; simp
  have h63 : 128 ^ i ≤ 128 ^ 9 := Nat.pow_le_pow_right (by omega) h9
  have hlt := rc_lt (c := c) hn
  have hsum : n + c.toNat % 128 * 128 ^ i < 18446744073709551616 := by
    rcases Nat.lt_or_ge i 9 with h8 | h8
    · have : 128 ^ (i + 1) ≤ 128 ^ 9 := Nat.pow_le_pow_right (by omega) (by omega)
      omega
    · obtain rfl : i = 9 := by omega
      have h1 : c.toNat % 128 ≤ 1 := by
        rcases Nat.lt_or_ge (c.toNat % 128) 2 with h2 | h2
        · omega
        · have : 2 * 128 ^ 9 ≤ c.toNat % 128 * 128 ^ 9 := Nat.mul_le_mul_right _ h2
          omega
      have h2 : c.toNat % 128 * 128 ^ 9 ≤ 1 * 128 ^ 9 := Nat.mul_le_mul_right _ h1
      omega
  rw [wrap_u64, wrap_u64, hpi, show ((c.toNat : Int) % 128) = ((c.toNat % 128 : Nat) : Int) from by omega, ← Int.natCast_mul,
    show (((c.toNat % 128 * 128 ^ i : Nat) : Int)) % 18446744073709551616 = ((c.toNat % 128 * 128 ^ i : Nat) : Int) from by omega]
  omega
theorem rc_bare (n i : Nat) (c : UInt8) : (n : Int) + (c.toNat : Int) % 128 * 2 ^ (7 * i) = ((n + c.toNat % 128 * 128 ^ i : Nat) : Int) := by
  have hpi : ((2 : Int) ^ (7 * i)) = ((128 ^ i : Nat) : Int) := by rw [show (128 : Nat) ^ i = 2 ^ (7 * i) from by rw [Nat.pow_mul]]; simp
  rw [hpi, show ((c.toNat : Int) % 128) = ((c.toNat % 128 : Nat) : Int) from by omega, ← Int.natCast_mul]
  omega
set_option maxRecDepth 100000 in
set_option maxHeartbeats 2000000 in
theorem rf_readCount (w : World) (p : Value) (l : List UInt8) (hp : By w p l) (hl : l.length ≤ 1000000000) :
    Calls Tryz.prog 138 #[p] w fun e w' => e = .returned (.tuple #[.int .u64 (readCountB l).1, .int .i64 (readCountB l).2.1, .int .i64 (readCountB l).2.2]) ∧ w = w' := by
  obtain ⟨ao, cap, rfl⟩ := By.val hp
  have HL := Lib.hid hl; clear hl
  go_enter Tryz.func138, Tryz.ntmps138
  go_wp2_with fail
  go_loopw [6, 5] (fun x v wr => RcRel w l x v wr) (fun x _ _ => l.length - (intOf x).toNat)
  case atStart => exact ⟨0, 0, rfl, Nat.zero_le _, Nat.zero_le _, rfl, by simp, rfl, rfl⟩
  case round =>
    obtain ⟨i, n, rfl, hi, hi9, rfl, hn, rfl, hrc⟩ := hrel
    have hll := HL.out
    by_cases hlt : i < l.length
    · have htt : decide ((i : Int) < (l.length : Int)) = true := by simp; omega
      obtain ⟨c, hc⟩ : ∃ c, l[i]? = some c := ⟨_, List.getElem?_eq_getElem hlt⟩
      have hu : (l.map enc)[(i : Int).toNat]? = some (enc c) := by simp [hc]
      rw [List.drop_eq_getElem_cons hlt, (List.getElem?_eq_some_iff.1 hc).2] at hrc
      have HRC := Lib.hid hrc
      have HN := Lib.hid hn
      clear hrc hn
      have hc256 := c.toNat_lt
      have hbnd : ¬ (i = 9 ∧ 1 < c.toNat) → c.toNat % 128 * 128 ^ i < 18446744073709551616 := by
        intro h
        rcases Nat.lt_or_ge i 9 with h8 | h8
        · have h1 : 128 ^ i ≤ 128 ^ 8 := Nat.pow_le_pow_right (by omega) (by omega)
          have h2 : c.toNat % 128 * 128 ^ i ≤ 127 * 128 ^ 8 := Nat.mul_le_mul (by omega) h1
          omega
        · obtain rfl : i = 9 := by omega
          have h1 : c.toNat % 128 * 128 ^ 9 ≤ 1 * 128 ^ 9 := Nat.mul_le_mul_right _ (by omega)
          omega
      have HB := Lib.hid hbnd
      clear hbnd hc
      by_cases h9 : i = 9 ∧ 1 < c.toNat
      · have b9 : ((i : Int) == 9) = true := by simp; omega
        have b9' : (i = 9) = True := eq_true h9.1
        have b1 : decide ((1 : Int) < (c.toNat : Int)) = true := by simp; omega
        have HR := Lib.hid (show readCountB l = (0, 0, 10) from by rw [HRC.out, readCountGo, if_pos h9])
        clear h9
        go_wp2_with ((with_reducible show wpList _ _ _ (⟨_, .indexAddr _ _ _, _, _, _, _⟩ :: _) _ _); refine wpl_indexAddr1 elU8 rfl rfl hp rfl rfl (by omega) (by omega) _ hu ?_; intro ad hcell)
        go_ret3
        rw [HR.out]
        exact ⟨rfl, rfl⟩
      · have HS := Lib.hid (rc_add n i c HN.out (HB.out h9) hi9)
        by_cases h00 : c.toNat = 0 ∧ 0 < i
        · have HR := Lib.hid (show readCountB l = (0, 0, 10) from by rw [HRC.out, readCountGo, if_neg h9, if_pos (by omega), if_pos h00])
          have c0 : ((c.toNat : Int) == 0) = true := by simp; omega
          have ci : decide ((0 : Int) < (i : Int)) = true := by simp; omega
          have ci' : (0 < i) = True := eq_true h00.2
          have c0' : (c.toNat = 0) = True := eq_true h00.1
          have c1 : decide ((1 : Int) < (c.toNat : Int)) = false := by simp; omega
          by_cases hi8 : i = 9
          · have b9 : ((i : Int) == 9) = true := by simp; omega
            have b9' : (i = 9) = True := eq_true hi8
            clear h00 hi8
            clear h9
            go_wp2_with ((with_reducible show wpList _ _ _ (⟨_, .indexAddr _ _ _, _, _, _, _⟩ :: _) _ _); refine wpl_indexAddr1 elU8 rfl rfl hp rfl rfl (by omega) (by omega) _ hu ?_; intro ad hcell)
            go_ret3
            rw [HR.out]
            exact ⟨rfl, rfl⟩
          · have b9 : ((i : Int) == 9) = false := by simp; omega
            have b9' : (i = 9) = False := eq_false hi8
            clear h00 hi8
            clear h9
            go_wp2_with ((with_reducible show wpList _ _ _ (⟨_, .indexAddr _ _ _, _, _, _, _⟩ :: _) _ _); refine wpl_indexAddr1 elU8 rfl rfl hp rfl rfl (by omega) (by omega) _ hu ?_; intro ad hcell)
            go_ret3
            rw [HR.out]
            exact ⟨rfl, rfl⟩
        · by_cases hi8 : i = 9
          · have b9 : ((i : Int) == 9) = true := by simp; omega
            have c1 : decide ((1 : Int) < (c.toNat : Int)) = false := by simp; omega
            have ci : decide ((0 : Int) < (i : Int)) = true := by simp; omega
            have c0 : ((c.toNat : Int) == 0) = false := by simp; omega
            have b9' : (i = 9) = True := eq_true hi8
            have ci' : (0 < i) = True := eq_true (by omega)
            have c0' : (c.toNat = 0) = False := eq_false (by omega)
            have hi9' : 9 ≤ i := by omega
            clear hi8
            by_cases h128 : c.toNat < 128
            · have b1 : decide ((c.toNat : Int) < 128) = true := by simp; omega
              have HR := Lib.hid (show readCountB l = (n + c.toNat % 128 * 128 ^ i, i + 1, 0) from by rw [HRC.out, readCountGo, if_neg h9, if_pos h128, if_neg h00])
              clear h9 h00
              go_wp2_with ((with_reducible show wpList _ _ _ (⟨_, .indexAddr _ _ _, _, _, _, _⟩ :: _) _ _); refine wpl_indexAddr1 elU8 rfl rfl hp rfl rfl (by omega) (by omega) _ hu ?_; intro ad hcell)
              go_ret3
              rw [HR.out]
              first | rw [HS.out] | rw [rc_bare]
              exact ⟨rfl, rfl⟩
            · have b1 : decide ((c.toNat : Int) < 128) = false := by simp; omega
              have HR := Lib.hid (show readCountB l = readCountGo (l.drop (i + 1)) (i + 1) (n + c.toNat % 128 * 128 ^ i) from by rw [HRC.out, readCountGo, if_neg h9, if_neg h128])
              have hi8 : i ≤ 8 := by omega
              clear h9 h00
              go_wp2_with ((with_reducible show wpList _ _ _ (⟨_, .indexAddr _ _ _, _, _, _, _⟩ :: _) _ _); refine wpl_indexAddr1 elU8 rfl rfl hp rfl rfl (by omega) (by omega) _ hu ?_; intro ad hcell)
              first | rw [HS.out] | rw [rc_bare]
              exact ⟨⟨i + 1, _, by simp, hlt, by omega, rfl, rc_lt HN.out, rfl, HR.out⟩, by simp [intOf]; omega⟩
          · have b9 : ((i : Int) == 9) = false := by simp; omega
            have b9' : (i = 9) = False := eq_false hi8
            by_cases hi0 : 0 < i
            · have ci : decide ((0 : Int) < (i : Int)) = true := by simp; omega
              have ci' : (0 < i) = True := eq_true hi0
              have c0 : ((c.toNat : Int) == 0) = false := by simp; omega
              have c0' : (c.toNat = 0) = False := eq_false (by omega)
              have hi89 : i ≤ 8 := by omega
              clear hi8 hi0
              by_cases h128 : c.toNat < 128
              · have b1 : decide ((c.toNat : Int) < 128) = true := by simp; omega
                have HR := Lib.hid (show readCountB l = (n + c.toNat % 128 * 128 ^ i, i + 1, 0) from by rw [HRC.out, readCountGo, if_neg h9, if_pos h128, if_neg h00])
                clear h9 h00
                go_wp2_with ((with_reducible show wpList _ _ _ (⟨_, .indexAddr _ _ _, _, _, _, _⟩ :: _) _ _); refine wpl_indexAddr1 elU8 rfl rfl hp rfl rfl (by omega) (by omega) _ hu ?_; intro ad hcell)
                go_ret3
                rw [HR.out]
                first | rw [HS.out] | rw [rc_bare]
                exact ⟨rfl, rfl⟩
              · have b1 : decide ((c.toNat : Int) < 128) = false := by simp; omega
                have HR := Lib.hid (show readCountB l = readCountGo (l.drop (i + 1)) (i + 1) (n + c.toNat % 128 * 128 ^ i) from by rw [HRC.out, readCountGo, if_neg h9, if_neg h128])
                have hi8 : i ≤ 8 := by omega
                clear h9 h00
                go_wp2_with ((with_reducible show wpList _ _ _ (⟨_, .indexAddr _ _ _, _, _, _, _⟩ :: _) _ _); refine wpl_indexAddr1 elU8 rfl rfl hp rfl rfl (by omega) (by omega) _ hu ?_; intro ad hcell)
                first | rw [HS.out] | rw [rc_bare]
                exact ⟨⟨i + 1, _, by simp, hlt, by omega, rfl, rc_lt HN.out, rfl, HR.out⟩, by simp [intOf]; omega⟩
            · have ci : decide ((0 : Int) < (i : Int)) = false := by simp; omega
              have ci' : (0 < i) = False := eq_false hi0
              have hi89 : i ≤ 8 := by omega
              clear hi8 hi0
              by_cases h128 : c.toNat < 128
              · have b1 : decide ((c.toNat : Int) < 128) = true := by simp; omega
                have HR := Lib.hid (show readCountB l = (n + c.toNat % 128 * 128 ^ i, i + 1, 0) from by rw [HRC.out, readCountGo, if_neg h9, if_pos h128, if_neg h00])
                clear h9 h00
                go_wp2_with ((with_reducible show wpList _ _ _ (⟨_, .indexAddr _ _ _, _, _, _, _⟩ :: _) _ _); refine wpl_indexAddr1 elU8 rfl rfl hp rfl rfl (by omega) (by omega) _ hu ?_; intro ad hcell)
                go_ret3
                rw [HR.out]
                first | rw [HS.out] | rw [rc_bare]
                exact ⟨rfl, rfl⟩
              · have b1 : decide ((c.toNat : Int) < 128) = false := by simp; omega
                have HR := Lib.hid (show readCountB l = readCountGo (l.drop (i + 1)) (i + 1) (n + c.toNat % 128 * 128 ^ i) from by rw [HRC.out, readCountGo, if_neg h9, if_neg h128])
                have hi8 : i ≤ 8 := by omega
                clear h9 h00
                go_wp2_with ((with_reducible show wpList _ _ _ (⟨_, .indexAddr _ _ _, _, _, _, _⟩ :: _) _ _); refine wpl_indexAddr1 elU8 rfl rfl hp rfl rfl (by omega) (by omega) _ hu ?_; intro ad hcell)
                first | rw [HS.out] | rw [rc_bare]
                exact ⟨⟨i + 1, _, by simp, hlt, by omega, rfl, rc_lt HN.out, rfl, HR.out⟩, by simp [intOf]; omega⟩
    · have htt : decide ((i : Int) < (l.length : Int)) = false := by simp; omega
      have hie : i = l.length := by omega
      subst hie
      rw [List.drop_length] at hrc
      have HRC := Lib.hid hrc
      clear hrc hn
      go_wp2_with fail
      go_ret3
      rw [HRC.out]
      exact ⟨rfl, rfl⟩

def RtxRel (w : World) (q : List UInt8) (x v : Value) (wr : World) : Prop := ∃ i : Nat, x = .int .i64 i ∧ i ≤ q.length ∧ OwnBy wr w.heap.size v (q.take i) ∧ Upd [] w wr
set_option maxRecDepth 100000 in
set_option maxHeartbeats 2000000 in
theorem rf_readText (w : World) (p : Value) (l : List UInt8) (hp : By w p l) (hl : l.length ≤ 1000000000) (most : Nat) (hm : most ≤ 262144) :
    Calls Tryz.prog 139 #[p, .int .i64 most] w (RtPost w (readTextB l most)) := by
  obtain ⟨ao, cap, rfl⟩ := By.val hp
  have hrc := rf_readCount w _ l hp hl
  have hu := rc_used l 0 0
  have hRT : readTextB l most = if (readCountB l).2.2 ≠ 0 then ([], 0, (readCountB l).2.2)
    else if most < (readCountB l).1 then ([], 0, 8)
    else if l.length - (readCountB l).2.1 < (readCountB l).1 then ([], 0, 9)
    else ((l.drop (readCountB l).2.1).take (readCountB l).1, (readCountB l).2.1 + (readCountB l).1, 0) := rfl
  change ∀ v u, readCountB l = (v, u, 0) → _ at hu
  generalize readCountB l = r at *
  obtain ⟨n, u, e⟩ := r
  dsimp only at hrc hRT
  have HRT := Lib.hid hRT
  clear hRT
  have m0 : decide ((most : Int) < 0) = false := by simp
  have HL := Lib.hid hl
  have HC := Lib.hid hrc
  clear hrc
  by_cases he : e ≠ 0
  · have h1 : ((e : Int) != 0) = true := by simpa using he
    have HR := Lib.hid (show readTextB l most = ([], 0, e) from by rw [HRT.out, if_pos he])
    clear he hl hu
    go_enter Tryz.func139, Tryz.ntmps139
    go_wp2_with fail
    refine HC.out.mono ?_
    rintro e w1 ⟨rfl, rfl⟩
    go_wp2_with fail
    go_ret3
    rw [HR.out]
    exact ⟨_, rfl, World.ownsRow_nil _ _ _ _, Upd.refl _ _⟩
  have he : e = 0 := Classical.not_not.1 he
  subst he
  have hu2 := hu n u rfl
  by_cases hmn : most < n
  · have h1 : decide ((most : Int) < (n : Int)) = true := by simpa using hmn
    have HR := Lib.hid (show readTextB l most = ([], 0, 8) from by rw [HRT.out, if_neg (by simp), if_pos hmn])
    clear hl hu
    go_enter Tryz.func139, Tryz.ntmps139
    go_wp2_with fail
    refine HC.out.mono ?_
    rintro e w1 ⟨rfl, rfl⟩
    go_wp2_with fail
    go_ret3
    rw [HR.out]
    exact ⟨_, rfl, World.ownsRow_nil _ _ _ _, Upd.refl _ _⟩
  have h1 : decide ((most : Int) < (n : Int)) = false := by simpa using hmn
  by_cases hln : l.length - u < n
  · have h2 : decide ((l.length : Int) - (u : Int) < (n : Int)) = true := by simp; omega
    have HR := Lib.hid (show readTextB l most = ([], 0, 9) from by rw [HRT.out, if_neg (by simp), if_neg hmn, if_pos hln])
    clear hl hu
    go_enter Tryz.func139, Tryz.ntmps139
    go_wp2_with fail
    refine HC.out.mono ?_
    rintro e w1 ⟨rfl, rfl⟩
    go_wp2_with fail
    go_ret3
    rw [HR.out]
    exact ⟨_, rfl, World.ownsRow_nil _ _ _ _, Upd.refl _ _⟩
  have h2 : decide ((l.length : Int) - (u : Int) < (n : Int)) = false := by simp; omega
  have HR := Lib.hid (show readTextB l most = ((l.drop u).take n, u + n, 0) from by rw [HRT.out, if_neg (by simp), if_neg hmn, if_neg hln])
  have hun : u + n ≤ l.length := by omega
  obtain ⟨q, hq⟩ : ∃ q, q = (l.drop u).take n := ⟨_, rfl⟩
  have hql : q.length = n := by rw [hq]; simp; omega
  rw [← hq] at HR
  have HQ := Lib.hid hq
  have HQL := Lib.hid hql
  clear hu hln hq
  go_enter Tryz.func139, Tryz.ntmps139
  go_wp2_with fail
  refine HC.out.mono ?_
  rintro e w1 ⟨rfl, rfl⟩
  clear hql
  go_wp2_with fail
  go_loopw [11, 10] (fun x v wr => RtxRel w q x v wr) (fun x _ _ => n - (intOf x).toNat)
  case atStart => exact ⟨0, rfl, Nat.zero_le _, World.ownsRow_nil _ _ _ _, Upd.refl _ _⟩
  case round =>
    obtain ⟨i, rfl, hi, hown, hU⟩ := hrel
    have hqn := HQL.out
    by_cases hlt : i < n
    · have htt : decide ((i : Int) < (n : Int)) = true := by simp; omega
      obtain ⟨c, hc⟩ : ∃ c, q[i]? = some c := ⟨_, List.getElem?_eq_getElem (by omega)⟩
      have hcl : l[u + i]? = some c := by
        have := hc
        rw [HQ.out, List.getElem?_take, if_pos hlt, List.getElem?_drop] at this
        exact this
      have hR := hp.upd0 hU
      have hu9 : (l.map enc)[((u : Int) + (i : Int)).toNat]? = some (enc c) := by
        rw [show ((u : Int) + (i : Int)).toNat = u + i from by omega]
        simp [hcl]
      have HTK := Lib.hid (show q.take (i + 1) = q.take i ++ [c] by rw [List.take_add_one, hc]; rfl)
      clear hc hcl hqn
      go_wp2_with (first
        | ((with_reducible show wpList _ _ _ (⟨_, .indexAddr _ _ _, _, _, _, _⟩ :: _) _ _); refine wpl_indexAddr1 elU8 rfl rfl hR rfl rfl (by omega) (by omega) _ hu9 ?_; intro ad hcell)
        | ((with_reducible show wpList _ _ _ (⟨_, .buildSlice _ _ _, _, _, _, _⟩ :: _) _ _); refine wpl_lit_byte c elU8 rfl rfl rfl ?_; intro v1 w1 hv1 hU1 hb1)
        | ((with_reducible show wpList _ _ _ (⟨_, .call ⟨.builtin .append, _, _⟩, _, _, _, _⟩ :: _) _ _); refine wpl_append_by elU8 rfl rfl (hU.trans0 hU1) (Own.upd0 hown hU1) rfl hv1.by rfl (by have := HQL.out; simp; omega) ?_; intro v2 w2 hv2 _ hU2 hb2))
      exact ⟨⟨i + 1, by simp, by have := HQL.out; omega, by rw [HTK.out]; exact hv2, hU2⟩, by simp [intOf]; omega⟩
    · have htt : decide ((i : Int) < (n : Int)) = false := by simp; omega
      have hie : q.take i = q := List.take_of_length_le (by omega)
      rw [hie] at hown
      have HF := Lib.hid (show RtPost w (readTextB l most) (.returned (.tuple #[u10, .int .i64 ((u : Int) + (n : Int)), .int .i64 (0 : Nat)])) wr from by
        rw [HR.out]
        exact ⟨_, by simp, hown, hU⟩)
      clear hie hqn hown
      go_wp2_with fail
      go_ret3
      exact HF.out
end Go.Proofs.YthfbfdkjgkkpcaaGreat

namespace Go.Proofs.YthfbfdkjgkkpcaaGreat
open Go Go.RowKit


section
variable {ops : Array Oper} {Q : Exit → Act → World → Prop} {a : Act} {w : World} {rest : List Oper} {o : Oper}
theorem wpl_back (hw : Region.wanted o (yielded ops a.tmps) = true) {x : Operand} (ho : o.op = .convert 36 9 x) {v : Value} {l : List UInt8} (h : By w v l) (hx : a.eval x = v)
    (hK : wpList Tryz.prog ops Q rest (a.put o.dst (encS l)) w) : wpList Tryz.prog ops Q (o :: rest) a w :=
  wpl_run hw (v := encS l) (w' := w) (by simp [execOp, ho, hx, conv_back h, Result.andThen]) hK
end
def OwnRC (w : World) (B : Nat) (v : Value) (l : List TChg) : Prop := ∃ cells, w.ownsRow B 72 3 v l.length cells ∧ TCells w cells l
theorem TCells.x {w : World} : ∀ {cs : List Value} {l : List TChg}, TCells w cs l → XCells w cs l
  | [], [], _ => trivial
  | _ :: _ :: _ :: _, _ :: _, h => ⟨h.1, h.2.1, h.2.2.1.x, TCells.x h.2.2.2⟩
theorem OwnRC.chgs {w : World} {B : Nat} {v : Value} {l : List TChg} (h : OwnRC w B v l) : RChgs w v l := by
  obtain ⟨cells, h1, h2⟩ := h
  exact ⟨cells, (Rd.of_own h1).x, h2.x⟩
theorem OwnRC.upd0 {w w' : World} {B : Nat} {v : Value} {l : List TChg} (h : OwnRC w B v l) (hU : Upd [] w w') : OwnRC w' B v l := by
  obtain ⟨cells, h1, h2⟩ := h
  exact ⟨cells, Own.upd0 h1 hU, h2.upd hU (Off.nil _ _)⟩
section
variable {ops : Array Oper} {Q : Exit → Act → World → Prop} {a : Act} {w : World} {rest : List Oper} {o : Oper}
theorem wpl_append_rc (hw : Region.wanted o (yielded ops a.tmps) = true) {s x : Operand} (ho : o.op = .call { callee := .builtin .append, args := #[s, x], argTypes := #[52, 52] })
    {w0 : World} (hU : Upd [] w0 w) {v y pv : Value} {l : List TChg} {c : TChg} (hown : OwnRC w w0.heap.size v l) (hs : a.eval s = v) (hR : Rd w 72 3 y 1 [encS c.key, .bool c.gone, pv]) (hx : a.eval x = y) (hpv : By w pv c.val) (hb : l.length + 1 ≤ 1000000001)
    (hK : ∀ v' w', OwnRC w' w0.heap.size v' (l ++ [c]) → Upd [] w0 w' → wpList Tryz.prog ops Q rest (a.put o.dst v') w') : wpList Tryz.prog ops Q (o :: rest) a w := by
  obtain ⟨cells, ho1, hC⟩ := hown
  obtain ⟨ao, cap, rfl⟩ := By.val hpv
  obtain ⟨v', w', r1, r2, r3, r4⟩ := app_row (P := Tryz.prog) elRChg hU ho1 hR (by intro u hu; simp at hu; rcases hu with rfl | rfl | rfl <;> rfl) (by unfold maxLen; omega) (by omega) o.type
  have hoff : Off w 5 v.ownBlock.toList := Own.off ho1 (by decide)
  have hd : TCells w' [encS c.key, .bool c.gone, .slice ao c.val.length cap] [c] := ⟨rfl, rfl, hpv.upd r3 hoff, trivial⟩
  exact wpl_run hw (v := v') (w' := w') (by simp [execOp, ho, resolve, invoke, builtin, hs, hx, r1, Result.andThen]) (hK v' w' ⟨cells ++ [encS c.key, .bool c.gone, .slice ao c.val.length cap], by rw [List.length_append]; exact r2, hd.append (hC.upd r3 hoff)⟩ r4)
end
def RDecPost (w : World) (r : Option (List TChg)) (e : Ending) (w' : World) : Prop :=
  ∃ v, e = .returned (.tuple #[v, .int .i64 (if r.isSome then 0 else 10)]) ∧ (∀ l, r = some l → OwnRC w' w.heap.size v l) ∧ Upd [] w w'
theorem rdec_none {w w' : World} {v : Value} {r : Option (List TChg)} (hr : r = none) (h : Upd [] w w') : RDecPost w r (.returned (.tuple #[v, .int .i64 10])) w' := by
  subst hr
  exact ⟨v, rfl, fun l hl => (by cases hl), h⟩
def RDecRel (w : World) (n : Nat) (l : List UInt8) (b0 : List UInt8) (x av v : Value) (wr : World) : Prop :=
  ∃ (i j : Nat) (out : List TChg), x = .int .i64 i ∧ av = .int .i64 j ∧ i ≤ n ∧ j ≤ l.length ∧ OwnRC wr w.heap.size v out ∧ out.length = i ∧ decGo n b0 [] = decGo (n - i) (l.drop j) out ∧ Upd [] w wr
theorem decGo_out : ∀ (n : Nat) (b : List UInt8) (out l : List TChg) (r : List UInt8), decGo n b out = some (l, r) → True := fun _ _ _ _ _ _ => trivial
set_option maxRecDepth 100000 in
set_option maxHeartbeats 4000000 in
theorem rf_decode (w : World) (p : Value) (l : List UInt8) (hp : By w p l) (hl : l.length ≤ 1000000000) :
    Calls Tryz.prog 77 #[p] w (RDecPost w (decB l)) := by
  obtain ⟨ao, cap, rfl⟩ := By.val hp
  have hrc := rf_readCount w _ l hp hl
  have hu := rc_used l 0 0
  have hD : decB l = if 1048568 < l.length then none
    else if (readCountB l).2.2 ≠ 0 ∨ 256 < (readCountB l).1 then none
    else match decGo (readCountB l).1 (l.drop (readCountB l).2.1) [] with
      | some (l, []) => some l
      | _ => none := rfl
  change ∀ v u, readCountB l = (v, u, 0) → _ at hu
  generalize readCountB l = r at *
  obtain ⟨n, u, e⟩ := r
  dsimp only at hrc hD
  have HC := Lib.hid hrc
  clear hrc
  by_cases hlen : 1048568 < l.length
  · have h1 : decide ((1048568 : Int) < (l.length : Int)) = true := by simp; omega
    have HR := Lib.hid (show decB l = none from by rw [hD, if_pos hlen])
    clear hlen hD hu
    go_enter Tryz.func77, Tryz.ntmps77
    go_wp2_with fail
    go_ret2
    exact rdec_none HR.out (Upd.refl _ _)
  have h1 : decide ((1048568 : Int) < (l.length : Int)) = false := by simp; omega
  rw [if_neg hlen] at hD
  by_cases he : e ≠ 0
  · have h2 : ((e : Int) != 0) = true := by simpa using he
    have HR := Lib.hid (show decB l = none from by rw [hD, if_pos (Or.inl he)])
    clear hlen hD hu he
    go_enter Tryz.func77, Tryz.ntmps77
    go_wp2_with fail
    refine HC.out.mono ?_
    rintro e w1 ⟨rfl, rfl⟩
    go_wp2_with fail
    go_ret2
    exact rdec_none HR.out (Upd.refl _ _)
  have he : e = 0 := Classical.not_not.1 he
  subst he
  have hu2 := hu n u rfl
  by_cases hn : 256 < n
  · have h2 : decide ((256 : Int) < (n : Int)) = true := by simp; omega
    have HR := Lib.hid (show decB l = none from by rw [hD, if_pos (Or.inr hn)])
    clear hlen hD hu hn
    go_enter Tryz.func77, Tryz.ntmps77
    go_wp2_with fail
    refine HC.out.mono ?_
    rintro e w1 ⟨rfl, rfl⟩
    go_wp2_with fail
    go_ret2
    exact rdec_none HR.out (Upd.refl _ _)
  have h2 : decide ((256 : Int) < (n : Int)) = false := by simp; omega
  rw [if_neg (by omega)] at hD
  have HD := Lib.hid hD
  have hll : l.length ≤ 1048568 := by omega
  have hnn : n ≤ 256 := by omega
  clear hlen hD hu hn
  go_enter Tryz.func77, Tryz.ntmps77
  go_wp2_with fail
  refine HC.out.mono ?_
  rintro e w1 ⟨rfl, rfl⟩
  go_wp2_with fail
  go_loopw [9, 7, 8] (fun x av v wr => RDecRel w n l (l.drop u) x av v wr) (fun x _ _ _ => n - (intOf x).toNat)
  case atStart => exact ⟨0, u, [], rfl, rfl, Nat.zero_le _, by omega, ⟨[], World.ownsRow_nil _ _ _ _, trivial⟩, rfl, rfl, Upd.refl _ _⟩
  case round =>
    obtain ⟨i, j, out, rfl, rfl, hi, hj, hown, hol, hdg, hU⟩ := hrel
    have HDG := Lib.hid hdg
    by_cases hlt : i < n
    · have htt : decide ((i : Int) < (n : Int)) = true := by simp; omega
      obtain ⟨m, hm⟩ : ∃ m, n - i = m + 1 := ⟨n - i - 1, by omega⟩
      rw [hm] at hdg
      have HNONE := Lib.hid (fun (hx : decGo n (l.drop u) [] = none) (W : World) (hW : Upd [] wr W) (v : Value) => show RDecPost w (decB l) (.returned (.tuple #[v, .int .i64 10])) W from rdec_none (by rw [HD.out, hx]) (hU.trans0 hW))
      by_cases hjl : j < l.length
      · have htj : decide ((l.length : Int) ≤ (j : Int)) = false := by simp; omega
        have htn : decide (l.length ≤ j) = false := by simp; omega
        obtain ⟨g, hg⟩ : ∃ g, l[j]? = some g := ⟨_, List.getElem?_eq_getElem hjl⟩
        have hug : (l.map enc)[(j : Int).toNat]? = some (enc g) := by simp [hg]
        rw [List.drop_eq_getElem_cons hjl, (List.getElem?_eq_some_iff.1 hg).2] at hdg
        have hbr := hp.upd0 hU
        have hg256 := g.toNat_lt
        clear hg
        by_cases hg1 : 1 < g.toNat
        · have tg : decide ((1 : Int) < (g.toNat : Int)) = true := by simp; omega
          have HR := Lib.hid (HNONE.out (by rw [hdg, decGo, if_pos hg1]))
          clear hdg hown hg1
          go_wp2_with ((with_reducible show wpList _ _ _ (⟨_, .indexAddr _ _ _, _, _, _, _⟩ :: _) _ _); refine wpl_indexAddr1 elU8 rfl rfl hbr rfl rfl (by omega) (by omega) _ hug ?_; intro ad hcell)
          go_ret2
          exact HR.out _ (Upd.refl _ _) _
        · have tg : decide ((1 : Int) < (g.toNat : Int)) = false := by simp; omega
          rw [decGo, if_neg hg1] at hdg
          obtain ⟨r1, hr1⟩ : ∃ r1, readTextB (l.drop (j + 1)) 320 = r1 := ⟨_, rfl⟩
          have hus := @rt_used (l.drop (j + 1)) 320
          have HT1 := Lib.hid (fun (W : World) (hW : Upd [] wr W) (v : Value) (hv : By W v (l.drop (j + 1))) => rf_readText W v (l.drop (j + 1)) hv (by simp; omega) 320 (by omega))
          rw [hr1] at hdg hus HT1
          obtain ⟨key, k1, e1⟩ := r1
          dsimp only at hdg hus
          have hgb : ∃ gz : Bool, ((g.toNat : Int) == 0) = gz ∧ (gz = true ↔ g.toNat = 0) := ⟨_, rfl, by rw [beq_iff_eq]; omega⟩
          obtain ⟨gz, hgz, hgz2⟩ := hgb
          have hUa : Upd [] wr (wr.alloc (Obj.cells #[.string ⟨#[]⟩, .bool gz, .slice none 0 0] 72)) := Upd.alloc [] _ _
          have hba := heap_alloc_new wr (Obj.cells #[.string ⟨#[]⟩, .bool gz, .slice none 0 0] 72)
          have HGZ := Lib.hid hgz2
          clear hr1 hgz2
          by_cases hbad : e1 ≠ 0 ∨ key = []
          · rw [if_pos hbad] at hdg
            have HR := Lib.hid (HNONE.out hdg)
            by_cases he1 : e1 = 0
            · have hk0 : key = [] := hbad.resolve_left (by simp [he1])
              subst he1
              subst hk0
              clear hdg hown hbad hus
              go_wp2_with (first
                | ((with_reducible show wpList _ _ _ (⟨_, .indexAddr _ _ _, _, _, _, _⟩ :: _) _ _); refine wpl_indexAddr1 elU8 rfl rfl hbr rfl rfl (by omega) (by omega) _ hug ?_; intro ad hcell)
                | ((with_reducible show wpList _ _ _ (⟨_, .slice _ _ _ _ _, _, _, _, _⟩ :: _) _ _); refine wpl_from_by (n := j + 1) elU8 rfl rfl (hbr.upd0 hUa) rfl rfl (by omega) (by omega) ?_; intro v3 hb3 _))
              refine (HT1.out _ hUa _ hb3).mono ?_
              rintro e9 w9 ⟨v9, rfl, hv9, hU9⟩
              obtain ⟨ao9, cap9, hs9⟩ := By.val hv9.by
              subst hs9
              go_wp2_with fail
              go_ret2
              exact HR.out _ (hUa.trans0 hU9) _
            · have t1 : ((e1 : Int) != 0) = true := by simpa using he1
              clear hdg hown hbad hus he1
              go_wp2_with (first
                | ((with_reducible show wpList _ _ _ (⟨_, .indexAddr _ _ _, _, _, _, _⟩ :: _) _ _); refine wpl_indexAddr1 elU8 rfl rfl hbr rfl rfl (by omega) (by omega) _ hug ?_; intro ad hcell)
                | ((with_reducible show wpList _ _ _ (⟨_, .slice _ _ _ _ _, _, _, _, _⟩ :: _) _ _); refine wpl_from_by (n := j + 1) elU8 rfl rfl (hbr.upd0 hUa) rfl rfl (by omega) (by omega) ?_; intro v3 hb3 _))
              refine (HT1.out _ hUa _ hb3).mono ?_
              rintro e9 w9 ⟨v9, rfl, hv9, hU9⟩
              obtain ⟨ao9, cap9, hs9⟩ := By.val hv9.by
              subst hs9
              go_wp2_with fail
              go_ret2
              exact HR.out _ (hUa.trans0 hU9) _
          · rw [if_neg hbad] at hdg
            have he1 : e1 = 0 := Classical.not_not.1 (fun h => hbad (.inl h))
            have hkn : key ≠ [] := fun h => hbad (.inr h)
            subst he1
            have hu1 := hus rfl
            rw [List.length_drop] at hu1
            have hkl : ((key.length : Int) == 0) = false := by
              have := List.length_pos_iff.2 hkn
              simp; omega
            have hkl2 : 0 < key.length := List.length_pos_iff.2 hkn
            have HOL := Lib.hid (show out.length + 1 ≤ 1000000001 by omega)
            clear hus hbad hkn
            rw [List.drop_drop] at hdg
            cases gz with
            | true =>
              rw [if_pos (HGZ.out.1 rfl)] at hdg
              have HREL := Lib.hid (fun (v : Value) (W : World) (hv : OwnRC W w.heap.size v (out ++ [⟨key, true, []⟩])) (hW : Upd [] w W) => show RDecRel w n l (l.drop u) (.int .i64 ((i : Int) + 1)) (.int .i64 ((j : Int) + 1 + (k1 : Int))) v W from
                ⟨i + 1, j + 1 + k1, _, by simp, by simp, hlt, by omega, hv, by simp [hol], by rw [hdg, show n - (i + 1) = m from by omega], hW⟩)
              clear hdg
              have hownlt : ∀ g9, u8.ownBlock = some g9 → g9 < wr.heap.size := fun g9 hg9 => by
                obtain ⟨cells, q1, _⟩ := hown
                exact (q1.lt g9 hg9).2
              go_wp2_with (first
                | ((with_reducible show wpList _ _ _ (⟨_, .indexAddr _ _ _, _, _, _, _⟩ :: _) _ _); refine wpl_indexAddr1 elU8 rfl rfl hbr rfl rfl (by omega) (by omega) _ hug ?_; intro ad hcell)
                | ((with_reducible show wpList _ _ _ (⟨_, .slice _ _ _ _ _, _, _, _, _⟩ :: _) _ _); refine wpl_from_by (n := j + 1) elU8 rfl rfl (hbr.upd0 hUa) rfl rfl (by omega) (by omega) ?_; intro v3 hb3 _))
              refine (HT1.out _ hUa _ hb3).mono ?_
              rintro e9 w9 ⟨v9, rfl, hv9, hU9⟩
              obtain ⟨ao9, cap9, hs9⟩ := By.val hv9.by
              subst hs9
              have hb9 := hU9.get hba (by simp)
              have k0 : w9.cell? ⟨wr.heap.size, 0, none⟩ = some (.string ⟨#[]⟩) := by rw [cell_lit w9 _ 0 _ _ _ hb9]; rfl
              have kf := frozen_lit w9 wr.heap.size 0 _ _ hb9
              have k1c : w9.cell? ⟨wr.heap.size, 1, none⟩ = some (.bool true) := by rw [cell_lit w9 _ 1 _ _ _ hb9]; rfl
              have k2c : w9.cell? ⟨wr.heap.size, 2, none⟩ = some (.slice none 0 0) := by rw [cell_lit w9 _ 2 _ _ _ hb9]; rfl
              have hb10 := setCell_get (i := 0) hb9 (encS key)
              have y0 : (w9.setCell ⟨wr.heap.size, 0, none⟩ (encS key)).cell? ⟨wr.heap.size, 0, none⟩ = some (encS key) := by rw [cell_lit _ _ 0 _ _ _ hb10]; rfl
              have y1 : (w9.setCell ⟨wr.heap.size, 0, none⟩ (encS key)).cell? ⟨wr.heap.size, 1, none⟩ = some (.bool true) := by rw [cell_lit _ _ 1 _ _ _ hb10]; rfl
              have y2 : (w9.setCell ⟨wr.heap.size, 0, none⟩ (encS key)).cell? ⟨wr.heap.size, 2, none⟩ = some (.slice none 0 0) := by rw [cell_lit _ _ 2 _ _ _ hb10]; rfl
              have hUs : Upd [wr.heap.size] w9 (w9.setCell ⟨wr.heap.size, 0, none⟩ (encS key)) := Upd.setCell _ _ _ (by simp)
              have o8 : Off w9 5 [wr.heap.size] := Off.cons_cells hb9 (by decide) (Off.nil _ _)
              have hU10 : Upd [] wr (w9.setCell ⟨wr.heap.size, 0, none⟩ (encS key)) := (hUa.trans0 hU9).trans hUs (fun x hx hlt9 => by simp at hx; omega)
              have hU010 := hU.trans0 hU10
              have hown10 : OwnRC (w9.setCell ⟨wr.heap.size, 0, none⟩ (encS key)) w.heap.size u8 out := hown.upd0 hU10
              clear hUs o8 hb3 hba
              clear hb9
              go_wp2_with (first
                | ((with_reducible show wpList _ _ _ (⟨_, .convert _ _ _, _, _, _, _⟩ :: _) _ _); refine wpl_back rfl rfl hv9.by rfl ?_)
                | ((with_reducible show wpList _ _ _ (⟨_, .buildSlice _ _ _, _, _, _, _⟩ :: _) _ _); refine wpl_lit elRChg rfl rfl rfl (cs := [encS key, .bool true, .slice none 0 0]) rfl rfl (by omega) ?_; intro v5 w5 hv5 hU5 _)
                | ((with_reducible show wpList _ _ _ (⟨_, .call ⟨.builtin .append, _, _⟩, _, _, _, _⟩ :: _) _ _); refine wpl_append_rc (c := ⟨key, true, []⟩) rfl rfl (hU010.trans0 hU5) (hown10.upd0 hU5) rfl (Rd.of_own hv5) rfl (Rd.nil _ _ _) HOL.out ?_; intro v6 w6 hv6 hU6))
              exact ⟨HREL.out _ _ hv6 hU6, by simp [intOf]; omega⟩
            | false =>
              rw [if_neg (by have := HGZ.out; simp at this; exact this)] at hdg
              obtain ⟨r2, hr2⟩ : ∃ r2, readTextB (l.drop (j + 1 + k1)) 262144 = r2 := ⟨_, rfl⟩
              have hus2 := @rt_used (l.drop (j + 1 + k1)) 262144
              have HT2 := Lib.hid (fun (W : World) (v : Value) (hv : By W v (l.drop (j + 1 + k1))) => rf_readText W v (l.drop (j + 1 + k1)) hv (by simp; omega) 262144 (by omega))
              rw [hr2] at hdg hus2 HT2
              obtain ⟨val, k2, e2⟩ := r2
              dsimp only at hdg hus2
              clear hr2
              by_cases he2 : e2 = 0
              · subst he2
                have hu2' := hus2 rfl
                rw [List.length_drop] at hu2'
                rw [if_neg (by simp), List.drop_drop] at hdg
                have HREL := Lib.hid (fun (v : Value) (W : World) (hv : OwnRC W w.heap.size v (out ++ [⟨key, false, val⟩])) (hW : Upd [] w W) => show RDecRel w n l (l.drop u) (.int .i64 ((i : Int) + 1)) (.int .i64 ((j : Int) + 1 + (k1 : Int) + (k2 : Int))) v W from
                  ⟨i + 1, j + 1 + k1 + k2, _, by simp, by simp, hlt, by omega, hv, by simp [hol], by rw [hdg, show n - (i + 1) = m from by omega], hW⟩)
                clear hdg hus2
                have hownlt : ∀ g9, u8.ownBlock = some g9 → g9 < wr.heap.size := fun g9 hg9 => by
                  obtain ⟨cells, q1, _⟩ := hown
                  exact (q1.lt g9 hg9).2
                go_wp2_with (first
                  | ((with_reducible show wpList _ _ _ (⟨_, .indexAddr _ _ _, _, _, _, _⟩ :: _) _ _); refine wpl_indexAddr1 elU8 rfl rfl hbr rfl rfl (by omega) (by omega) _ hug ?_; intro ad hcell)
                  | ((with_reducible show wpList _ _ _ (⟨_, .slice _ _ _ _ _, _, _, _, _⟩ :: _) _ _); refine wpl_from_by (n := j + 1) elU8 rfl rfl (hbr.upd0 hUa) rfl rfl (by omega) (by omega) ?_; intro v3 hb3 _))
                refine (HT1.out _ hUa _ hb3).mono ?_
                rintro e9 w9 ⟨v9, rfl, hv9, hU9⟩
                obtain ⟨ao9, cap9, hs9⟩ := By.val hv9.by
                subst hs9
                have hb9 := hU9.get hba (by simp)
                have k0 : w9.cell? ⟨wr.heap.size, 0, none⟩ = some (.string ⟨#[]⟩) := by rw [cell_lit w9 _ 0 _ _ _ hb9]; rfl
                have kf := frozen_lit w9 wr.heap.size 0 _ _ hb9
                have k1c : w9.cell? ⟨wr.heap.size, 1, none⟩ = some (.bool false) := by rw [cell_lit w9 _ 1 _ _ _ hb9]; rfl
                have k2c : w9.cell? ⟨wr.heap.size, 2, none⟩ = some (.slice none 0 0) := by rw [cell_lit w9 _ 2 _ _ _ hb9]; rfl
                have hb10 := setCell_get (i := 0) hb9 (encS key)
                have y0 : (w9.setCell ⟨wr.heap.size, 0, none⟩ (encS key)).cell? ⟨wr.heap.size, 0, none⟩ = some (encS key) := by rw [cell_lit _ _ 0 _ _ _ hb10]; rfl
                have y1 : (w9.setCell ⟨wr.heap.size, 0, none⟩ (encS key)).cell? ⟨wr.heap.size, 1, none⟩ = some (.bool false) := by rw [cell_lit _ _ 1 _ _ _ hb10]; rfl
                have y2 : (w9.setCell ⟨wr.heap.size, 0, none⟩ (encS key)).cell? ⟨wr.heap.size, 2, none⟩ = some (.slice none 0 0) := by rw [cell_lit _ _ 2 _ _ _ hb10]; rfl
                have hUs : Upd [wr.heap.size] w9 (w9.setCell ⟨wr.heap.size, 0, none⟩ (encS key)) := Upd.setCell _ _ _ (by simp)
                have o8 : Off w9 5 [wr.heap.size] := Off.cons_cells hb9 (by decide) (Off.nil _ _)
                have hU10 : Upd [] wr (w9.setCell ⟨wr.heap.size, 0, none⟩ (encS key)) := (hUa.trans0 hU9).trans hUs (fun x hx hlt9 => by simp at hx; omega)
                have hU010 := hU.trans0 hU10
                have hown10 : OwnRC (w9.setCell ⟨wr.heap.size, 0, none⟩ (encS key)) w.heap.size u8 out := hown.upd0 hU10
                clear hUs o8 hb3 hba
                clear hb9
                go_wp2_with (first
                  | ((with_reducible show wpList _ _ _ (⟨_, .convert _ _ _, _, _, _, _⟩ :: _) _ _); refine wpl_back rfl rfl hv9.by rfl ?_)
                  | ((with_reducible show wpList _ _ _ (⟨_, .slice _ _ _ _ _, _, _, _, _⟩ :: _) _ _); refine wpl_from_by (n := j + 1 + k1) elU8 rfl rfl (hbr.upd0 hU10) rfl rfl (by omega) (by omega) ?_; intro v11 hb11 _))
                refine (HT2.out _ _ hb11).mono ?_
                rintro e12 w12 ⟨v12, rfl, hv12, hU12⟩
                obtain ⟨ao12, cap12, hs12⟩ := By.val hv12.by
                subst hs12
                have hb12 := hU12.get hb10 (by simp)
                have z2 : w12.cell? ⟨wr.heap.size, 2, none⟩ = some (.slice none 0 0) := by rw [cell_lit w12 _ 2 _ _ _ hb12]; rfl
                have zf := frozen_lit w12 wr.heap.size 2 _ _ hb12
                have hb13 := setCell_get (i := 2) hb12 (.slice ao12 val.length cap12)
                have z0' : (w12.setCell ⟨wr.heap.size, 2, none⟩ (.slice ao12 val.length cap12)).cell? ⟨wr.heap.size, 0, none⟩ = some (encS key) := by rw [cell_lit _ _ 0 _ _ _ hb13]; rfl
                have z1' : (w12.setCell ⟨wr.heap.size, 2, none⟩ (.slice ao12 val.length cap12)).cell? ⟨wr.heap.size, 1, none⟩ = some (.bool false) := by rw [cell_lit _ _ 1 _ _ _ hb13]; rfl
                have z2' : (w12.setCell ⟨wr.heap.size, 2, none⟩ (.slice ao12 val.length cap12)).cell? ⟨wr.heap.size, 2, none⟩ = some (.slice ao12 val.length cap12) := by rw [cell_lit _ _ 2 _ _ _ hb13]; rfl
                have hUs13 : Upd [wr.heap.size] w12 (w12.setCell ⟨wr.heap.size, 2, none⟩ (.slice ao12 val.length cap12)) := Upd.setCell _ _ _ (by simp)
                have o813 : Off w12 5 [wr.heap.size] := Off.cons_cells hb12 (by decide) (Off.nil _ _)
                have hU013 : Upd [] w (w12.setCell ⟨wr.heap.size, 2, none⟩ (.slice ao12 val.length cap12)) := (hU010.trans0 hU12).trans hUs13 (fun x hx hlt9 => by simp at hx; have := hU.size; omega)
                have hown13 : OwnRC (w12.setCell ⟨wr.heap.size, 2, none⟩ (.slice ao12 val.length cap12)) w.heap.size u8 out := by
                  obtain ⟨cells, q1, q2⟩ := hown10.upd0 hU12
                  exact ⟨cells, Own.upd q1 hUs13 (fun g9 hg9 hm9 => by simp at hm9; have := hownlt g9 hg9; omega), q2.upd hUs13 o813⟩
                have hv13 := hv12.by.upd hUs13 o813
                clear hb12 hb13 hUs13 o813 hb10 hv9 hv12
                go_wp2_with (first
                  | ((with_reducible show wpList _ _ _ (⟨_, .buildSlice _ _ _, _, _, _, _⟩ :: _) _ _); refine wpl_lit elRChg rfl rfl rfl (cs := [encS key, .bool false, .slice ao12 val.length cap12]) rfl rfl (by omega) ?_; intro v5 w5 hv5 hU5 _)
                  | ((with_reducible show wpList _ _ _ (⟨_, .call ⟨.builtin .append, _, _⟩, _, _, _, _⟩ :: _) _ _); refine wpl_append_rc (c := ⟨key, false, val⟩) rfl rfl (hU013.trans0 hU5) (hown13.upd0 hU5) rfl (Rd.of_own hv5) rfl (hv13.upd0 hU5) HOL.out ?_; intro v6 w6 hv6 hU6))
                exact ⟨HREL.out _ _ hv6 hU6, by simp [intOf]; omega⟩
              · rw [if_pos he2] at hdg
                have HR := Lib.hid (HNONE.out hdg)
                have t2 : ((e2 : Int) != 0) = true := by simpa using he2
                clear hdg hus2 he2
                have hownlt : ∀ g9, u8.ownBlock = some g9 → g9 < wr.heap.size := fun g9 hg9 => by
                  obtain ⟨cells, q1, _⟩ := hown
                  exact (q1.lt g9 hg9).2
                go_wp2_with (first
                  | ((with_reducible show wpList _ _ _ (⟨_, .indexAddr _ _ _, _, _, _, _⟩ :: _) _ _); refine wpl_indexAddr1 elU8 rfl rfl hbr rfl rfl (by omega) (by omega) _ hug ?_; intro ad hcell)
                  | ((with_reducible show wpList _ _ _ (⟨_, .slice _ _ _ _ _, _, _, _, _⟩ :: _) _ _); refine wpl_from_by (n := j + 1) elU8 rfl rfl (hbr.upd0 hUa) rfl rfl (by omega) (by omega) ?_; intro v3 hb3 _))
                refine (HT1.out _ hUa _ hb3).mono ?_
                rintro e9 w9 ⟨v9, rfl, hv9, hU9⟩
                obtain ⟨ao9, cap9, hs9⟩ := By.val hv9.by
                subst hs9
                have hb9 := hU9.get hba (by simp)
                have k0 : w9.cell? ⟨wr.heap.size, 0, none⟩ = some (.string ⟨#[]⟩) := by rw [cell_lit w9 _ 0 _ _ _ hb9]; rfl
                have kf := frozen_lit w9 wr.heap.size 0 _ _ hb9
                have k1c : w9.cell? ⟨wr.heap.size, 1, none⟩ = some (.bool false) := by rw [cell_lit w9 _ 1 _ _ _ hb9]; rfl
                have k2c : w9.cell? ⟨wr.heap.size, 2, none⟩ = some (.slice none 0 0) := by rw [cell_lit w9 _ 2 _ _ _ hb9]; rfl
                have hb10 := setCell_get (i := 0) hb9 (encS key)
                have y0 : (w9.setCell ⟨wr.heap.size, 0, none⟩ (encS key)).cell? ⟨wr.heap.size, 0, none⟩ = some (encS key) := by rw [cell_lit _ _ 0 _ _ _ hb10]; rfl
                have y1 : (w9.setCell ⟨wr.heap.size, 0, none⟩ (encS key)).cell? ⟨wr.heap.size, 1, none⟩ = some (.bool false) := by rw [cell_lit _ _ 1 _ _ _ hb10]; rfl
                have y2 : (w9.setCell ⟨wr.heap.size, 0, none⟩ (encS key)).cell? ⟨wr.heap.size, 2, none⟩ = some (.slice none 0 0) := by rw [cell_lit _ _ 2 _ _ _ hb10]; rfl
                have hUs : Upd [wr.heap.size] w9 (w9.setCell ⟨wr.heap.size, 0, none⟩ (encS key)) := Upd.setCell _ _ _ (by simp)
                have o8 : Off w9 5 [wr.heap.size] := Off.cons_cells hb9 (by decide) (Off.nil _ _)
                have hU10 : Upd [] wr (w9.setCell ⟨wr.heap.size, 0, none⟩ (encS key)) := (hUa.trans0 hU9).trans hUs (fun x hx hlt9 => by simp at hx; omega)
                have hU010 := hU.trans0 hU10
                have hown10 : OwnRC (w9.setCell ⟨wr.heap.size, 0, none⟩ (encS key)) w.heap.size u8 out := hown.upd0 hU10
                clear hUs o8 hb3 hba
                clear hb9
                go_wp2_with (first
                  | ((with_reducible show wpList _ _ _ (⟨_, .convert _ _ _, _, _, _, _⟩ :: _) _ _); refine wpl_back rfl rfl hv9.by rfl ?_)
                  | ((with_reducible show wpList _ _ _ (⟨_, .slice _ _ _ _ _, _, _, _, _⟩ :: _) _ _); refine wpl_from_by (n := j + 1 + k1) elU8 rfl rfl (hbr.upd0 hU10) rfl rfl (by omega) (by omega) ?_; intro v11 hb11 _))
                refine (HT2.out _ _ hb11).mono ?_
                rintro e12 w12 ⟨v12, rfl, hv12, hU12⟩
                obtain ⟨ao12, cap12, hs12⟩ := By.val hv12.by
                subst hs12
                go_wp2_with fail
                go_ret2
                exact HR.out _ (hU10.trans0 hU12) _
      · have htj : decide ((l.length : Int) ≤ (j : Int)) = true := by simp; omega
        have hjl2 : l.length ≤ j := by omega
        have htn : decide (l.length ≤ j) = true := by simp; omega
        have HR := Lib.hid (HNONE.out (by rw [hdg, List.drop_eq_nil_of_le (by omega), decGo]))
        clear hdg hown
        go_wp2_with fail
        go_ret2
        exact HR.out _ (Upd.refl _ _) _
    · have htt : decide ((i : Int) < (n : Int)) = false := by simp; omega
      rw [show n - i = 0 from by omega, decGo] at hdg
      by_cases hjl : j = l.length
      · have tj : ((j : Int) != (l.length : Int)) = false := by simp; omega
        have HF := Lib.hid (show RDecPost w (decB l) (.returned (.tuple #[u8, .int .i64 0])) wr from ⟨u8, by rw [HD.out, hdg, hjl, List.drop_length]; rfl, fun q hq => by
          rw [HD.out, hdg, hjl, List.drop_length] at hq
          cases hq
          exact hown, hU⟩)
        clear hdg hown hjl hol
        go_wp2_with fail
        go_ret2
        exact HF.out
      · have tj : ((j : Int) != (l.length : Int)) = true := by simp; omega
        obtain ⟨c, r, hcr⟩ : ∃ c r, l.drop j = c :: r := by
          cases hc : l.drop j with
          | nil => exact absurd (by have := congrArg List.length hc; simp at this; omega) hjl
          | cons c r => exact ⟨c, r, rfl⟩
        have HR := Lib.hid (show RDecPost w (decB l) (.returned (.tuple #[.slice none 0 0, .int .i64 10])) wr from rdec_none (by rw [HD.out, hdg, hcr]) hU)
        clear hdg hown hjl hcr hol
        go_wp2_with fail
        go_ret2
        exact HR.out
end Go.Proofs.YthfbfdkjgkkpcaaGreat

namespace Go.Proofs.YthfbfdkjgkkpcaaGreat
open Go Go.RowKit

theorem decGo_len : ∀ (n : Nat) (b : List UInt8) (out l : List TChg) (r : List UInt8), decGo n b out = some (l, r) → l.length + r.length ≤ out.length + b.length
  | 0, b, out, l, r, h => by
    simp only [decGo, Option.some.injEq, Prod.mk.injEq] at h
    obtain ⟨rfl, rfl⟩ := h
    exact Nat.le_refl _
  | n + 1, [], out, l, r, h => by simp [decGo] at h
  | n + 1, g :: b, out, l, r, h => by
    unfold decGo at h
    split at h
    · cases h
    split at h
    · cases h
    split at h
    · have := decGo_len n _ _ _ _ h
      simp at this ⊢
      omega
    split at h
    · cases h
    · have := decGo_len n _ _ _ _ h
      simp at this ⊢
      omega
theorem decB_len {b : List UInt8} {l : List TChg} (h : decB b = some l) : l.length ≤ b.length := by
  unfold decB at h
  split at h
  · cases h
  split at h
  · cases h
  split at h
  · rename_i l' hq
    cases h
    have := decGo_len _ _ _ _ _ hq
    simp at this
    omega
  · cases h
/-- Block tb is the document's table on the disk d; S: the blocks that it turns. -/
structure RTAt (w : World) (d tb : Nat) (S : List Nat) (T : TSt) (recs : List (List UInt8)) : Prop where
  ex : ∃ jb lv S0, S = tb :: S0 ∧ RJAt w d jb S0 T.J recs ∧ w.heap[tb]? = some (.cells #[.pointer (some ⟨jb, 0, none⟩), lv, .bool T.down] 48 (0, 0)) ∧ Prs w lv T.m
  srt : Srt T.m
def RTPost (w : World) (d : Nat) (S : List Nat) (r : DSt × Nat) (name : List UInt8) (recs : List (List UInt8)) (sz : Nat) (e : Ending) (w' : World) : Prop :=
  if r.2 = 0 then
    match recsB [] recs with
    | some m => ∃ tb S', e = .returned (.tuple #[.pointer (some ⟨tb, 0, none⟩), .int .i64 0]) ∧ w.heap.size ≤ tb ∧ RTAt w' d tb S' ⟨⟨r.1, name, sz⟩, m, false⟩ recs ∧ Upd S w w' ∧ Sub w S S'
    | none => e = .returned (.tuple #[.pointer none, .int .i64 200]) ∧ ∃ S', RDiskAt w' d S' r.1 ∧ Upd S w w' ∧ Sub w S S'
  else e = .returned (.tuple #[.pointer none, .int .i64 r.2]) ∧ ∃ S', RDiskAt w' d S' r.1 ∧ Upd S w w' ∧ Sub w S S'
def RtRel (wb : World) (tb jb : Nat) (recs : List (List UInt8)) (x : Value) (wr : World) : Prop :=
  ∃ (i : Nat) (m : List (List UInt8 × List UInt8)) (lo : Option Addr) (lc : Nat), x = .int .i64 i ∧ i ≤ recs.length ∧ Upd [tb] wb wr ∧ wr.heap[tb]? = some (.cells #[.pointer (some ⟨jb, 0, none⟩), .slice lo m.length lc, .bool false] 48 (0, 0)) ∧
    Prs wr (.slice lo m.length lc) m ∧ Srt m ∧ m.length ≤ (framesB (recs.take i)).length ∧ recsB [] recs = recsB m (recs.drop i)
theorem RJAt.disk {w : World} {d j : Nat} {S : List Nat} {J : JSt} {recs : List (List UInt8)} (h : RJAt w d j S J recs) : ∃ S0, RDiskAt w d S0 J.D ∧ ∀ k ∈ S0, k ∈ S := by
  obtain ⟨rv, cells, S0, rfl, hD, _⟩ := h.ex
  exact ⟨S0, hD, fun k hk => by simp [hk]⟩
set_option maxRecDepth 100000 in
set_option maxHeartbeats 4000000 in
theorem rt_open (w : World) (d : Nat) (S : List Nat) (r : DSt × Nat) (name : List UInt8) (recs : List (List UInt8)) (sz : Nat) (hb : (framesB recs).length ≤ 100000000)
    (hopen : Calls Tryz.prog 13 #[.pointer (some ⟨d, 0, none⟩), encS name] w (ROpenPost w d S r name recs sz)) :
    Calls Tryz.prog 18 #[.pointer (some ⟨d, 0, none⟩), encS name] w (RTPost w d S r name recs sz) := by
  have HO := Lib.hid hopen
  have HB := Lib.hid hb
  have hrl : recs.length ≤ 100000000 := by
    have : recs.length ≤ (framesB recs).length := by
      clear hb hopen HO HB
      induction recs with
      | nil => simp
      | cons p l ih =>
        rw [show framesB (p :: l) = frameB p ++ framesB l from rfl, List.length_append, frameB_length]
        simp; omega
    omega
  clear hb hopen
  obtain ⟨D2, k⟩ := r
  by_cases hk : k = 0
  · subst hk
    go_enter Tryz.func18, Tryz.ntmps18
    go_wp2_with fail
    refine HO.out.mono ?_
    intro e w1 hpost
    unfold ROpenPost at hpost
    rw [if_pos rfl] at hpost
    obtain ⟨jb, S1, rfl, hjb, hJ1, hU1, hs1⟩ := hpost
    have hU0 : Upd [] w1 (w1.alloc (Obj.cells #[.pointer (some ⟨jb, 0, none⟩), .slice none 0 0, .bool false] 48)) := Upd.alloc [] _ _
    have hb0 := heap_alloc_new w1 (Obj.cells #[.pointer (some ⟨jb, 0, none⟩), .slice none 0 0, .bool false] 48)
    have hJ0 := hJ1.upd0 hU0
    clear HO
    go_wp2_with fail
    generalize hwb : w1.alloc (Obj.cells #[.pointer (some ⟨jb, 0, none⟩), .slice none 0 0, .bool false] 48) = wb at *
    clear hwb
    have hT8 : Off wb 5 [w1.heap.size] := Off.cons_cells hb0 (by decide) (Off.nil _ _)
    have hTF : Off wb 138 [w1.heap.size] := Off.cons_cells hb0 (by decide) (Off.nil _ _)
    have hTn : ∀ q ∈ S1, q ∉ [w1.heap.size] := fun q hq hm => by simp at hm; have := hJ1.lt q hq; omega
    have HJ0 := Lib.hid (fun (W : World) (hW : Upd [w1.heap.size] wb W) => hJ0.upd hW hT8 hTF hTn)
    have HFIN := Lib.hid (fun (W : World) (hW : Upd [w1.heap.size] wb W) => show Upd S w W from (hU1.then0 hU0).trans hW (fun q hq hlt => by simp at hq; have := hU1.size; omega))
    have HS1 := Lib.hid hs1
    have HU1s := Lib.hid hU1.size
    clear hJ1 hJ0 hU0 hT8 hTF hTn hU1 hs1
    go_loopw [9] (fun x wr => RtRel wb w1.heap.size jb recs x wr) (fun x _ => recs.length - (intOf x).toNat)
    case atStart => exact ⟨0, [], none, 0, rfl, Nat.zero_le _, Upd.refl _ _, hb0, Prs.nil _, Srt.nil, by simp, by simp⟩
    case round =>
      obtain ⟨i, m, lo, lc, rfl, hi, hU, htb, hP, hSr, hml, hrec⟩ := hrel
      have hJ := HJ0.out wr hU
      obtain ⟨rv, rcells, S0, hS0, hD, hj, ho, hc⟩ := hJ.ex
      obtain ⟨ro, rc, hrs, _⟩ := (Rd.of_own ho).shape
      subst hrs
      have cj2 : wr.cell? ⟨jb, 2, none⟩ = some (.slice ro recs.length rc) := by rw [cell_lit wr _ 2 _ _ _ hj]; rfl
      have ct1 : wr.cell? ⟨w1.heap.size, 1, none⟩ = some (.slice lo m.length lc) := by rw [cell_lit wr _ 1 _ _ _ htb]; rfl
      have HSR := Lib.hid hSr
      have HREC := Lib.hid hrec
      have HS0 := Lib.hid hS0
      clear hS0 hrec hSr
      by_cases hlt : i < recs.length
      · have htt : decide ((i : Int) < (recs.length : Int)) = true := by simp; omega
        obtain ⟨p, hp⟩ : ∃ p, recs[i]? = some p := ⟨_, List.getElem?_eq_getElem hlt⟩
        obtain ⟨pv, g0, hpv⟩ := hc.get hp
        obtain ⟨aq, cq, hsq⟩ := By.val hpv
        subst hsq
        have hR := Rd.of_own ho
        have htk : (framesB (recs.take (i + 1))).length = (framesB (recs.take i)).length + (p.length + 8) := by
          rw [List.take_add_one, hp, framesB_append, List.length_append]
          simp [framesB, frameB_length]
        have hfl := framesB_take recs (i + 1)
        have hpl : p.length ≤ 100000000 := by have := HB.out; omega
        have HDC := Lib.hid (rf_decode wr _ p hpv (by omega))
        have hrec := HREC.out
        rw [List.drop_eq_getElem_cons hlt, (List.getElem?_eq_some_iff.1 hp).2] at hrec
        have HRX := Lib.hid hrec
        clear hp hrec
        cases hdc : decB p with
        | none =>
          have hnone : recsB [] recs = none := by rw [HRX.out, recsB, hdc]
          have HF := Lib.hid (fun (W : World) (hW : Upd [] wr W) => show RTPost w d S (D2, 0) name recs sz (.returned (.tuple #[.pointer none, .int .i64 200])) W from by
            unfold RTPost
            rw [if_pos rfl, hnone]
            refine ⟨rfl, S0, hD.upd0 hW, (HFIN.out wr hU).then0 hW, fun q hq => HS1.out q (by rw [HS0.out]; simp [hq])⟩)
          rw [hdc] at HDC
          clear hnone hdc
          go_wp2_with ((with_reducible show wpList _ _ _ (⟨_, .indexAddr _ _ _, _, _, _, _⟩ :: _) _ _); refine wpl_indexAddr1 elRec rfl rfl hR rfl rfl (by omega) (by omega) (.slice aq p.length cq) (by rw [Int.toNat_natCast]; exact g0) ?_; intro ad hcell)
          refine HDC.out.mono ?_
          rintro e2 w2 ⟨v2, rfl, _, hU2⟩
          go_wp2_with fail
          go_ret2
          exact HF.out _ hU2
        | some cs =>
          have hbd := decB_bounds hdc
          have hcl := decB_len hdc
          have hnext : recsB [] recs = recsB (tdo m cs) (recs.drop (i + 1)) := by rw [HRX.out, recsB, hdc]
          have htl := tdo_length cs m
          have HDO := Lib.hid (fun (W : World) (hW : Upd [] wr W) (v : Value) (hv : RChgs W v cs) => ref_Do W _ v m cs (hP.upd0 hW) hv HSR.out (by have := HB.out; omega) (fun c hc => by have := (hbd.2 c hc).2.2; omega))
          have HREL := Lib.hid (fun (W : World) (o : Option Addr) (c : Nat) (hW : Upd [w1.heap.size] wb W) (ht : W.heap[w1.heap.size]? = some (.cells #[.pointer (some ⟨jb, 0, none⟩), .slice o (tdo m cs).length c, .bool false] 48 (0, 0))) (hp : Prs W (.slice o (tdo m cs).length c) (tdo m cs)) =>
            show RtRel wb w1.heap.size jb recs (.int .i64 ((i : Int) + 1)) W from ⟨i + 1, tdo m cs, o, c, by simp, hlt, hW, ht, hp, HSR.out.tdo cs, by omega, hnext⟩)
          rw [hdc] at HDC
          clear hbd hcl hnext htl hdc
          go_wp2_with ((with_reducible show wpList _ _ _ (⟨_, .indexAddr _ _ _, _, _, _, _⟩ :: _) _ _); refine wpl_indexAddr1 elRec rfl rfl hR rfl rfl (by omega) (by omega) (.slice aq p.length cq) (by rw [Int.toNat_natCast]; exact g0) ?_; intro ad hcell)
          refine HDC.out.mono ?_
          rintro e2 w2 ⟨v2, rfl, hv2, hU2⟩
          have hv2 := (hv2 cs rfl).chgs
          obtain ⟨ao2, cap2, hs2⟩ := hv2.shape
          subst hs2
          have ct2 := hU2.cell ct1 (by simp)
          go_wp2_with fail
          refine (HDO.out w2 hU2 _ hv2).mono ?_
          rintro e3 w3 ⟨v3, rfl, hv3, hU3⟩
          obtain ⟨ao3, cap3, hs3⟩ := hv3.shape
          subst hs3
          have hU23 := hU2.trans0 hU3
          have ht3 := hU23.get htb (by simp)
          have ct3 := hU3.cell ct2 (by simp)
          have cf3 := frozen_lit w3 w1.heap.size 1 _ _ ht3
          have ht4 := setCell_get (i := 1) ht3 (.slice ao3 (tdo m cs).length cap3)
          have hU4 : Upd [w1.heap.size] w3 (w3.setCell ⟨w1.heap.size, 1, none⟩ (.slice ao3 (tdo m cs).length cap3)) := Upd.setCell _ _ _ (by simp)
          have hv4 := hv3.upd hU4 (Off.cons_cells ht3 (by decide) (Off.nil _ _)) (Off.cons_cells ht3 (by decide) (Off.nil _ _))
          have hU04 := (hU.then0 hU23).trans hU4 (fun q hq _ => hq)
          have HR := Lib.hid (HREL.out _ ao3 cap3 hU04 ht4 hv4)
          clear ht4 hU4 hv4 hU04 hv3 hv2 ht3
          go_wp2_with fail
          exact ⟨HR.out, by simp [intOf]; omega⟩
      · have htt : decide ((i : Int) < (recs.length : Int)) = false := by simp; omega
        have hfin : recsB [] recs = some m := by rw [HREC.out, List.drop_eq_nil_of_le (by omega), recsB]
        have HF := Lib.hid (show RTPost w d S (D2, 0) name recs sz (.returned (.tuple #[.pointer (some ⟨w1.heap.size, 0, none⟩), .int .i64 0])) wr from by
          unfold RTPost
          rw [if_pos rfl, hfin]
          refine ⟨_, w1.heap.size :: S1, rfl, HU1s.out, ⟨⟨jb, _, S1, rfl, hJ, htb, hP⟩, HSR.out⟩, HFIN.out wr hU, fun q hq => ?_⟩
          simp only [List.mem_cons] at hq
          rcases hq with rfl | hq
          · exact .inr HU1s.out
          · exact HS1.out q hq)
        clear hfin
        go_wp2_with fail
        go_ret2
        exact HF.out
  · have tk : ((k : Int) != 0) = true := by simpa using hk
    have HK := Lib.hid hk
    clear hk
    go_enter Tryz.func18, Tryz.ntmps18
    go_wp2_with fail
    refine HO.out.mono ?_
    intro e w1 hpost
    unfold ROpenPost at hpost
    rw [if_neg HK.out] at hpost
    obtain ⟨rfl, hp⟩ := hpost
    have HF := Lib.hid (show RTPost w d S (D2, k) name recs sz (.returned (.tuple #[.pointer none, .int .i64 (k : Nat)])) w1 from by
      unfold RTPost
      rw [if_neg HK.out]
      exact ⟨rfl, hp⟩)
    clear hp
    go_wp2_with fail
    go_ret2
    exact HF.out
end Go.Proofs.YthfbfdkjgkkpcaaGreat

namespace Go.Proofs.YthfbfdkjgkkpcaaGreat
open Go Go.RowKit

/-- Each block of S is a row or a box of one of the types of L, or (mp) a map. -/
def Sorts (w : World) (S : List Nat) (L : List TypeId) (mp : Bool) : Prop := ∀ k ∈ S, (∃ c e f, w.heap[k]? = some (.cells c e f) ∧ e ∈ L) ∨ (mp = true ∧ ∃ es n, w.heap[k]? = some (.map es n))
theorem Sorts.apart {w : World} {S R : List Nat} {L L' : List TypeId} {mp : Bool} (h : Sorts w S L mp) (h' : Sorts w R L' false) (hd : ∀ e ∈ L, e ∉ L') : ∀ k ∈ S, k ∉ R := by
  intro k hk hr
  rcases h' k hr with ⟨c, e, f, h1, h2⟩ | ⟨h1, _⟩
  · rcases h k hk with ⟨c', e', f', h3, h4⟩ | ⟨_, es, n, h3⟩
    · rw [h1] at h3
      cases h3
      exact hd _ h4 h2
    · rw [h1] at h3
      cases h3
  · cases h1
theorem Sorts.mono {w : World} {S : List Nat} {L L' : List TypeId} {mp : Bool} (h : Sorts w S L mp) (hd : ∀ e ∈ L, e ∈ L') : Sorts w S L' mp := fun k hk => by
  rcases h k hk with ⟨c, e, f, h1, h2⟩ | h1
  · exact .inl ⟨c, e, f, h1, hd e h2⟩
  · exact .inr h1
theorem own_sorts {w : World} {B e sz n : Nat} {v : Value} {xs : List Value} (h : w.ownsRow B e sz v n xs) {k : Nat} (hk : v.ownBlock = some k) : ∃ c f, w.heap[k]? = some (.cells c e f) := by
  rcases h.2 with ⟨rfl, _⟩ | ⟨g, cap, cur, rfl, _, hg, _⟩
  · simp [Value.ownBlock] at hk
  · simp [Value.ownBlock] at hk
    subst hk
    exact ⟨_, _, hg⟩
theorem MapB.block {w : World} {mb : Nat} {m : List (List UInt8 × List UInt8)} (h : MapB w mb m) : ∃ es n, w.heap[mb]? = some (.map es n) := by
  obtain ⟨es, m', hw, _⟩ := h
  obtain ⟨arr, cl, hb, _⟩ := hw.ex
  exact ⟨arr, cl, hb⟩
theorem DiskAt.sorts {w : World} {d : Nat} {S : List Nat} {D : DSt} (h : DiskAt w d S D) : Sorts w S [116, 190] true := by
  obtain ⟨nb, sb, lv, cells, rfl, hd, hn, hs, hne, ho, hc⟩ := h.ex
  intro k hk
  simp only [List.mem_cons, Option.mem_toList] at hk
  rcases hk with rfl | rfl | rfl | hk
  · exact .inl ⟨_, _, _, hd, by simp⟩
  · exact .inr ⟨rfl, hn.block⟩
  · exact .inr ⟨rfl, hs.block⟩
  · obtain ⟨c, f, h1⟩ := own_sorts ho hk
    exact .inl ⟨c, _, f, h1, by simp⟩
theorem JAt.sorts {w : World} {d j : Nat} {S : List Nat} {J : JSt} (h : JAt w d j S J) : Sorts w S [116, 190, 124] true := by
  obtain ⟨S0, rfl, hD, hj⟩ := h.ex
  intro k hk
  simp only [List.mem_cons] at hk
  rcases hk with rfl | hk
  · exact .inl ⟨_, _, _, hj, by simp⟩
  · exact hD.sorts.mono (by simp) k hk
theorem TAt.sorts {w : World} {d tb : Nat} {S : List Nat} {T : TSt} (h : TAt w d tb S T) : Sorts w S [116, 190, 124, 146] true := by
  obtain ⟨jb, mb, S0, rfl, _, hJ, hM, ht⟩ := h.ex
  intro k hk
  simp only [List.mem_cons] at hk
  rcases hk with rfl | rfl | hk
  · exact .inl ⟨_, _, _, ht, by simp⟩
  · exact .inr ⟨rfl, hM.block⟩
  · exact hJ.sorts.mono (by simp) k hk
theorem RDiskAt.sorts {w : World} {d : Nat} {S : List Nat} {D : DSt} (h : RDiskAt w d S D) : Sorts w S [120, 136] false := by
  obtain ⟨nv, sv, lv, cells, rfl, hd, hn, hs, ho, hc⟩ := h.ex
  intro k hk
  simp only [List.mem_cons, Option.mem_toList] at hk
  rcases hk with rfl | hk
  · exact .inl ⟨_, _, _, hd, by simp⟩
  · obtain ⟨c, f, h1⟩ := own_sorts ho hk
    exact .inl ⟨c, _, f, h1, by simp⟩
theorem RJAt.sorts {w : World} {d j : Nat} {S : List Nat} {J : JSt} {recs : List (List UInt8)} (h : RJAt w d j S J recs) : Sorts w S [120, 136, 70, 36] false := by
  obtain ⟨rv, cells, S0, rfl, hD, hj, ho, hc⟩ := h.ex
  intro k hk
  simp only [List.mem_cons, List.mem_append, Option.mem_toList] at hk
  rcases hk with rfl | hk | hk
  · exact .inl ⟨_, _, _, hj, by simp⟩
  · obtain ⟨c, f, h1⟩ := own_sorts ho hk
    exact .inl ⟨c, _, f, h1, by simp⟩
  · exact hD.sorts.mono (by simp) k hk
theorem RTAt.sorts {w : World} {d tb : Nat} {S : List Nat} {T : TSt} {recs : List (List UInt8)} (h : RTAt w d tb S T recs) : Sorts w S [120, 136, 70, 36, 48] false := by
  obtain ⟨jb, lv, S0, rfl, hJ, ht, hP⟩ := h.ex
  intro k hk
  simp only [List.mem_cons] at hk
  rcases hk with rfl | hk
  · exact .inl ⟨_, _, _, ht, by simp⟩
  · exact hJ.sorts.mono (by simp) k hk
theorem Sorts.off {w : World} {S : List Nat} {L : List TypeId} {mp : Bool} (h : Sorts w S L mp) {e : TypeId} (he : e ∉ L) : Off w e S := by
  intro k hk c f hc
  rcases h k hk with ⟨c', e', f', h1, h2⟩ | ⟨_, es, n, h1⟩
  · rw [hc] at h1
    cases h1
    exact he h2
  · rw [hc] at h1
    cases h1
end Go.Proofs.YthfbfdkjgkkpcaaGreat

namespace Go.Proofs.YthfbfdkjgkkpcaaGreat
open Go Go.RowKit

def SamePRel (n : Nat) (a b : List (List UInt8 × List UInt8)) (w : World) (x : Value) (wr : World) : Prop := ∃ i : Nat, x = .int .i64 i ∧ i ≤ n ∧ Upd [] w wr ∧ a.take i = b.take i
set_option maxRecDepth 100000 in
set_option maxHeartbeats 1000000 in
theorem ref_SameP (w : World) (av bv : Value) (a b : List (List UInt8 × List UInt8)) (ha : Prs w av a) (hb : Prs w bv b) (hn : a.length ≤ 1000000000) (hv : ∀ p ∈ a, p.2.length ≤ 1000000000) :
    Calls Tryz.prog 80 #[av, bv] w fun e w' => e = .returned (.bool (decide (a = b))) ∧ Upd [] w w' := by
  obtain ⟨cells, hR, hC⟩ := ha
  obtain ⟨cells2, hR2, hC2⟩ := hb
  obtain ⟨ao, cap, rfl, _⟩ := hR.shape
  obtain ⟨bo, cap2, rfl, _⟩ := hR2.shape
  by_cases hlen : a.length = b.length
  · have h1 : ((a.length : Int) != (b.length : Int)) = false := by simp [hlen]
    have HL := Lib.hid hn; have HLE := Lib.hid hlen; have HV := Lib.hid hv
    clear hlen hn hv
    go_enter Tryz.func80, Tryz.ntmps80
    go_wp2_with fail
    go_loopw [5] (fun x wr => SamePRel a.length a b w x wr) (fun x _ => a.length - (intOf x).toNat)
    case atStart => exact ⟨0, rfl, Nat.zero_le _, Upd.refl _ _, by simp⟩
    case round =>
      obtain ⟨i, rfl, hi, hU, htk⟩ := hrel
      have hlen := HLE.out
      have hll := HL.out
      by_cases hlt : i < a.length
      · have htt : decide ((i : Int) < (a.length : Int)) = true := by simp; omega
        obtain ⟨p, hp⟩ : ∃ p, a[i]? = some p := ⟨_, List.getElem?_eq_getElem hlt⟩
        obtain ⟨q, hq⟩ : ∃ q, b[i]? = some q := ⟨_, List.getElem?_eq_getElem (by omega)⟩
        obtain ⟨pv, g0, g1, hpv⟩ := hC.get hp
        obtain ⟨qv, k0, k1, hqv⟩ := hC2.get hq
        obtain ⟨b1, o1, rfl, hc1⟩ := hR.x.at (by have := hR.1; omega)
        obtain ⟨b2, o2, rfl, hc2⟩ := hR2.x.at (by have := hR2.1; omega)
        obtain ⟨aq, cq, hsq⟩ := By.val hpv
        subst hsq
        obtain ⟨aq2, cq2, hsq2⟩ := By.val hqv
        subst hsq2
        have d1 := hU.cell (hc1 (i * 2 + 0) _ g0) (by simp)
        have d2 := hU.cell (hc1 (i * 2 + 1) _ g1) (by simp)
        have d3 := hU.cell (hc2 (i * 2 + 0) _ k0) (by simp)
        have d4 := hU.cell (hc2 (i * 2 + 1) _ k1) (by simp)
        rw [Nat.add_zero] at d1 d3
        rw [← Nat.add_assoc] at d2 d4
        have hUd := hU.trans0 (Upd.drew [] wr)
        have i0 : (0 : Int) ≤ (i : Int) := by omega
        have i1 : (i : Int) < (a.length : Int) := by omega
        have i2 : (i : Int) < (b.length : Int) := by omega
        have HTK := Lib.hid htk
        have hcall := ref_Same wr.drew _ _ p.2 q.2 (hpv.x.upd0 hUd) (hqv.x.upd0 hUd) (HV.out p (List.mem_of_getElem? hp))
        clear hlen hc1 hc2 htk
        by_cases hpq : p.1 = q.1
        · have hne : (!p.1 == q.1) = false := by simp [hpq]
          by_cases hpq2 : p.2 = q.2
          · rw [decide_eq_true hpq2] at hcall
            have HR := Lib.hid (fun w2 (h : Upd [] wr.drew w2) => show SamePRel a.length a b w (.int .i64 ((i : Int) + 1)) w2 from ⟨i + 1, by simp, hlt, hUd.trans0 h, by
              rw [List.take_add_one, List.take_add_one, HTK.out, hp, hq, show p = q from Prod.ext hpq hpq2]⟩)
            clear hpq hpq2 hp hq
            go_wp2_with fail
            go_region_held3 (fun W => W.cell? ⟨b1, o1 + i * 2, none⟩ = some (encS p.1) ∧ W.cell? ⟨b1, o1 + i * 2 + 1, none⟩ = some (.slice aq p.2.length cq) ∧ W.cell? ⟨b2, o2 + i * 2, none⟩ = some (encS q.1) ∧ W.cell? ⟨b2, o2 + i * 2 + 1, none⟩ = some (.slice aq2 q.2.length cq2))
              (first | exact ⟨d1, d2, d3, d4⟩ | exact ⟨hU9.cell d1 (by simp), hU9.cell d2 (by simp), hU9.cell d3 (by simp), hU9.cell d4 (by simp)⟩ | go_keep)
              ((go_at_call 46; refine hcall.mono ?_; rintro e w9 ⟨rfl, hU9⟩))
            go_wp2_with fail
            exact ⟨HR.out _ hU9, by simp [intOf]; omega⟩
          · rw [decide_eq_false hpq2] at hcall
            have hab : decide (a = b) = false := by simp; intro e; subst e; rw [hp] at hq; exact hpq2 (by injection hq with h; rw [h])
            clear hpq hpq2 hp hq
            go_wp2_with fail
            go_region_held3 (fun W => W.cell? ⟨b1, o1 + i * 2, none⟩ = some (encS p.1) ∧ W.cell? ⟨b1, o1 + i * 2 + 1, none⟩ = some (.slice aq p.2.length cq) ∧ W.cell? ⟨b2, o2 + i * 2, none⟩ = some (encS q.1) ∧ W.cell? ⟨b2, o2 + i * 2 + 1, none⟩ = some (.slice aq2 q.2.length cq2))
              (first | exact ⟨d1, d2, d3, d4⟩ | exact ⟨hU9.cell d1 (by simp), hU9.cell d2 (by simp), hU9.cell d3 (by simp), hU9.cell d4 (by simp)⟩ | go_keep)
              ((go_at_call 46; refine hcall.mono ?_; rintro e w9 ⟨rfl, hU9⟩))
            go_wp2_with fail
            go_ret
            exact ⟨by rw [hab]; rfl, hUd.trans0 hU9⟩
        · have hne : (!p.1 == q.1) = true := by simp [hpq]
          have hab : decide (a = b) = false := by simp; intro e; subst e; rw [hp] at hq; exact hpq (by injection hq with h; rw [h])
          have hS0 : wr.drew.cell? ⟨b1, o1 + i * 2, none⟩ = some (encS p.1) ∧ wr.drew.cell? ⟨b2, o2 + i * 2, none⟩ = some (encS q.1) := ⟨d1, d3⟩
          clear hpq hp hq
          go_wp2_with fail
          refine wp_region_H (fun W => W.cell? ⟨b1, o1 + i * 2, none⟩ = some (encS p.1) ∧ W.cell? ⟨b2, o2 + i * 2, none⟩ = some (encS q.1)) (by kernel_rfl) ?_
          (refine wpAnyH_takeO (i := 0) (dst := (some 17)) (op := (Go.Op.move (Go.Operand.tmp 0))) (v := ?_) (by rfl) (by kernel_rfl) (by kernel_rfl) (by kernel_rfl) (fun _ _ _ h => h) ?_ hS0 ?_; rotate_left; (focus (intro _ _ _ W HW; (try dsimp only at HW); go_simp; (try with_reducible rfl))); (try simp only [Act.put, List.setIfInBounds_toArray, List.set_cons_zero, List.set_cons_succ]))
          (refine wpAnyH_takeO (i := 1) (dst := (some 18)) (op := (Go.Op.move (Go.Operand.tmp 5))) (v := ?_) (by rfl) (by kernel_rfl) (by kernel_rfl) (by kernel_rfl) (fun _ _ _ h => h) ?_ hS0 ?_; rotate_left; (focus (intro _ _ _ W HW; (try dsimp only at HW); go_simp; (try with_reducible rfl))); (try simp only [Act.put, List.setIfInBounds_toArray, List.set_cons_zero, List.set_cons_succ]))
          (refine wpAnyH_takeO (i := 2) (dst := (some 19)) (op := (Go.Op.indexAddr 46 (Go.Operand.tmp 17) (Go.Operand.tmp 18))) (v := ?_) (by rfl) (by kernel_rfl) (by kernel_rfl) (by kernel_rfl) (fun _ _ _ h => h) ?_ hS0 ?_; rotate_left; (focus (intro _ _ _ W HW; (try dsimp only at HW); go_simp; (try with_reducible rfl))); (try simp only [Act.put, List.setIfInBounds_toArray, List.set_cons_zero, List.set_cons_succ]))
          (refine wpAnyH_takeO (i := 3) (dst := (some 20)) (op := (Go.Op.fieldAddr 165 (Go.Operand.tmp 19) 0)) (v := ?_) (by rfl) (by kernel_rfl) (by kernel_rfl) (by kernel_rfl) (fun _ _ _ h => h) ?_ hS0 ?_; rotate_left; (focus (intro _ _ _ W HW; (try dsimp only at HW); go_simp; (try with_reducible rfl))); (try simp only [Act.put, List.setIfInBounds_toArray, List.set_cons_zero, List.set_cons_succ]))
          (refine wpAnyH_takeO (i := 4) (dst := (some 21)) (op := (Go.Op.load 9 (Go.Operand.tmp 20))) (v := ?_) (by rfl) (by kernel_rfl) (by kernel_rfl) (by kernel_rfl) (fun _ _ _ h => h) ?_ hS0 ?_; rotate_left; (focus (intro _ _ _ W HW; (try dsimp only at HW); go_simp; (try with_reducible rfl))); (try simp only [Act.put, List.setIfInBounds_toArray, List.set_cons_zero, List.set_cons_succ]))
          (refine wpAnyH_takeO (i := 5) (dst := (some 22)) (op := (Go.Op.move (Go.Operand.tmp 1))) (v := ?_) (by rfl) (by kernel_rfl) (by kernel_rfl) (by kernel_rfl) (fun _ _ _ h => h) ?_ hS0 ?_; rotate_left; (focus (intro _ _ _ W HW; (try dsimp only at HW); go_simp; (try with_reducible rfl))); (try simp only [Act.put, List.setIfInBounds_toArray, List.set_cons_zero, List.set_cons_succ]))
          (refine wpAnyH_takeO (i := 6) (dst := (some 23)) (op := (Go.Op.move (Go.Operand.tmp 5))) (v := ?_) (by rfl) (by kernel_rfl) (by kernel_rfl) (by kernel_rfl) (fun _ _ _ h => h) ?_ hS0 ?_; rotate_left; (focus (intro _ _ _ W HW; (try dsimp only at HW); go_simp; (try with_reducible rfl))); (try simp only [Act.put, List.setIfInBounds_toArray, List.set_cons_zero, List.set_cons_succ]))
          (refine wpAnyH_takeO (i := 7) (dst := (some 24)) (op := (Go.Op.indexAddr 46 (Go.Operand.tmp 22) (Go.Operand.tmp 23))) (v := ?_) (by rfl) (by kernel_rfl) (by kernel_rfl) (by kernel_rfl) (fun _ _ _ h => h) ?_ hS0 ?_; rotate_left; (focus (intro _ _ _ W HW; (try dsimp only at HW); go_simp; (try with_reducible rfl))); (try simp only [Act.put, List.setIfInBounds_toArray, List.set_cons_zero, List.set_cons_succ]))
          (refine wpAnyH_takeO (i := 8) (dst := (some 25)) (op := (Go.Op.fieldAddr 165 (Go.Operand.tmp 24) 0)) (v := ?_) (by rfl) (by kernel_rfl) (by kernel_rfl) (by kernel_rfl) (fun _ _ _ h => h) ?_ hS0 ?_; rotate_left; (focus (intro _ _ _ W HW; (try dsimp only at HW); go_simp; (try with_reducible rfl))); (try simp only [Act.put, List.setIfInBounds_toArray, List.set_cons_zero, List.set_cons_succ]))
          (refine wpAnyH_takeO (i := 9) (dst := (some 26)) (op := (Go.Op.load 9 (Go.Operand.tmp 25))) (v := ?_) (by rfl) (by kernel_rfl) (by kernel_rfl) (by kernel_rfl) (fun _ _ _ h => h) ?_ hS0 ?_; rotate_left; (focus (intro _ _ _ W HW; (try dsimp only at HW); go_simp; (try with_reducible rfl))); (try simp only [Act.put, List.setIfInBounds_toArray, List.set_cons_zero, List.set_cons_succ]))
          (refine wpAnyH_takeO (i := 10) (dst := (some 27)) (op := (Go.Op.binOp Go.BinOp.neq 9 (Go.Operand.tmp 21) (Go.Operand.tmp 26) 9)) (v := ?_) (by rfl) (by kernel_rfl) (by kernel_rfl) (by kernel_rfl) (fun _ _ _ h => h) ?_ hS0 ?_; rotate_left; (focus (intro _ _ _ W HW; (try dsimp only at HW); go_simp; (try with_reducible rfl))); (try simp only [Act.put, List.setIfInBounds_toArray, List.set_cons_zero, List.set_cons_succ]))
          (refine wpAnyH_takeO (i := 11) (dst := (some 28)) (op := (Go.Op.move (Go.Operand.tmp 27))) (v := ?_) (by rfl) (by kernel_rfl) (by kernel_rfl) (by kernel_rfl) (fun _ _ _ h => h) ?_ hS0 ?_; rotate_left; (focus (intro _ _ _ W HW; (try dsimp only at HW); go_simp; (try with_reducible rfl))); (try simp only [Act.put, List.setIfInBounds_toArray, List.set_cons_zero, List.set_cons_succ]))
          (refine wpAnyH_takeU (i := 12) (dst := (some 29)) (op := (Go.Op.move (Go.Operand.tmp 0))) (by rfl) (by kernel_rfl) (by kernel_rfl) (by kernel_rfl) (b' := true) (by rfl) (by rfl) (fun _ _ _ h => h) hS0 ?_; (try simp only [Act.put, List.setIfInBounds_toArray, List.set_cons_zero, List.set_cons_succ]))
          (refine wpAnyH_takeU (i := 13) (dst := (some 30)) (op := (Go.Op.move (Go.Operand.tmp 5))) (by rfl) (by kernel_rfl) (by kernel_rfl) (by kernel_rfl) (b' := true) (by rfl) (by rfl) (fun _ _ _ h => h) hS0 ?_; (try simp only [Act.put, List.setIfInBounds_toArray, List.set_cons_zero, List.set_cons_succ]))
          (refine wpAnyH_takeU (i := 14) (dst := (some 31)) (op := (Go.Op.indexAddr 46 (Go.Operand.tmp 29) (Go.Operand.tmp 30))) (by rfl) (by kernel_rfl) (by kernel_rfl) (by kernel_rfl) (b' := true) (by rfl) (by rfl) (fun _ _ _ h => h) hS0 ?_; (try simp only [Act.put, List.setIfInBounds_toArray, List.set_cons_zero, List.set_cons_succ]))
          (refine wpAnyH_takeU (i := 15) (dst := (some 32)) (op := (Go.Op.fieldAddr 165 (Go.Operand.tmp 31) 1)) (by rfl) (by kernel_rfl) (by kernel_rfl) (by kernel_rfl) (b' := true) (by rfl) (by rfl) (fun _ _ _ h => h) hS0 ?_; (try simp only [Act.put, List.setIfInBounds_toArray, List.set_cons_zero, List.set_cons_succ]))
          (refine wpAnyH_takeU (i := 16) (dst := (some 33)) (op := (Go.Op.load 36 (Go.Operand.tmp 32))) (by rfl) (by kernel_rfl) (by kernel_rfl) (by kernel_rfl) (b' := true) (by rfl) (by rfl) (fun _ _ _ h => h) hS0 ?_; (try simp only [Act.put, List.setIfInBounds_toArray, List.set_cons_zero, List.set_cons_succ]))
          (refine wpAnyH_takeU (i := 17) (dst := (some 34)) (op := (Go.Op.move (Go.Operand.tmp 1))) (by rfl) (by kernel_rfl) (by kernel_rfl) (by kernel_rfl) (b' := true) (by rfl) (by rfl) (fun _ _ _ h => h) hS0 ?_; (try simp only [Act.put, List.setIfInBounds_toArray, List.set_cons_zero, List.set_cons_succ]))
          (refine wpAnyH_takeU (i := 18) (dst := (some 35)) (op := (Go.Op.move (Go.Operand.tmp 5))) (by rfl) (by kernel_rfl) (by kernel_rfl) (by kernel_rfl) (b' := true) (by rfl) (by rfl) (fun _ _ _ h => h) hS0 ?_; (try simp only [Act.put, List.setIfInBounds_toArray, List.set_cons_zero, List.set_cons_succ]))
          (refine wpAnyH_takeU (i := 19) (dst := (some 36)) (op := (Go.Op.indexAddr 46 (Go.Operand.tmp 34) (Go.Operand.tmp 35))) (by rfl) (by kernel_rfl) (by kernel_rfl) (by kernel_rfl) (b' := true) (by rfl) (by rfl) (fun _ _ _ h => h) hS0 ?_; (try simp only [Act.put, List.setIfInBounds_toArray, List.set_cons_zero, List.set_cons_succ]))
          (refine wpAnyH_takeU (i := 20) (dst := (some 37)) (op := (Go.Op.fieldAddr 165 (Go.Operand.tmp 36) 1)) (by rfl) (by kernel_rfl) (by kernel_rfl) (by kernel_rfl) (b' := true) (by rfl) (by rfl) (fun _ _ _ h => h) hS0 ?_; (try simp only [Act.put, List.setIfInBounds_toArray, List.set_cons_zero, List.set_cons_succ]))
          (refine wpAnyH_takeU (i := 21) (dst := (some 38)) (op := (Go.Op.load 36 (Go.Operand.tmp 37))) (by rfl) (by kernel_rfl) (by kernel_rfl) (by kernel_rfl) (b' := true) (by rfl) (by rfl) (fun _ _ _ h => h) hS0 ?_; (try simp only [Act.put, List.setIfInBounds_toArray, List.set_cons_zero, List.set_cons_succ]))
          (refine wpAnyH_takeU (i := 22) (dst := (some 39)) (op := (Go.Op.call { callee := (Go.Callee.value (Go.Operand.func 46)), args := #[(Go.Operand.tmp 33), (Go.Operand.tmp 38)], argTypes := #[36, 36] })) (by rfl) (by kernel_rfl) (by kernel_rfl) (by kernel_rfl) (b' := true) (by rfl) (by rfl) (fun _ _ _ h => h) hS0 ?_; (try simp only [Act.put, List.setIfInBounds_toArray, List.set_cons_zero, List.set_cons_succ]))
          (refine wpAnyH_takeU (i := 23) (dst := (some 40)) (op := (Go.Op.unOp Go.UnOp.not 4 (Go.Operand.tmp 39))) (by rfl) (by kernel_rfl) (by kernel_rfl) (by kernel_rfl) (b' := true) (by rfl) (by rfl) (fun _ _ _ h => h) hS0 ?_; (try simp only [Act.put, List.setIfInBounds_toArray, List.set_cons_zero, List.set_cons_succ]))
          (refine wpAnyH_takeO (i := 24) (dst := (some 41)) (op := (Go.Op.pick (Go.Operand.tmp 28) (Go.Operand.const (Go.Value.bool true)) (Go.Operand.tmp 40))) (v := ?_) (by rfl) (by kernel_rfl) (by kernel_rfl) (by kernel_rfl) (fun _ _ _ h => h) ?_ hS0 ?_; rotate_left; (focus (intro _ _ _ W HW; (try dsimp only at HW); go_simp; (try with_reducible rfl))); (try simp only [Act.put, List.setIfInBounds_toArray, List.set_cons_zero, List.set_cons_succ]))
          refine wpAnyH_done (by kernel_rfl) ?_ _
          go_wp2_with fail
          go_ret
          exact ⟨by rw [hab]; rfl, hUd⟩
      · have htt : decide ((i : Int) < (a.length : Int)) = false := by simp; omega
        have hie : i = a.length := by omega
        go_wp2_with fail
        go_ret
        rw [hie, List.take_length, hlen, List.take_length] at htk
        exact ⟨by rw [decide_eq_true htk]; rfl, hU⟩
  · have h1 : ((a.length : Int) != (b.length : Int)) = true := by simp; omega
    have h2 : decide (a = b) = false := by simp; intro h; exact hlen (by rw [h])
    go_enter Tryz.func80, Tryz.ntmps80
    go_wp2_with fail
    go_ret
    exact ⟨by rw [h2]; rfl, Upd.refl _ _⟩
end Go.Proofs.YthfbfdkjgkkpcaaGreat

namespace Go.Proofs.YthfbfdkjgkkpcaaGreat
open Go Go.RowKit

/-- Changes that aren't too many, or too long. -/
def smallB (l : List TChg) : Bool := decide (l.length ≤ 40) && l.all (fun c => decide (c.key.length ≤ 400) && decide (c.val.length ≤ 500))
def SmRel (w : World) (l : List TChg) (x : Value) (wr : World) : Prop := ∃ i : Nat, x = .int .i64 i ∧ i ≤ l.length ∧ Upd [] w wr ∧ (l.take i).all (fun c => decide (c.key.length ≤ 400) && decide (c.val.length ≤ 500)) = true
set_option maxRecDepth 100000 in
theorem law_small (w : World) (lv : Value) (l : List TChg) (hl : RChgs w lv l) : Calls Tryz.prog 20 #[lv] w fun e w' => e = .returned (.bool (smallB l)) ∧ Upd [] w w' := by
  obtain ⟨cells, hR, hC⟩ := hl
  obtain ⟨ao, cap, rfl, _⟩ := hR.shape
  by_cases h40 : l.length ≤ 40
  · have ht : decide ((40 : Int) < (l.length : Int)) = false := by simp; omega
    have H40 := Lib.hid h40
    clear h40
    go_enter Tryz.func20, Tryz.ntmps20
    go_wp2_with fail
    go_loopw [10] (fun x wr => SmRel w l x wr) (fun x _ => l.length - (intOf x).toNat)
    case atStart => exact ⟨0, rfl, Nat.zero_le _, Upd.refl _ _, by simp⟩
    case round =>
      obtain ⟨i, rfl, hi, hU, hall⟩ := hrel
      have hll := H40.out
      by_cases hlt : i < l.length
      · have htt : decide ((i : Int) < (l.length : Int)) = true := by simp; omega
        obtain ⟨c, hc⟩ : ∃ c, l[i]? = some c := ⟨_, List.getElem?_eq_getElem hlt⟩
        obtain ⟨pv, c0, c1, c2, hpv⟩ := hC.get hc
        have hRr := hR.upd0 hU
        obtain ⟨ap, cp, hsp, _⟩ := hpv.shape
        subst hsp
        have hUa : Upd [] wr (wr.alloc (Obj.cells #[encS c.key, .bool c.gone, Value.slice ap c.val.length cp] 72)) := Upd.alloc [] _ _
        have hba := heap_alloc_new wr (Obj.cells #[encS c.key, .bool c.gone, Value.slice ap c.val.length cp] 72)
        have b0 : (wr.alloc (Obj.cells #[encS c.key, .bool c.gone, Value.slice ap c.val.length cp] 72)).cell? ⟨wr.heap.size, 0, none⟩ = some (encS c.key) := by rw [cell_lit _ _ 0 _ _ _ hba]; rfl
        have b2 : (wr.alloc (Obj.cells #[encS c.key, .bool c.gone, Value.slice ap c.val.length cp] 72)).cell? ⟨wr.heap.size, 2, none⟩ = some (.slice ap c.val.length cp) := by rw [cell_lit _ _ 2 _ _ _ hba]; rfl
        have HTK := Lib.hid (show l.take (i + 1) = l.take i ++ [c] by rw [List.take_add_one, hc]; rfl)
        have hmem := List.mem_of_getElem? hc
        have hU2 := hU.trans0 hUa
        have HALL := Lib.hid hall
        clear hba hall hc hi hUa
        by_cases hk : c.key.length ≤ 400
        · have hk1 : decide ((400 : Int) < (c.key.length : Int)) = false := by simp; omega
          by_cases hv : c.val.length ≤ 500
          · have hv1 : decide ((500 : Int) < (c.val.length : Int)) = false := by simp; omega
            have HR := Lib.hid (show SmRel w l (.int .i64 ((i : Int) + 1)) (wr.alloc (Obj.cells #[encS c.key, .bool c.gone, Value.slice ap c.val.length cp] 72)) from ⟨i + 1, by simp, hlt, hU2, by rw [HTK.out, List.all_append, HALL.out]; simp [hk, hv]⟩)
            clear hk hv
            go_wp2_with ((with_reducible show wpList _ _ _ (⟨_, .indexAddr _ _ _, _, _, _, _⟩ :: _) _ _); refine wpl_indexAddrX elRChg rfl rfl hRr rfl rfl (by omega) (by omega) ?_; intro ad hcell hspot; (have k0 := hcell 0 (by omega)); (have k1 := hcell 1 (by omega)); (have k2 := hcell 2 (by omega)); rw [Int.toNat_natCast, c0] at k0; rw [Int.toNat_natCast, c1] at k1; rw [Int.toNat_natCast, c2] at k2; clear hcell; obtain ⟨gb, gof, gs⟩ := ad; cases hspot; simp only [Addr.add_lit, Nat.add_zero] at k0 k1 k2)
            exact ⟨HR.out, by simp [intOf]; omega⟩
          · have hv1 : decide ((500 : Int) < (c.val.length : Int)) = true := by simp; omega
            have HR := Lib.hid (show smallB l = false from by unfold smallB; rw [Bool.and_eq_false_iff]; right; rw [List.all_eq_false]; exact ⟨c, hmem, by simp [hv]⟩)
            clear hk hv
            go_wp2_with ((with_reducible show wpList _ _ _ (⟨_, .indexAddr _ _ _, _, _, _, _⟩ :: _) _ _); refine wpl_indexAddrX elRChg rfl rfl hRr rfl rfl (by omega) (by omega) ?_; intro ad hcell hspot; (have k0 := hcell 0 (by omega)); (have k1 := hcell 1 (by omega)); (have k2 := hcell 2 (by omega)); rw [Int.toNat_natCast, c0] at k0; rw [Int.toNat_natCast, c1] at k1; rw [Int.toNat_natCast, c2] at k2; clear hcell; obtain ⟨gb, gof, gs⟩ := ad; cases hspot; simp only [Addr.add_lit, Nat.add_zero] at k0 k1 k2)
            go_ret
            exact ⟨by rw [HR.out]; rfl, hU2⟩
        · have hk1 : decide ((400 : Int) < (c.key.length : Int)) = true := by simp; omega
          have HR := Lib.hid (show smallB l = false from by unfold smallB; rw [Bool.and_eq_false_iff]; right; rw [List.all_eq_false]; exact ⟨c, hmem, by simp [hk]⟩)
          clear hk
          go_wp2_with ((with_reducible show wpList _ _ _ (⟨_, .indexAddr _ _ _, _, _, _, _⟩ :: _) _ _); refine wpl_indexAddrX elRChg rfl rfl hRr rfl rfl (by omega) (by omega) ?_; intro ad hcell hspot; (have k0 := hcell 0 (by omega)); (have k1 := hcell 1 (by omega)); (have k2 := hcell 2 (by omega)); rw [Int.toNat_natCast, c0] at k0; rw [Int.toNat_natCast, c1] at k1; rw [Int.toNat_natCast, c2] at k2; clear hcell; obtain ⟨gb, gof, gs⟩ := ad; cases hspot; simp only [Addr.add_lit, Nat.add_zero] at k0 k1 k2)
          go_ret
          exact ⟨by rw [HR.out]; rfl, hU2⟩
      · have htt : decide ((i : Int) < (l.length : Int)) = false := by simp; omega
        have hie : i = l.length := by omega
        have HR := Lib.hid (show smallB l = true from by unfold smallB; rw [hie, List.take_length] at hall; rw [hall]; simpa using hll)
        clear hall
        go_wp2_with fail
        go_ret
        exact ⟨by rw [HR.out]; rfl, hU⟩
  · have ht : decide ((40 : Int) < (l.length : Int)) = true := by simp; omega
    have HR := Lib.hid (show smallB l = false from by unfold smallB; rw [Bool.and_eq_false_iff]; left; simpa using h40)
    clear h40
    go_enter Tryz.func20, Tryz.ntmps20
    go_wp2_with fail
    go_ret
    exact ⟨by rw [HR.out]; rfl, Upd.refl _ _⟩

/-- A table whose keys are in order, none empty, all within bounds. -/
structure TOk (T : TSt) : Prop where
  srt : Srt T.m
  keys : ∀ p ∈ T.m, p.1 ≠ [] ∧ p.1.length ≤ 1000000000 ∧ p.2.length ≤ 1000000000
  len : T.m.length ≤ 1000000000
def PairsRel (w : World) (m : List (List UInt8 × List UInt8)) (x v : Value) (wr : World) : Prop := ∃ i : Nat, x = .int .i64 i ∧ i ≤ m.length ∧ OwnPrs wr w.heap.size v (m.take i) ∧ Upd [] w wr
set_option maxRecDepth 100000 in
set_option maxHeartbeats 1000000 in
theorem law_Pairs (w : World) (d tb : Nat) (S : List Nat) (T : TSt) (h : TAt w d tb S T) (hok : TOk T) :
    Calls Tryz.prog 79 #[.pointer (some ⟨tb, 0, none⟩)] w fun e w' => ∃ v, e = .returned (.tuple #[v, .bool true]) ∧ Prs w' v T.m ∧ Upd [] w w' := by
  have hlen := table_len w d tb S T h
  have hkeys := table_keys w d tb S T h [] [] T.m.length (fun p hp => by have := (hok.keys p hp).2.1; unfold maxLen; omega) hok.len (by simp) (by have := hok.len; omega)
  rw [sortK_srt hok.srt, keysGo_all _ [] _ (by intro k hk; obtain ⟨p, hp, rfl⟩ := List.mem_map.1 hk; exact (hok.keys p hp).1) (by simp), List.nil_append] at hkeys
  have hml : (T.m.map (·.1)).length = T.m.length := by simp
  have HKI := Lib.hid (fun (i : Nat) (p : List UInt8 × List UInt8) (h : T.m[i]? = some p) => show (T.m.map (·.1))[i]? = some p.1 from by simp [h])
  generalize hks : T.m.map (·.1) = ks at *
  have HML := Lib.hid hml; have HOK := Lib.hid hok; have HT := Lib.hid h
  clear hml hks hok h
  go_enter Tryz.func79, Tryz.ntmps79
  go_wp2_with (first
    | (go_at_call 71; refine hlen.mono ?_; rintro e w1 ⟨rfl, rfl⟩)
    | (go_at_call 70; refine hkeys.mono ?_; rintro e w1 ⟨v1, rfl, hv1, hU1⟩; obtain ⟨ao1, cap1, hs1, _⟩ := (Rd.of_own hv1).shape; subst hs1; rw [HML.out] at hv1 ⊢))
  go_loopw [16, 4] (fun x v W => PairsRel w1 T.m x v W) (fun x _ _ => T.m.length - (intOf x).toNat)
  case atStart => exact ⟨0, rfl, Nat.zero_le _, OwnPrs.nil _ _, Upd.refl _ _⟩
  case round =>
    obtain ⟨i, rfl, hi, hown, hU⟩ := hrel
    have hok := HOK.out
    have hll := hok.len
    have hTr := (HT.out.upd0 hU1).upd0 hU
    by_cases hlt : i < T.m.length
    · have htt : decide ((i : Int) < (T.m.length : Int)) = true := by simp; omega
      obtain ⟨p, hp⟩ : ∃ p, T.m[i]? = some p := ⟨_, List.getElem?_eq_getElem hlt⟩
      have hki := HKI.out i p hp
      have hR : Rd wr 9 1 (.slice ao1 T.m.length cap1) T.m.length (ks.map encS) := (Rd.of_own hv1).upd0 hU
      have hku : (ks.map encS)[(i : Int).toNat]? = some (encS p.1) := by simp [hki]
      have hag : aget p.1 T.m = some p.2 := (aget_some hok.srt.nodup).2 (List.mem_of_getElem? hp)
      have hpl := (hok.keys p (List.mem_of_getElem? hp)).2.2
      have hget := table_get wr d tb S T hTr p.1 (by rw [hag]; show p.2.length ≤ _; omega)
      rw [hag] at hget
      have HTK := Lib.hid (show T.m.take (i + 1) = T.m.take i ++ [p] by rw [List.take_add_one, hp]; rfl)
      have hlk : (T.m.take i).length + 1 ≤ 1000000001 := by simp; omega
      have HLK := Lib.hid hlk
      clear hlk hag hpl hok hki hTr
      go_wp2_with (first
        | ((with_reducible show wpList _ _ _ (⟨_, .indexAddr _ _ _, _, _, _, _⟩ :: _) _ _); refine wpl_indexAddr1 elStr rfl rfl hR rfl rfl (by omega) (by omega) _ hku ?_; intro ad hcell)
        | (go_at_call 69; refine hget.mono ?_; rintro e w3 ⟨v3, rfl, hv3, hU3⟩; (have hb3 : By w3 v3 p.2 := hv3.by); obtain ⟨ao3, cap3, hs3⟩ := By.val hb3; subst hs3; (have hU03 := hU.trans0 hU3))
        | ((with_reducible show wpList _ _ _ (⟨_, .buildSlice _ _ _, _, _, _, _⟩ :: _) _ _); refine wpl_lit elPair rfl rfl rfl (cs := [encS p.1, .slice ao3 p.2.length cap3]) rfl rfl (by omega) ?_; intro v5 w5 hv5 hU5 _)
        | ((with_reducible show wpList _ _ _ (⟨_, .call ⟨.builtin .append, _, _⟩, _, _, _, _⟩ :: _) _ _); refine wpl_append_pr rfl rfl (hU03.trans0 hU5) ((hown.upd0 hU3).upd0 hU5) rfl (Rd.of_own hv5) rfl (hb3.upd0 hU5) HLK.out ?_; intro v6 w6 hv6 hU6))
      exact ⟨⟨i + 1, by simp, hlt, by rw [HTK.out]; exact hv6, hU6⟩, by simp [intOf]; omega⟩
    · have htt : decide ((i : Int) < (T.m.length : Int)) = false := by simp; omega
      have hie : i = T.m.length := by omega
      subst hie
      have hown' : OwnPrs wr w1.heap.size u4 T.m := by rw [List.take_length] at hown; exact hown
      have hlen2 := table_len wr d tb S T hTr
      have HP := Lib.hid (show Prs wr u4 T.m ∧ Upd [] w wr from ⟨hown'.prs, hU1.trans0 hU⟩)
      obtain ⟨ao4, cap4, hs4⟩ := hown'.prs.shape
      subst hs4
      clear hown hown' hok hTr hv1
      go_wp2_with (first
        | (go_at_call 71; refine hlen2.mono ?_; rintro e w3 ⟨rfl, rfl⟩))
      go_ret2
      exact ⟨_, by simp, HP.out.1, HP.out.2⟩
theorem law_Is (w : World) (d tb : Nat) (S : List Nat) (T : TSt) (h : TAt w d tb S T) (hok : TOk T) (lv : Value) (l : List (List UInt8 × List UInt8)) (hl : Prs w lv l) :
    Calls Tryz.prog 19 #[.pointer (some ⟨tb, 0, none⟩), lv] w fun e w' => e = .returned (.bool (decide (T.m = l))) ∧ Upd [] w w' := by
  have hp := law_Pairs w d tb S T h hok
  have hs := fun (w1 : World) (v1 : Value) (hU : Upd [] w w1) (h1 : Prs w1 v1 T.m) => ref_SameP w1 v1 lv T.m l h1 (hl.upd0 hU) hok.len (fun p hp => (hok.keys p hp).2.2)
  clear h hok
  go_enter Tryz.func19, Tryz.ntmps19
  go_wp2_with (first
    | (go_at_call 79; refine hp.mono ?_; rintro e w1 ⟨v1, rfl, hv1, hU1⟩)
    | (go_at_call 80; refine (hs w1 v1 hU1 hv1).mono ?_; rintro e w2 ⟨rfl, hU2⟩))
  go_ret
  exact ⟨rfl, hU1.trans0 hU2⟩
end Go.Proofs.YthfbfdkjgkkpcaaGreat

namespace Go.Proofs.YthfbfdkjgkkpcaaGreat
open Go Go.RowKit

/-- A slice of an argument's that reads as lists of bytes. -/
def RRecs (w : World) (v : Value) (l : List (List UInt8)) : Prop := ∃ cells, Rdx w 1 v l.length cells ∧ ∀ (i : Nat) (p : List UInt8), l[i]? = some p → ∃ pv, cells[i]? = some pv ∧ ByX w pv p
section
variable {P : Program} {ops : Array Oper} {Q : Exit → Act → World → Prop} {a : Act} {w : World} {rest : List Oper} {o : Oper}
/-- x[:m]. -/
theorem wpl_to_x {T e sz b : Nat} (hE : Elem P T e sz b) (hw : Region.wanted o (yielded ops a.tmps) = true) {x hi : Operand} (ho : o.op = .slice T x none (some hi) none) {ao : Option Addr} {n cap m : Nat} {k : IntKind} {i : Int} (hx : a.eval x = .slice ao n cap) (hhi : a.eval hi = .int k i) (h0 : i = (m : Int)) (hm : m ≤ cap)
    (hK : wpList P ops Q rest (a.put o.dst (.slice ao m cap)) w) : wpList P ops Q (o :: rest) a w := by
  subst h0
  have b1 := run_bound (P := P) (k := k) (m : Int) cap .sliceAcap w (by omega) (by omega)
  rw [Int.toNat_natCast] at b1
  have e : ao.map (fun x : Addr => x.add 0) = ao := by cases ao <;> simp [Addr.add]
  refine wpl_run hw (v := .slice ao m cap) (w' := w) ?_ hK
  simp [execOp, ho, hx, hhi, Instr.sliceAt, Instr.slice, run_underlying hE.und, Instr.sliceBounds, b1, sizeOf_run hE w, Result.andThen, e]
end
theorem Rdx.cut {w : World} {ao : Option Addr} {n cap : Nat} {xs : List Value} (h : Rdx w 1 (.slice ao n cap) n xs) {m : Nat} (hm : m ≤ n) : Rdx w 1 (.slice ao m cap) m (xs.take m) := by
  refine ⟨by rw [List.length_take, h.1]; omega, by have := h.2.1; omega, ?_⟩
  rcases h.2.2 with ⟨h1, h2⟩ | ⟨ad, c, h1, h2, h3⟩
  · injection h1 with q1 q2 q3
    subst q1
    subst q3
    obtain rfl : m = 0 := by omega
    exact .inl ⟨rfl, rfl⟩
  · injection h1 with q1 q2 q3
    subst q1
    subst q3
    refine .inr ⟨ad, cap, rfl, by omega, fun j u hj => h3 j u ?_⟩
    rw [List.getElem?_take] at hj
    split at hj
    · exact hj
    · cases hj
/-- The journal of the script: whole frames, room for more. -/
structure BSt (J : JSt) (rs : List (List UInt8)) (i : Nat) : Prop where
  name : J.name = [116]
  room : J.D.room = 65536
  down : J.D.down = false
  fuse : J.D.fuse = -1
  now : J.D.now = [([116], framesB rs)]
  len : (framesB rs).length ≤ 2008 * i
  loose : J.D.loose.length ≤ i
  size : J.size ≤ 2008 * i
  recs : (∀ p ∈ rs, p.length ≤ 2000) ∧ rs.length ≤ i
theorem BSt.mono {J : JSt} {rs : List (List UInt8)} {i : Nat} (h : BSt J rs i) : BSt J rs (i + 1) := ⟨h.name, h.room, h.down, h.fuse, h.now, by have := h.len; omega, by have := h.loose; omega, by have := h.size; omega, h.recs.1, by have := h.recs.2; omega⟩
theorem BSt.append {J : JSt} {rs : List (List UInt8)} {i : Nat} (h : BSt J rs i) (hi : i < 10) {p : List UInt8} (hp : p.length ≤ 2000) : (J.append p).2 = 0 ∧ BSt (J.append p).1 (rs ++ [p]) (i + 1) := by
  have hus : used J.D.now = (framesB rs).length := by rw [h.now]; simp [used]
  have hl := h.len
  have ha := append_fine J p h.down h.fuse (by rw [h.name, h.now]; simp [aget]) (by omega) (by rw [hus, h.room]; omega)
  rw [ha]
  have hf := framesB_snoc rs p
  have hfl := frameB_length p
  refine ⟨rfl, h.name, h.room, h.down, rfl, ?_, ?_, ?_, ?_, ?_, ?_⟩
  · show fdo J.D.now ⟨1, J.name, [], frameB p⟩ = _
    rw [h.name, h.now, hf]
    simp [fdo, fput, fdel, fins, aget]
  · rw [hf, List.length_append, hfl]; omega
  · show (J.D.loose ++ [_]).length ≤ _
    have := h.loose
    simp; omega
  · show J.size + (8 + p.length) ≤ _
    have := h.size
    omega
  · intro q hq
    rcases List.mem_append.1 hq with h1 | h1
    · exact h.recs.1 q h1
    · simp at h1; subst h1; exact hp
  · have := h.recs.2; simp; omega
theorem BSt.first : BSt ⟨D1 65536 [116], [116], 0⟩ [] 0 := ⟨rfl, rfl, rfl, rfl, rfl, by simp [framesB], by simp [D1], by simp, fun p hp => (by cases hp), by simp⟩
theorem recsB_ok : ∀ (rs : List (List UInt8)) (m m' : List (List UInt8 × List UInt8)), recsB m rs = some m' → Srt m → (∀ p ∈ m, p.1 ≠ [] ∧ p.1.length ≤ 320 ∧ p.2.length ≤ 262144) → Srt m' ∧ (∀ p ∈ m', p.1 ≠ [] ∧ p.1.length ≤ 320 ∧ p.2.length ≤ 262144) ∧ m'.length ≤ m.length + (framesB rs).length
  | [], m, m', h, hs, hk => by
    simp only [recsB, Option.some.injEq] at h
    subst h
    exact ⟨hs, hk, by omega⟩
  | b :: rs, m, m', h, hs, hk => by
    rw [recsB] at h
    cases hd : decB b with
    | none => rw [hd] at h; cases h
    | some l =>
      rw [hd] at h
      have hb := decB_bounds hd
      have hl := decB_len hd
      obtain ⟨h1, h2, h3⟩ := recsB_ok rs _ _ h (hs.tdo l) (tdo_keys (fun p => p.1 ≠ [] ∧ p.1.length ≤ 320 ∧ p.2.length ≤ 262144) hk hb.2)
      refine ⟨h1, h2, ?_⟩
      have h4 := tdo_length l m
      rw [show framesB (b :: rs) = frameB b ++ framesB rs from rfl, List.length_append, frameB_length]
      omega

def BkRel (w0 : World) (d m j k n : Nat) (x : Value) (wr : World) : Prop :=
  ∃ (i : Nat) (S R : List Nat) (J : JSt) (rs : List (List UInt8)), x = .int .i64 i ∧ i ≤ n ∧ JAt wr d j S J ∧ RJAt wr m k R J rs ∧ BSt J rs i ∧ Upd [] w0 wr ∧ NewIn w0 S ∧ NewIn w0 R
/-- Two objects of unlike kinds: what a step of the one leaves of the other. -/
theorem RJAt.beside {w w' : World} {d j d' j' : Nat} {S R : List Nat} {J J' : JSt} {recs : List (List UInt8)} (h : RJAt w d j R J recs) (h' : JAt w d' j' S J') (hU : Upd S w w') : RJAt w' d j R J recs :=
  h.upd hU h'.off8 (h'.sorts.off (by decide)) (fun k hk hs => h'.sorts.apart h.sorts (by decide) k hs hk)
theorem JAt.beside {w w' : World} {d j d' j' : Nat} {S R : List Nat} {J J' : JSt} {recs : List (List UInt8)} (h : JAt w d j S J) (h' : RJAt w d' j' R J' recs) (hU : Upd R w w') : JAt w' d j S J :=
  h.upd hU (h'.sorts.off (by decide)) (fun k hk hs => h.sorts.apart h'.sorts (by decide) k hk hs)
set_option maxRecDepth 100000 in
set_option maxHeartbeats 8000000 in
theorem law11_tableBroken (w : World) (lv : Value) (l : List (List UInt8)) (hl : RRecs w lv l) :
    Calls Tryz.prog 3 #[lv] w fun e w' => e = .returned (.bool true) ∧ Upd [] w w' := by
  have hi1 : isName [116] = true := by decide
  have hi2 : isName ([116] ++ [43]) = true := by decide
  have hon := openNew_D0 65536 [116] hi1
  obtain ⟨cells, hR, hC⟩ := hl
  obtain ⟨ao, cap, rfl, hcap⟩ := hR.shape
  have HR := Lib.hid hR; have HC := Lib.hid hC
  obtain ⟨n, hn⟩ : ∃ n, n = min l.length 10 := ⟨_, rfl⟩
  have hnl : n ≤ l.length := by omega
  have hn10 : n ≤ 10 := by omega
  have HMIN := Lib.hid (show ((n : Int)) = min (l.length : Int) 10 by omega)
  have HCUT := Lib.hid (hR.cut hnl)
  have HON := Lib.hid hon
  clear hR hC hn hon
  go_enter Tryz.func3, Tryz.ntmps3
  go_wp2_with fail
  refine (disk_new w 65536 (by omega)).mono ?_
  rintro e w2 ⟨d, S2, rfl, hD2, hU2, hS2⟩
  go_wp2_with fail
  refine (rd_new w2 65536 (by omega)).mono ?_
  rintro e w3 ⟨m, R3, rfl, hM3, hU3, hS3⟩
  have hD3 := hD2.upd0 hU3
  have hU03 := hU2.trans0 hU3
  have HJN := Lib.hid (journal_open_new w3 d S2 _ hD3 [116] hi1 hi2 (by decide) (by simp) (by simp))
  clear hD2
  go_wp2_with fail
  refine HJN.out.mono ?_
  intro e w4 hp4
  unfold OpenNewPost at hp4
  rw [show (({ room := 65536, now := [], sure := [], loose := [], fuse := -1, down := false } : DSt).openNew [116]) = (D1 65536 [116], 0) from HON.out, if_pos rfl] at hp4
  obtain ⟨j, S4, rfl, hjs, hJ4, hU4, hs4⟩ := hp4
  have hM4 : RDiskAt w4 m R3 _ := hM3.upd hU4 hD3.off8 (hD3.sorts.off (by decide)) (fun k hk hs => hD3.sorts.apart hM3.sorts (by decide) k hs hk)
  have hU04 : Upd [] w w4 := hU03.new hS2 hU4
  have hN4 : NewIn w (j :: S4) := fun k hk => by
    simp only [List.mem_cons] at hk
    rcases hk with rfl | hk
    · have := hU03.size; omega
    · exact (hS2.sub hs4 hU03.size) k hk
  have hNR : NewIn w R3 := fun k hk => by have := hS3 k hk; have := hU2.size; omega
  have HRO := Lib.hid (rj_open_new w4 m R3 _ hM4 [116] hi1 hi2 (by decide) ⟨by simp, by simp⟩)
  clear HJN hD3 hM3 hU2 hU3 hU03 hS2 hS3 hs4 hU4
  go_wp2_with fail
  refine HRO.out.mono ?_
  intro e w5 hp5
  unfold ROpenPost at hp5
  rw [show (({ room := 65536, now := [], sure := [], loose := [], fuse := -1, down := false } : DSt).openNew [116]) = (D1 65536 [116], 0) from HON.out, if_pos rfl] at hp5
  obtain ⟨k, R5, rfl, hks, hK5, hU5, hs5⟩ := hp5
  have hJ5 : JAt w5 d j (j :: S4) _ := hJ4.upd hU5 hM4.off8 (fun q hq hr => hJ4.sorts.apart hM4.sorts (by decide) q hq hr)
  have hU05 : Upd [] w w5 := hU04.new hNR hU5
  have hN5 : NewIn w R5 := hNR.sub hs5 hU04.size
  clear HRO hM4 hJ4 hU04 hNR hs5 hU5
  go_wp2_with fail
  refine (law11_awake w5).mono ?_
  rintro e w6 ⟨rfl, hU6⟩
  have HST := Lib.hid (show BkRel w d m j k n (.int .i64 0) w6 from ⟨0, _, _, _, _, rfl, Nat.zero_le _, hJ5.upd0 hU6, hK5.upd0 hU6, BSt.first, hU05.trans0 hU6, hN4, hN5⟩)
  clear hJ5 hK5 hU05 hN4 hN5 hU6
  have hncap : n ≤ cap := by omega
  go_wp2_with (first
    | ((with_reducible show wpList _ _ _ (⟨_, .call ⟨.builtin .min, _, _⟩, _, _, _, _⟩ :: _) _ _); refine wpl_min rfl rfl rfl rfl (n : Int) HMIN.out ?_)
    | ((with_reducible show wpList _ _ _ (⟨_, .slice _ _ _ _ _, _, _, _, _⟩ :: _) _ _); refine wpl_to_x elRec rfl rfl rfl rfl rfl hncap ?_))
  go_loopw [49] (fun x wr => BkRel w d m j k n x wr) (fun x _ => n - (intOf x).toNat)
  case atStart => exact HST.out
  case round =>
    obtain ⟨i, S, R, J, rs, rfl, hi, hJ, hK, hB, hU, hNS, hNR⟩ := hrel
    by_cases hlt : i < n
    · have htt : decide ((i : Int) < (n : Int)) = true := by simp; omega
      obtain ⟨p, hp⟩ : ∃ p, l[i]? = some p := ⟨_, List.getElem?_eq_getElem (by omega)⟩
      obtain ⟨pv, hcv, hpv⟩ := HC.out i p hp
      have hRr : Rdx wr 1 (.slice ao n cap) n (cells.take n) := HCUT.out.upd0 hU
      have hcv' : (cells.take n)[i]? = some pv := by rw [List.getElem?_take, if_pos hlt]; exact hcv
      obtain ⟨po, pc, hps, _⟩ := hpv.shape
      subst hps
      have hpr := hpv.upd0 hU
      by_cases h2 : p.length ≤ 2000
      · have t2 : decide ((p.length : Int) ≤ 2000) = true := by simp; omega
        have hap := hB.append (by omega) h2
        have HJA := Lib.hid (journal_append wr d j S J hJ _ p hpr (by omega) (by have := hB.loose; omega) (by have := hB.size; omega))
        rw [show J.append p = ((J.append p).1, 0) from Prod.ext rfl hap.1] at HJA
        have HBN := Lib.hid hap
        have HB := Lib.hid hB
        clear hap hp hcv
        go_wp2_with ((with_reducible show wpList _ _ _ (⟨_, .indexAddr _ _ _, _, _, _, _⟩ :: _) _ _); refine wpl_indexAddr1X elRec rfl rfl hRr rfl rfl (by omega) (by omega) _ (by rw [Int.toNat_natCast]; exact hcv') ?_; intro ad hcell)
        refine HJA.out.mono ?_
        rintro e w7 ⟨rfl, S7, hJ7, hU7, hs7⟩
        dsimp only at hJ7
        have hK7 := hK.beside hJ hU7
        have hU07 : Upd [] w w7 := hU.new hNS hU7
        have hN7 := hNS.sub hs7 hU.size
        have HRA := Lib.hid (rj_append w7 m k R J rs hK7 _ p (fun W' hW' => hpv.upd0 (hU07.new hNR hW')) (by omega) ⟨⟨by have := HB.out.loose; omega, by rw [HB.out.now]; simp⟩, by rw [HB.out.name]; simp⟩ (by have := HB.out.recs.2; omega))
        unfold RJPost pushIf at HRA
        rw [HBN.out.1] at HRA
        clear HJA hJ hK hU7 hs7 hB
        go_wp2_with fail
        refine HRA.out.mono ?_
        rintro e w8 ⟨rfl, R8, hK8, hU8, hs8⟩
        simp only [if_true] at hK8
        have hJ8 := hJ7.beside hK7 hU8
        have HN := Lib.hid (show BkRel w d m j k n (.int .i64 ((i : Int) + 1)) w8 from ⟨i + 1, S7, R8, _, _, by simp, hlt, hJ8, hK8, HBN.out.2, hU07.new hNR hU8, hN7, hNR.sub hs8 hU07.size⟩)
        clear HRA hJ7 hK7 hU8 hs8 hJ8 hK8 hU07 hN7 hU
        go_wp2_with fail
        exact ⟨HN.out, by simp [intOf]; omega⟩
      · have t2 : decide ((p.length : Int) ≤ 2000) = false := by simp; omega
        have HN := Lib.hid (show BkRel w d m j k n (.int .i64 ((i : Int) + 1)) wr from ⟨i + 1, S, R, J, rs, by simp, hlt, hJ, hK, hB.mono, hU, hNS, hNR⟩)
        clear hp hcv hB
        go_wp2_with ((with_reducible show wpList _ _ _ (⟨_, .indexAddr _ _ _, _, _, _, _⟩ :: _) _ _); refine wpl_indexAddr1X elRec rfl rfl hRr rfl rfl (by omega) (by omega) _ (by rw [Int.toNat_natCast]; exact hcv') ?_; intro ad hcell)
        exact ⟨HN.out, by simp [intOf]; omega⟩
    · have htt : decide ((i : Int) < (n : Int)) = false := by simp; omega
      obtain ⟨S0, hSS, hD, hj⟩ := hJ.ex
      obtain ⟨R0, hM, hRR⟩ := hK.disk
      have hsc := scan_frames rs (fun p hp => by have := hB.recs.1 p hp; omega)
      have hgt : (aget [116] J.D.now).getD [] = framesB rs := by rw [hB.now]; simp [aget]
      have hth : J.D.there [116] = 0 := by unfold DSt.there; rw [if_neg (by simp [hB.down]), hB.now]; simp [aget]
      have hoo : J.D.openOld [116] = (J.D, 0) := by
        unfold DSt.openOld
        rw [hgt, hsc, if_neg (by rw [hth]; simp), if_neg (by simp)]
      have hsm : J.D.loose.length ≤ 10 ∧ J.D.now.length ≤ 1 := ⟨by have := hB.loose; omega, by rw [hB.now]; simp⟩
      have hfl := hB.len
      have HTO := Lib.hid (table_open_old wr d S0 J.D hD [116] hi1 hi2 (by rw [hth]; simp) ⟨by omega, by omega⟩)
      have HRO := Lib.hid (fun (W : World) (h : RDiskAt W m R0 J.D) => rt_open W m R0 (J.D.openOld [116]) [116] _ _ (by rw [hgt, hsc]; show (framesB rs).length ≤ _; omega) (rj_open_old W m R0 J.D h [116] hi1 hi2 (by rw [hth]; simp) ⟨by omega, by omega⟩))
      rw [hgt] at HTO HRO
      rw [hsc, hoo] at HRO
      have HOO := Lib.hid hoo; have HSC := Lib.hid hsc
      have hsub0 : ∀ q ∈ S0, q ∈ S := fun q hq => by rw [hSS]; simp [hq]
      have hN0 : NewIn w S0 := fun q hq => hNS q (hsub0 q hq)
      have hNR0 : NewIn w R0 := fun q hq => hNR q (hRR q hq)
      have hOK := fun (mm : List (List UInt8 × List UInt8)) (h : recsB [] rs = some mm) => recsB_ok rs [] mm h Srt.nil (fun p hp => by cases hp)
      have HOK := Lib.hid hOK
      clear hSS hj hJ hK hsc hgt hth hoo hsm hOK hNS hNR hRR hsub0
      go_wp2_with fail
      refine HTO.out.mono ?_
      intro e w7 hp7
      unfold TopenOldPost at hp7
      rw [HOO.out, HSC.out] at hp7
      dsimp only at hp7
      rw [if_pos rfl] at hp7
      cases hrb : recsB [] rs with
      | none =>
        rw [hrb] at hp7
        obtain ⟨rfl, S7, hD7, hU7, hs7⟩ := hp7
        have hM7 : RDiskAt w7 m R0 _ := hM.upd hU7 hD.off8 (hD.sorts.off (by decide)) (fun q hq hs => hD.sorts.apart hM.sorts (by decide) q hs hq)
        have hU07 : Upd [] w w7 := hU.new hN0 hU7
        have HR2 := Lib.hid (HRO.out w7 hM7)
        have HRB := Lib.hid hrb
        clear HTO HRO hD hM hU7 hs7 hU hD7 hrb
        go_wp2_with fail
        refine HR2.out.mono ?_
        intro e w8 hp8
        unfold RTPost at hp8
        rw [HRB.out] at hp8
        dsimp only at hp8
        rw [if_pos rfl] at hp8
        obtain ⟨rfl, R8, hM8, hU8, _⟩ := hp8
        have hU08 := hU07.new hNR0 hU8
        clear HR2 hM8 hU8
        go_wp2_with fail
        go_ret
        exact ⟨rfl, hU08⟩
      | some mm =>
        rw [hrb] at hp7
        obtain ⟨tb, S7, rfl, htbs, hT7, hU7, hs7⟩ := hp7
        have hM7 : RDiskAt w7 m R0 _ := hM.upd hU7 hD.off8 (hD.sorts.off (by decide)) (fun q hq hs => hD.sorts.apart hM.sorts (by decide) q hs hq)
        have hU07 : Upd [] w w7 := hU.new hN0 hU7
        have HR2 := Lib.hid (HRO.out w7 hM7)
        have HRB := Lib.hid hrb
        obtain ⟨ok1, ok2, ok3⟩ := HOK.out mm hrb
        have HTOK := Lib.hid (show ∀ J : JSt, TOk ⟨J, mm, false⟩ from fun J => ⟨ok1, fun p hp => by have := ok2 p hp; exact ⟨this.1, by omega, by omega⟩, by show mm.length ≤ _; simp at ok3; omega⟩)
        clear HTO HRO hD hM hU7 hs7 hU hrb ok1 ok2 ok3
        go_wp2_with fail
        refine HR2.out.mono ?_
        intro e w8 hp8
        unfold RTPost at hp8
        rw [HRB.out] at hp8
        dsimp only at hp8
        rw [if_pos rfl] at hp8
        obtain ⟨tr, R8, rfl, htrs, hRT, hU8, _⟩ := hp8
        have hT8 : TAt w8 d tb S7 _ := hT7.upd hU8 hM7.off8 (fun q hq hr => hT7.sorts.apart hM7.sorts (by decide) q hq hr)
        have hU08 := hU07.new hNR0 hU8
        obtain ⟨jb, lv8, R9, _, _, htr, hP8⟩ := hRT.ex
        obtain ⟨ao8, cap8, hs8⟩ := hP8.shape
        subst hs8
        have ct1 : w8.cell? ⟨tr, 1, none⟩ = some (.slice ao8 mm.length cap8) := by rw [cell_lit w8 _ 1 _ _ _ htr]; rfl
        have his := law_Is w8 d tb S7 _ hT8 (HTOK.out _) _ _ hP8
        rw [decide_eq_true (show (_ : List (List UInt8 × List UInt8)) = mm from rfl)] at his
        have HIS := Lib.hid his
        clear HR2 hT7 hM7 hU8 hT8 htr hP8 hRT his
        go_wp2_with fail
        refine HIS.out.mono ?_
        rintro e w9 ⟨rfl, hU9⟩
        go_wp2_with fail
        go_ret
        exact ⟨rfl, hU08.trans0 hU9⟩
end Go.Proofs.YthfbfdkjgkkpcaaGreat

namespace Go.Proofs.YthfbfdkjgkkpcaaGreat
open Go Go.ChangeShapes Go.WideShapes Go.ChangeAt Go.RowKit Go.ChangeMaps

theorem len_three {α : Type} : ∀ {l : List α}, l.length = 3 → ∃ a b c, l = [a, b, c]
  | [a, b, c], _ => ⟨a, b, c, rfl⟩
theorem len_two {α : Type} : ∀ {l : List α}, l.length = 2 → ∃ a b, l = [a, b]
  | [a, b], _ => ⟨a, b, rfl⟩
theorem addr_add_add (a : Addr) (m j : Nat) : (a.add m).add j = a.add (m + j) := by
  obtain ⟨b, o, s⟩ := a
  simp only [Addr.add]
  by_cases hm : m = 0
  · subst hm; simp
  · by_cases hj : j = 0
    · subst hj; simp
    · rw [if_neg hm, if_neg hj, if_neg (by omega)]
      simp only [Addr.mk.injEq, and_true, true_and]
      omega
section
variable {H : Type} {en : TypeId × Value → H} {w : World} {base : Nat} {sp : Nat → Bool} {held : Bool}
theorem open_bytesX {fuel : Nat} {cs : List Value} {x : DataW H × List MemPlace} (h : DataW.trod en Tryz.prog w base sp held fuel 36 cs = some x) : ∃ v l, cs = [v] ∧ ByX w v l := by
  rcases open_ints Tryz.underlying36 Tryz.underlying5 (by kernel_rfl) h with ⟨rfl, _⟩ | ⟨a, len, cap, zs, rfl, _, hlc, hcm, hzl, _, hcell, hwf⟩
  · exact ⟨_, [], rfl, by simp, Nat.zero_le _, .inl ⟨rfl, rfl⟩⟩
  · have hl : len ≤ zs.length := by rw [hzl]; split <;> omega
    have hn : ((zs.take len).map (fun n => UInt8.ofNat n.toNat)).length = len := by simp; omega
    refine ⟨_, (zs.take len).map (fun n => UInt8.ofNat n.toNat), rfl, by simp, by rw [hn]; omega, .inr ⟨a, cap, by rw [hn], by rw [hn]; exact hlc, fun j u hj => ?_⟩⟩
    have hjl : j < len := by
      have := (List.getElem?_eq_some_iff.1 hj).1
      rw [List.length_map, hn] at this
      exact this
    have hz : zs[j]? = some (zs[j]'(by omega)) := List.getElem?_eq_getElem (by omega)
    rw [List.map_map, List.getElem?_map, List.getElem?_take, if_pos hjl, hz] at hj
    simp only [Option.map_some, Option.some.injEq, Function.comp] at hj
    rw [hcell j (by omega), List.getD, hz, ← hj]
    have hb := hwf (zs[j]'(by omega)) (List.getElem_mem _)
    generalize zs[j]'(by omega) = z at hb ⊢
    simp [Lit.wf, IntKind.min, IntKind.max, IntKind.signed, IntKind.bits] at hb
    simp only [Option.getD_some, enc]
    congr 2
    rw [UInt8.toNat_ofNat']
    omega
theorem XCells.append {w : World} {ds : List Value} {m : List TChg} (hd : XCells w ds m) : ∀ {cs : List Value} {l : List TChg}, XCells w cs l → XCells w (cs ++ ds) (l ++ m)
  | [], [], _ => hd
  | _ :: _ :: _ :: _, _ :: _, h => ⟨h.1, h.2.1, h.2.2.1, XCells.append hd h.2.2.2⟩
theorem open_chg {fuel : Nat} {cs : List Value} {x : DataW H × List MemPlace} (h : DataW.trod en Tryz.prog w base sp held fuel 72 cs = some x) : ∃ (pv : Value) (c : TChg), cs = [encS c.key, .bool c.gone, pv] ∧ ByX w pv c.val := by
  obtain ⟨xs, n, rfl, _, hl, hx, hf⟩ := DataW.trod_struct Tryz.underlying72 h
  have hl3 : cs.length = 3 := by rw [hl]; kernel_rfl
  obtain ⟨c0, c1, c2, rfl⟩ := len_three hl3
  obtain ⟨y0, y1, y2, rfl⟩ := len_three (show xs.length = 3 from hx)
  have z9 : Tryz.prog.cellsOf 9 = 1 := by kernel_rfl
  have z4 : Tryz.prog.cellsOf 4 = 1 := by kernel_rfl
  have z41 : Tryz.prog.cellsOf 36 = 1 := by kernel_rfl
  have f0 : DataW.trod en Tryz.prog w base sp held n 9 (([c0, c1, c2].drop 0).take (Tryz.prog.cellsOf 9)) = some y0 := hf 0 _ rfl
  have f1 : DataW.trod en Tryz.prog w base sp held n 4 (([c0, c1, c2].drop 1).take (Tryz.prog.cellsOf 4)) = some y1 := hf 1 _ rfl
  have f2 : DataW.trod en Tryz.prog w base sp held n 36 (([c0, c1, c2].drop 2).take (Tryz.prog.cellsOf 36)) = some y2 := hf 2 _ rfl
  rw [z9] at f0
  rw [z4] at f1
  rw [z41] at f2
  obtain ⟨s, e0, _, _⟩ := DataW.trod_string Tryz.underlying9 f0
  obtain ⟨b, e1, _⟩ := DataW.trod_bool Tryz.underlying4 f1
  obtain ⟨pv, v, e2, hv⟩ := open_bytesX f2
  have q0 : c0 = .string s := by injection e0
  have q1 : c1 = .bool b := by injection e1
  have q2 : c2 = pv := by injection e2
  subst q0
  subst q1
  subst q2
  exact ⟨c2, ⟨s.data.toList, b, v⟩, by simp [encS], hv⟩
theorem build_chgs {a : Addr} : ∀ (k : Nat), (∀ i, i < k → ∃ (pv : Value) (c : TChg), (∀ j u, [encS c.key, .bool c.gone, pv][j]? = some u → w.cell? (a.add (i * 3 + j)) = some u) ∧ ByX w pv c.val) →
    ∃ (cells : List Value) (l : List TChg), cells.length = k * 3 ∧ l.length = k ∧ XCells w cells l ∧ ∀ j u, cells[j]? = some u → w.cell? (a.add j) = some u
  | 0, _ => ⟨[], [], rfl, rfl, trivial, fun j u h => by simp at h⟩
  | k + 1, h => by
    obtain ⟨cells, l, h1, h2, h3, h4⟩ := build_chgs k (fun i hi => h i (by omega))
    obtain ⟨pv, c, h5, h6⟩ := h k (by omega)
    have hd : XCells w [encS c.key, .bool c.gone, pv] [c] := ⟨rfl, rfl, h6, trivial⟩
    refine ⟨cells ++ [encS c.key, .bool c.gone, pv], l ++ [c], by simp [h1]; omega, by simp [h2], hd.append h3, ?_⟩
    intro j u hj
    by_cases hlt : j < cells.length
    · rw [List.getElem?_append_left hlt] at hj
      exact h4 j u hj
    · rw [List.getElem?_append_right (by omega), h1] at hj
      have := h5 (j - k * 3) u hj
      rwa [show k * 3 + (j - k * 3) = j from by omega] at this
theorem open_chgs {fuel : Nat} {cs : List Value} {x : DataW H × List MemPlace} (h : DataW.trod en Tryz.prog w base sp held fuel 52 cs = some x) : ∃ v l, cs = [v] ∧ RChgs w v l := by
  rcases DataW.trod_slice Tryz.underlying52 h with ⟨rfl, _⟩ | ⟨a, len, cap, elems, rest, n, _, rfl, _, _, hlc, hcm, hel, hall, _, _⟩
  · exact ⟨_, [], rfl, [], ⟨rfl, Nat.zero_le _, .inl ⟨rfl, rfl⟩⟩, trivial⟩
  · have z : Tryz.prog.cellsOf 72 = 3 := by kernel_rfl
    rw [z] at hall
    obtain ⟨cells, l, h1, h2, h3, h4⟩ := build_chgs (w := w) (a := a) len (fun i hi => by
      have hi1 := hall i hi
      rw [List.getElem?_eq_getElem (by omega), Option.bind_eq_some_iff] at hi1
      obtain ⟨cs', hc1, hc2⟩ := hi1
      obtain ⟨pv, c, rfl, hv⟩ := open_chg hc2
      refine ⟨pv, c, fun j u hj => ?_, hv⟩
      have hj3 : j < 3 := (List.getElem?_eq_some_iff.1 hj).1
      have h5 := (World.cells?_some hc1).2.2 j hj3
      rw [hj] at h5
      rw [← h5, addr_add_add])
    exact ⟨_, l, rfl, cells, ⟨by rw [h1, h2], by omega, .inr ⟨a, cap, by rw [h2], by omega, h4⟩⟩, h3⟩
end
end Go.Proofs.YthfbfdkjgkkpcaaGreat

namespace Go.Proofs.YthfbfdkjgkkpcaaGreat
open Go Go.ChangeShapes Go.WideShapes Go.ChangeAt Go.RowKit Go.ChangeMaps

section
variable {H : Type} {en : TypeId × Value → H} {w : World} {base : Nat} {sp : Nat → Bool} {held : Bool}
theorem build_recs {a : Addr} : ∀ (k : Nat), (∀ i, i < k → ∃ (pv : Value) (p : List UInt8), w.cell? (a.add (i * 1)) = some pv ∧ ByX w pv p) →
    ∃ (cells : List Value) (l : List (List UInt8)), cells.length = k ∧ l.length = k ∧ (∀ (i : Nat) (p : List UInt8), l[i]? = some p → ∃ pv, cells[i]? = some pv ∧ ByX w pv p) ∧ ∀ j u, cells[j]? = some u → w.cell? (a.add j) = some u
  | 0, _ => ⟨[], [], rfl, rfl, fun i p h => by simp at h, fun j u h => by simp at h⟩
  | k + 1, h => by
    obtain ⟨cells, l, h1, h2, h3, h4⟩ := build_recs k (fun i hi => h i (by omega))
    obtain ⟨pv, p, h5, h6⟩ := h k (by omega)
    refine ⟨cells ++ [pv], l ++ [p], by simp [h1], by simp [h2], ?_, ?_⟩
    · intro i q hq
      rcases Nat.lt_or_ge i k with hlt | hge
      · rw [List.getElem?_append_left (by omega)] at hq ⊢
        exact h3 i q hq
      · rw [List.getElem?_append_right (by omega), h2] at hq
        have : i = k := by
          have := (List.getElem?_eq_some_iff.1 hq).1
          simp at this; omega
        subst this
        simp at hq
        subst hq
        exact ⟨pv, by rw [List.getElem?_append_right (by omega), h1]; simp, h6⟩
    · intro j u hj
      rcases Nat.lt_or_ge j k with hlt | hge
      · rw [List.getElem?_append_left (by omega)] at hj
        exact h4 j u hj
      · rw [List.getElem?_append_right (by omega), h1] at hj
        have : j = k := by
          have := (List.getElem?_eq_some_iff.1 hj).1
          simp at this; omega
        subst this
        simp at hj
        subst hj
        rw [Nat.mul_one] at h5
        exact h5
theorem open_recs {fuel : Nat} {cs : List Value} {x : DataW H × List MemPlace} (h : DataW.trod en Tryz.prog w base sp held fuel 22 cs = some x) : ∃ v l, cs = [v] ∧ RRecs w v l := by
  rcases DataW.trod_slice Tryz.underlying22 h with ⟨rfl, _⟩ | ⟨a, len, cap, elems, rest, n, _, rfl, _, _, hlc, hcm, hel, hall, _, _⟩
  · exact ⟨_, [], rfl, [], ⟨rfl, Nat.zero_le _, .inl ⟨rfl, rfl⟩⟩, fun i p h => by simp at h⟩
  · have z : Tryz.prog.cellsOf 36 = 1 := by kernel_rfl
    rw [z] at hall
    obtain ⟨cells, l, h1, h2, h3, h4⟩ := build_recs (w := w) (a := a) len (fun i hi => by
      have hi1 := hall i hi
      rw [List.getElem?_eq_getElem (by omega), Option.bind_eq_some_iff] at hi1
      obtain ⟨cs', hc1, hc2⟩ := hi1
      obtain ⟨pv, p, rfl, hv⟩ := open_bytesX hc2
      refine ⟨pv, p, ?_, hv⟩
      have h5 := (World.cells?_some hc1).2.2 0 (by omega)
      rw [addr_add_add, Nat.add_zero] at h5
      simpa using h5)
    exact ⟨_, l, rfl, cells, ⟨by rw [h1, h2, Nat.mul_one], by omega, .inr ⟨a, cap, by rw [h2], by omega, h4⟩⟩, h3⟩
end
end Go.Proofs.YthfbfdkjgkkpcaaGreat

namespace Go.Proofs.YthfbfdkjgkkpcaaGreat
open Go Go.ChangeShapes Go.WideShapes Go.ChangeAt Go.RowKit Go.ChangeMaps

theorem own_knob : ownKnob Tryz.prog.godebug = none := by kernel_rfl
theorem laid_out : laidOutB Tryz.prog = true := by kernel_rfl
theorem kept_of_upd {w w' : World} (h : Upd [] w w') (may : MemPlace → Prop) : w.keptBut w' may := by
  refine ⟨h.os, h.output, fun i hi => ?_⟩
  rw [h.keep i hi (by simp)]
  exact (World.keptBut_refl w may).2.2 i hi
theorem okWide_array {P : Program} {w : World} {r : Reach} {b0 : Nat} {t e : TypeId} {n : Nat} {v : Value} (ht : P.underlying t = some (.array n e)) (h : Value.okWide P w r b0 t v) : ∃ cs, v = .agg cs := by
  unfold Value.okWide at h
  rw [ht] at h
  obtain ⟨cs, rfl, _⟩ := h
  exact ⟨cs, rfl⟩
/-- What a call that turned nothing old leaves, as the row asks. -/
theorem post_of_upd {H : Type} {enc : TypeId × Value → H} {P : Program} {f : Func} {s : ChangeSpec} {apart fresh handsOn : Bool} {W W' : World} {args : Array Value} {v : Value} {ds gs : List (DataW H)} {before pa pv : List MemPlace}
    (hW : DataW.Whole enc P f.params.toList s.vars apart W args.toList ds gs before)
    (hres : ∀ (b : Nat) (sp : Nat → Bool) (hd : Bool), DataW.TrodAll enc P W' b sp hd f.resultTypes.toList (v.resultList f.resultTypes.size) (s.fn H (ds ++ gs)).results [])
    (hargs : DataW.TrodAll enc P W' 0 (fun b => decide (b < W.heap.size)) true f.params.toList args.toList (s.fn H (ds ++ gs)).args pa)
    (hvars : ∀ sp : Nat → Bool, (∀ p ∈ before, sp p.block = true) → DataW.TrodVars enc P W' sp s.vars (s.fn H (ds ++ gs)).vars pv)
    (hU : Upd [] W W') : s.post enc P f apart fresh handsOn false W args v W' := by
  have hold : ∀ p ∈ before, (fun b => decide (b < W.heap.size)) p.block = true := fun p hp => by simpa using hW.lt p hp
  exact ⟨ds, gs, before, [], pa, pv, hW, hres _ _ _, hargs, hvars _ hold, kept_of_upd hU _, fun h => by cases h⟩

end Go.Proofs.YthfbfdkjgkkpcaaGreat
