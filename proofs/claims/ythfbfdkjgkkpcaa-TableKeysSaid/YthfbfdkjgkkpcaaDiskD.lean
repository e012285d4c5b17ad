/-
  The disk's calls that turn it: Create, Append, Sync; a new disk.
-/
import Derived.Test.YthfbfdkjgkkpcaaDiskC
import Derived.Test.YthfbfdkjgkkpcaaOctet
import Derived.Lib.SliceRun
namespace Go.Proofs.Ythfbfdkjgkkpcaa
open Go Go.RowKit

set_option maxRecDepth 100000 in
theorem slices_clone (w : World) (v : Value) (l : List UInt8) (h : By w v l) (hl : l.length ≤ 1073741824) :
    Calls Try.prog 37 #[v] w (RetBy w l) := by
  have h' := h
  have q : ∀ (w : World) (a : Option Addr) (n c n' c' : Nat), (binOp .eql 41 (.slice a n c) (.slice none n' c')).run Try.prog w = .ok (.bool a.isNone) w := fun w a n c n' c' => Lib.run_eql_slice_nil w _ _ a n c n' c' (by kernel_rfl : Try.prog.underlying 41 = some (.slice 5))
  have HL := Lib.hid hl; clear hl
  obtain ⟨hlen, hmx, ⟨rfl, h0⟩ | ⟨b, off, cap, cur, fz, rfl, h1, h2, h3, h4, h5⟩⟩ := h'
  · have : l = [] := List.eq_nil_of_length_eq_zero h0
    subst this
    go_enter Try.func37, Try.ntmps37
    go_wp2_with fail
    go_ret
    exact ⟨_, rfl, World.ownsRow_nil _ _ _ _, Upd.refl _ _⟩
  · clear hlen hmx h1 h2 h3 h4 h5
    go_enter Try.func37, Try.ntmps37
    go_wp2_with (first
      | ((with_reducible show wpList _ _ _ (⟨_, .buildSlice _ _ _, _, _, _, _⟩ :: _) _ _); refine wpl_lit0 elU8 rfl rfl ?_; intro v1 w1 hv1 hU1 hb1)
      | ((with_reducible show wpList _ _ _ (⟨_, .call ⟨.builtin .append, _, _⟩, _, _, _, _⟩ :: _) _ _); refine wpl_append_by elU8 rfl rfl hU1 (l := []) hv1 rfl (h.upd0 hU1) rfl (by simpa using HL.out) ?_; intro v2 w2 hv2 _ hU2 hb2))
    go_ret
    exact ⟨_, rfl, hv2, hU2⟩

theorem DSt.create_full (D : DSt) (name : List UInt8) (h1 : D.down = false) (h2 : isName name = true) (h3 : (aget name D.now).isSome = false) (h4 : ¬ 4096 ≤ D.now.length) : D.create name = D.does ⟨0, name, [], []⟩ := by
  simp only [DSt.create, h1, h2, h3, h4]
  simp
set_option maxRecDepth 100000 in
theorem disk_create (w : World) (d : Nat) (S : List Nat) (D : DSt) (h : DiskAt w d S D) (name : List UInt8) (hn : name.length ≤ 9223372036854775807) (hl : D.loose.length ≤ 1000000000) (hnow : D.now.length ≤ 9223372036854775807) :
    Calls Try.prog 53 #[.pointer (some ⟨d, 0, none⟩), encS name] w (DPost w d S (D.create name)) := by
  have hx := h.ex
  obtain ⟨nb, sb, lv, cells, hS, hd, hnb, _⟩ := hx
  have c1 : w.cell? ⟨d, 1, none⟩ = some (.map (some nb)) := by rw [cell_lit w d 1 _ _ _ hd]; rfl
  obtain ⟨es, hW, hlen, hsome, _⟩ := hnb.find
  have hup := disk_up w d S D h
  have hnm := disk_isName w name hn
  have hs := hsome name
  have hpost : ∀ k, D.create name = (D, k) → DPost w d S (D.create name) (.returned (.int .i64 (k : Nat))) w := by
    intro k hk
    rw [hk]
    exact ⟨rfl, S, h, Upd.refl _ _, Sub.refl _ _⟩
  have hgo : D.create name = D.does ⟨0, name, [], []⟩ → Calls Try.prog 67 #[.pointer (some ⟨d, 0, none⟩), chgV ⟨0, name, [], []⟩ (.slice none 0 0)] w (DPost w d S (D.create name)) := by
    intro hc
    rw [hc]
    exact disk_does w d S D h ⟨0, name, [], []⟩ _ (by simp) (Rd.nil _ _ _) (by simp) (by simp) hl
  have HP := Lib.hid hpost; have HG := Lib.hid hgo; have HN := Lib.hid hnow
  clear hd hnb hpost hgo hS hl hn hnow
  by_cases hdn : D.down = true
  · have HP' := Lib.hid (HP.out 5 (by simp [DSt.create, hdn]))
    simp only [hdn, if_true] at hup
    clear hs hnm
    go_enter Try.func53, Try.ntmps53
    go_wp2_with (go_at_call 45; refine hup.mono ?_; rintro e w1 ⟨rfl, rfl⟩)
    go_ret
    exact HP'.out
  have hdn' : D.down = false := by simpa using hdn
  simp only [hdn', Bool.false_eq_true, if_false] at hup
  cases hnq : isName name with
  | false =>
    rw [hnq] at hnm
    have HP' := Lib.hid (HP.out 1 (by simp [DSt.create, hdn', hnq]))
    generalize hb : (aget name D.now).isSome = b at *
    go_enter Try.func53, Try.ntmps53
    go_wp2_with (first
      | (go_at_call 45; refine hup.mono ?_; rintro e w1 ⟨rfl, rfl⟩)
      | (go_at_call 48; refine hnm.mono ?_; rintro e w1 ⟨rfl, rfl⟩)
      | ((with_reducible show wpList _ _ _ (⟨_, .lookup _ _ _ _, _, _, _, _⟩ :: _) _ _); refine wpl_lookup_ok mapFiles rfl rfl hW rfl name rfl _ rfl b hs ?_))
    go_ret
    exact HP'.out
  | true =>
    rw [hnq] at hnm
    cases hb : (aget name D.now).isSome with
    | true =>
      rw [hb] at hs
      have HP' := Lib.hid (HP.out 7 (by simp [DSt.create, hdn', hnq, hb]))
      go_enter Try.func53, Try.ntmps53
      go_wp2_with (first
        | (go_at_call 45; refine hup.mono ?_; rintro e w1 ⟨rfl, rfl⟩)
        | (go_at_call 48; refine hnm.mono ?_; rintro e w1 ⟨rfl, rfl⟩)
        | ((with_reducible show wpList _ _ _ (⟨_, .lookup _ _ _ _, _, _, _, _⟩ :: _) _ _); refine wpl_lookup_ok mapFiles rfl rfl hW rfl name rfl _ rfl true hs ?_))
      go_ret
      exact HP'.out
    | false =>
      rw [hb] at hs
      by_cases hf : 4096 ≤ D.now.length
      · have HP' := Lib.hid (HP.out 4 (by simp [DSt.create, hdn', hnq, hb, hf]))
        have h4 : decide ((4096 : Int) ≤ (es.length : Int)) = true := by have := HN.out; simp; omega
        clear hf hlen
        go_enter Try.func53, Try.ntmps53
        go_wp2_with (first
          | (go_at_call 45; refine hup.mono ?_; rintro e w1 ⟨rfl, rfl⟩)
          | (go_at_call 48; refine hnm.mono ?_; rintro e w1 ⟨rfl, rfl⟩)
          | ((with_reducible show wpList _ _ _ (⟨_, .lookup _ _ _ _, _, _, _, _⟩ :: _) _ _); refine wpl_lookup_ok mapFiles rfl rfl hW rfl name rfl _ rfl false hs ?_)
          | ((with_reducible show wpList _ _ _ (⟨_, .call ⟨.builtin .len, _, _⟩, _, _, _, _⟩ :: _) _ _); refine wpl_len mapFiles rfl rfl hW rfl ?_))
        go_ret
        exact HP'.out
      · have HG' := Lib.hid (HG.out (DSt.create_full D name hdn' hnq hb hf))
        have h4 : decide ((4096 : Int) ≤ (es.length : Int)) = false := by have := HN.out; simp; omega
        clear hf hlen
        go_enter Try.func53, Try.ntmps53
        go_wp2_with (first
          | (go_at_call 45; refine hup.mono ?_; rintro e w1 ⟨rfl, rfl⟩)
          | (go_at_call 48; refine hnm.mono ?_; rintro e w1 ⟨rfl, rfl⟩)
          | (go_at_call 67; refine HG'.out.mono ?_; rintro e w1 ⟨rfl, hpo⟩)
          | ((with_reducible show wpList _ _ _ (⟨_, .lookup _ _ _ _, _, _, _, _⟩ :: _) _ _); refine wpl_lookup_ok mapFiles rfl rfl hW rfl name rfl _ rfl false hs ?_)
          | ((with_reducible show wpList _ _ _ (⟨_, .call ⟨.builtin .len, _, _⟩, _, _, _, _⟩ :: _) _ _); refine wpl_len mapFiles rfl rfl hW rfl ?_))
        go_ret
        exact ⟨rfl, hpo⟩

theorem DSt.append_full (D : DSt) (name p : List UInt8) (h1 : D.down = false) (h2 : (aget name D.now).isNone = false) (h3 : ¬ 1048576 < p.length) (h4 : ¬ D.room < used D.now + p.length) : D.append name p = D.does ⟨1, name, [], p⟩ := by
  simp only [DSt.append, h1, h2, if_neg h3, if_neg h4]
  simp
set_option maxRecDepth 100000 in
set_option maxHeartbeats 400000 in
theorem disk_append (w : World) (d : Nat) (S : List Nat) (D : DSt) (h : DiskAt w d S D) (name p : List UInt8) (pv : Value) (hp : By w pv p) (hpl : p.length ≤ 1073741824) (hl : D.loose.length ≤ 1000000000) :
    Calls Try.prog 60 #[.pointer (some ⟨d, 0, none⟩), encS name, pv] w (DPost w d S (D.append name p)) := by
  have hx := h.ex
  have hroom := h.inv.room
  have husd := h.inv.usedNow
  obtain ⟨nb, sb, lv, cells, hS, hd, hnb, _⟩ := hx
  have c0 : w.cell? ⟨d, 0, none⟩ = some (.int .i64 D.room) := by rw [cell_lit w d 0 _ _ _ hd]; rfl
  have ht := disk_there w d S D h name
  obtain ⟨ao, cap, hsh⟩ := hp.val
  have hpost : ∀ k, D.append name p = (D, k) → ∀ w', Upd [] w w' → DPost w d S (D.append name p) (.returned (.int .i64 (k : Nat))) w' := by
    intro k hk w' hU
    rw [hk]
    exact ⟨rfl, S, h.upd0 hU, hU.mono (by simp), Sub.refl _ _⟩
  have H := Lib.hid h
  have HP := Lib.hid hpost; have HPL := Lib.hid hpl; have HL := Lib.hid hl; have HBY := Lib.hid hp; have HR := Lib.hid hroom; have HU := Lib.hid husd
  clear hd hnb hpost hS hpl hl hp h hroom husd
  by_cases h0 : D.there name ≠ 0
  · have HP' := Lib.hid (HP.out (D.there name) (by
      unfold DSt.there at h0 ⊢
      unfold DSt.append
      split
      · rfl
      split
      · rfl
      · rename_i h1 h2
        simp [h1, h2] at h0) w (Upd.refl _ _))
    have h1 : ((D.there name : Int) == 0) = false := by simp; omega
    have h2 : ((D.there name : Int) = 0) = False := by simp; omega
    generalize D.there name = t at *
    clear h0
    go_enter Try.func60, Try.ntmps60
    go_wp2_with (go_at_call 66; refine ht.mono ?_; rintro e w1 ⟨rfl, rfl⟩)
    go_ret
    exact HP'.out
  have h0 : D.there name = 0 := Classical.not_not.1 h0
  rw [h0] at ht
  have h1 : D.down = false := by
    unfold DSt.there at h0
    split at h0
    · cases h0
    · rename_i h1; simpa using h1
  have h2 : (aget name D.now).isNone = false := by
    unfold DSt.there at h0
    rw [h1] at h0
    cases hc : (aget name D.now).isNone with
    | false => rfl
    | true => rw [hc] at h0; cases h0
  have Hpr := Lib.hid h1; have Hpn := Lib.hid h2
  clear h1 h2 h0
  by_cases h3 : 1048576 < p.length
  · have h4 : decide ((1048576 : Int) < (p.length : Int)) = true := by simp; omega
    have HP' := Lib.hid (HP.out 8 (by simp only [DSt.append, Hpr.out, Hpn.out, if_pos h3]; simp) w (Upd.refl _ _))
    clear h3
    subst hsh
    go_enter Try.func60, Try.ntmps60
    go_wp2_with (go_at_call 66; refine ht.mono ?_; rintro e w1 ⟨rfl, rfl⟩)
    go_ret
    exact HP'.out
  have h4 : decide ((1048576 : Int) < (p.length : Int)) = false := by simp; omega
  have H3 := Lib.hid h3
  clear h3
  have hused := disk_used w.drew d S D (H.out.upd0 (Upd.drew _ _))
  have hsub : IntKind.i64.wrap ((D.room : Int) - (used D.now : Int)) = (D.room : Int) - (used D.now : Int) := by
    have := HR.out; have := HU.out
    simp [IntKind.wrap, show IntKind.i64.bits = 64 from rfl, show IntKind.i64.signed = true from rfl]
    omega
  by_cases h5 : D.room < used D.now + p.length
  · have h6 : decide ((D.room : Int) - (used D.now : Int) < (p.length : Int)) = true := by simp; omega
    have HP' := Lib.hid (HP.out 4 (by simp only [DSt.append, Hpr.out, Hpn.out, if_neg H3.out, if_pos h5]; simp))
    clear h5
    subst hsh
    go_enter Try.func60, Try.ntmps60
    go_wp2_with (go_at_call 66; refine ht.mono ?_; rintro e w1 ⟨rfl, rfl⟩)
    go_region_held3 (fun W => W.cell? ⟨d, 0, none⟩ = some (.int .i64 D.room)) (first | go_keep | exact hU2.cell c0 (by simp))
      ((go_at_call 78; refine hused.mono ?_; rintro e w2 ⟨rfl, hU2⟩))
    go_wp2_with fail
    go_ret
    exact HP'.out w2 ((Upd.drew [] w).trans0 hU2)
  · have h6 : decide ((D.room : Int) - (used D.now : Int) < (p.length : Int)) = false := by simp; omega
    have HF := Lib.hid (DSt.append_full D name p Hpr.out Hpn.out H3.out h5)
    have hg : ∀ (w3 : World) (v3 : Value), DiskAt w3 d S D → By w3 v3 p → Calls Try.prog 67 #[.pointer (some ⟨d, 0, none⟩), .agg #[.int .i64 1, encS name, .string ⟨#[]⟩, v3]] w3 (DPost w3 d S (D.append name p)) := by
      intro w3 v3 hD hv
      rw [HF.out]
      exact disk_does w3 d S D hD ⟨1, name, [], p⟩ v3 (by simp) hv (Nat.le_of_not_lt H3.out) (fun _ => Nat.le_of_not_lt h5) HL.out
    have HG := Lib.hid hg
    clear hg
    clear h5
    subst hsh
    go_enter Try.func60, Try.ntmps60
    go_wp2_with (go_at_call 66; refine ht.mono ?_; rintro e w1 ⟨rfl, rfl⟩)
    go_region_held3 (fun W => W.cell? ⟨d, 0, none⟩ = some (.int .i64 D.room)) (first | go_keep | exact hU2.cell c0 (by simp))
      ((go_at_call 78; refine hused.mono ?_; rintro e w2 ⟨rfl, hU2⟩))
    have hU2' : Upd [] w w2 := (Upd.drew [] w).trans0 hU2
    go_wp2_with (first
      | (go_at_call 37; refine (slices_clone w2 _ p (HBY.out.upd0 hU2') HPL.out).mono ?_; rintro e w3 ⟨v3, rfl, hv3, hU3⟩; have hU4 := hU2'.trans0 hU3; have hby3 := hv3.by; obtain ⟨ao3, cap3, rfl⟩ := hby3.val)
      | (go_at_call 67; refine (HG.out w3 _ (H.out.upd0 hU4) hby3).mono ?_; rintro e w5 ⟨rfl, S', hD', hU5, hS'⟩))
    go_ret
    refine ⟨rfl, S', hD', ?_, ?_⟩
    · exact (hU4.mono (T := S) (by simp)).trans hU5 (fun i hi _ => hi)
    · intro k hk
      rcases hS' k hk with h | h
      · exact .inl h
      · exact .inr (Nat.le_trans hU4.size h)
end Go.Proofs.Ythfbfdkjgkkpcaa
