/-
  The disk's calls: whether a text is a name, whether a file is there, Create, Size, Used.
-/
import Derived.Test.YthfbfdkjgkkpcaaDiskA
import Derived.LoopTactic
import Derived.Laws.IdiomRangeMap
namespace Go.Proofs.Ythfbfdkjgkkpcaa
open Go Go.RowKit

theorem disk_isName (w : World) (s : List UInt8) (hs : s.length ≤ 9223372036854775807) :
    Calls Try.prog 48 #[encS s] w fun e w' => e = .returned (.bool (isName s)) ∧ w = w' := by
  by_cases h0 : s = []
  · subst h0
    go_enter Try.func48, Try.ntmps48
    go_wp2
    go_ret
    exact ⟨rfl, rfl⟩
  · have h1 : s.isEmpty = false := by simpa using h0
    have h2 : isName s = decide ((s.length : Int) ≤ 160) := by
      rw [Bool.eq_iff_iff]; simp [isName, h0]; omega
    rw [h2]
    clear h2
    generalize hq : decide ((s.length : Int) ≤ 160) = q
    go_enter Try.func48, Try.ntmps48
    go_wp2
    go_ret
    refine ⟨?_, rfl⟩
    simp [h1]

/-- What `there` says. -/
def DSt.there (D : DSt) (name : List UInt8) : Nat := if D.down then 5 else if (aget name D.now).isNone then 6 else 0

/-- The state's files, seen in memory: the map's block and its pairs. -/
theorem MapB.find {w : World} {mb : Nat} {m : List (List UInt8 × List UInt8)} (h : MapB w mb m) : ∃ es, MapW w mb es ∧ es.length = m.length ∧ (∀ k, (aget k es).isSome = (aget k m).isSome) ∧ ∀ k, By w ((aget k es).getD (.slice none 0 0)) ((aget k m).getD []) := by
  obtain ⟨es, m', h1, h2, h3⟩ := h
  have hn : (m.map (·.1)).Nodup := MapB.nodup ⟨es, m', h1, h2, h3⟩
  refine ⟨es, h1, ?_, fun k => ?_, fun k => ?_⟩
  · have := congrArg List.length h2.keys
    simp at this
    rw [this, h3.length_eq]
  · have hag : aget k m' = aget k m := aget_perm h3 ((h3.map _).nodup_iff.2 hn)
    rcases h2.get k with ⟨h4, h5⟩ | ⟨v, l, h4, h5, h6⟩
    · rw [h4, ← hag, h5]; rfl
    · rw [h4, ← hag, h5]; rfl
  · have hag : aget k m' = aget k m := aget_perm h3 ((h3.map _).nodup_iff.2 hn)
    rw [← hag]
    exact h2.getD k

theorem disk_there (w : World) (d : Nat) (S : List Nat) (D : DSt) (h : DiskAt w d S D) (name : List UInt8) :
    Calls Try.prog 66 #[.pointer (some ⟨d, 0, none⟩), encS name] w fun e w' => e = .returned (.int .i64 (D.there name)) ∧ w = w' := by
  obtain ⟨nb, sb, lv, cells, rfl, hd, hnb, _⟩ := h.ex
  have c1 : w.cell? ⟨d, 1, none⟩ = some (.map (some nb)) := by rw [cell_lit w d 1 _ _ _ hd]; rfl
  obtain ⟨es, hW, _, hsome, _⟩ := hnb.find
  have hup := disk_up w d _ D h
  clear hd hnb
  unfold DSt.there
  by_cases hdn : D.down = true
  · simp only [hdn, if_true] at hup ⊢
    go_enter Try.func66, Try.ntmps66
    go_wp2_with (go_at_call 45; refine hup.mono ?_; rintro e w1 ⟨rfl, rfl⟩)
    go_ret
    exact ⟨rfl, rfl⟩
  · have hdn' : D.down = false := by simpa using hdn
    simp only [hdn', Bool.false_eq_true, if_false] at hup ⊢
    have hs := hsome name
    cases hc : aget name D.now with
    | none =>
      rw [hc] at hs
      go_enter Try.func66, Try.ntmps66
      go_wp2_with (first
        | (go_at_call 45; refine hup.mono ?_; rintro e w1 ⟨rfl, rfl⟩)
        | ((with_reducible show wpList _ _ _ (⟨_, .lookup _ _ _ _, _, _, _, _⟩ :: _) _ _); refine wpl_lookup_ok mapFiles rfl rfl hW rfl name rfl _ rfl false hs ?_))
      go_ret
      exact ⟨rfl, rfl⟩
    | some l =>
      rw [hc] at hs
      go_enter Try.func66, Try.ntmps66
      go_wp2_with (first
        | (go_at_call 45; refine hup.mono ?_; rintro e w1 ⟨rfl, rfl⟩)
        | ((with_reducible show wpList _ _ _ (⟨_, .lookup _ _ _ _, _, _, _, _⟩ :: _) _ _); refine wpl_lookup_ok mapFiles rfl rfl hW rfl name rfl _ rfl true hs ?_))
      go_ret
      exact ⟨rfl, rfl⟩
theorem disk_there_nil (w : World) (name : List UInt8) :
    Calls Try.prog 66 #[.pointer none, encS name] w fun e w' => e = .returned (.int .i64 2) ∧ w = w' := by
  have hup := disk_up_nil w
  go_enter Try.func66, Try.ntmps66
  go_wp2_with (go_at_call 45; refine hup.mono ?_; rintro e w1 ⟨rfl, rfl⟩)
  go_ret
  exact ⟨rfl, rfl⟩

/-- Size. -/
def DSt.size (D : DSt) (name : List UInt8) : Nat × Nat := if D.there name = 0 then (((aget name D.now).getD []).length, 0) else (0, D.there name)
theorem disk_size (w : World) (d : Nat) (S : List Nat) (D : DSt) (h : DiskAt w d S D) (name : List UInt8) :
    Calls Try.prog 50 #[.pointer (some ⟨d, 0, none⟩), encS name] w fun e w' => e = .returned (.tuple #[.int .i64 (D.size name).1, .int .i64 (D.size name).2]) ∧ w = w' := by
  have ht := disk_there w d S D h name
  obtain ⟨nb, sb, lv, cells, rfl, hd, hnb, _⟩ := h.ex
  have c1 : w.cell? ⟨d, 1, none⟩ = some (.map (some nb)) := by rw [cell_lit w d 1 _ _ _ hd]; rfl
  obtain ⟨es, hW, _, _, hby⟩ := hnb.find
  obtain ⟨ao, cap, hv⟩ := (hby name).val
  clear hd hnb hby
  unfold DSt.size
  generalize D.there name = t at ht
  by_cases h0 : t = 0
  · subst h0
    simp only [if_true]
    go_enter Try.func50, Try.ntmps50
    go_wp2_with (first
      | (go_at_call 66; refine ht.mono ?_; rintro e w1 ⟨rfl, rfl⟩)
      | ((with_reducible show wpList _ _ _ (⟨_, .lookup _ _ _ _, _, _, _, _⟩ :: _) _ _); refine wpl_lookup mapFiles rfl rfl hW rfl name rfl _ hv ?_))
    go_ret2
    exact ⟨rfl, rfl⟩
  · simp only [if_neg h0]
    have h1 : ((t : Int) == 0) = false := by simp; omega
    have h2 : ((t : Int) = 0) = False := by simp; omega
    go_enter Try.func50, Try.ntmps50
    go_wp2_with (first
      | (go_at_call 66; refine ht.mono ?_; rintro e w1 ⟨rfl, rfl⟩))
    go_ret2
    exact ⟨rfl, rfl⟩

/-- All bytes of a map's entries. -/
def lenSum : List MapEntry → Array Nat → Nat
  | [], _ => 0
  | x :: l, seen => (if seen.contains x.born then (match x.val with | .slice _ n _ => n | _ => 0) else 0) + lenSum l seen
theorem lenSum_other (seen : Array Nat) (b : Nat) : ∀ (es : List MapEntry), b ∉ es.map (·.born) → lenSum es (seen.push b) = lenSum es seen
  | [], _ => rfl
  | x :: l, h => by
    have hx : (x.born == b) = false := by
      cases hc : x.born == b with
      | false => rfl
      | true => exact absurd (List.mem_cons.2 (Or.inl (beq_iff_eq.1 hc).symm)) h
    have ih := lenSum_other seen b l (fun e => h (List.mem_cons.2 (Or.inr e)))
    simp only [lenSum, contains_push, hx, Bool.or_false, ih]
theorem lenSum_push (seen : Array Nat) (e : MapEntry) (hs : seen.contains e.born = false) {ao : Option Addr} {n cap : Nat} (hv : e.val = .slice ao n cap) : ∀ (es : List MapEntry), (es.map (·.born)).Nodup → e ∈ es → lenSum es (seen.push e.born) = lenSum es seen + n
  | x :: l, hn, he => by
    have hn' : x.born ∉ l.map (·.born) ∧ (l.map (·.born)).Nodup := List.nodup_cons.1 hn
    rcases List.mem_cons.1 he with rfl | h
    · simp only [lenSum, contains_push, hs, beq_self_eq_true, Bool.or_true, if_true, Bool.false_eq_true, if_false, lenSum_other seen e.born l hn'.1, hv]
      omega
    · have hx : (x.born == e.born) = false := by
        cases hc : x.born == e.born with
        | false => rfl
        | true => exact absurd (by rw [beq_iff_eq.1 hc]; exact List.mem_map.2 ⟨e, h, rfl⟩) hn'.1
      simp only [lenSum, contains_push, hx, Bool.or_false, lenSum_push seen e hs hv l hn'.2 h]
      omega
theorem lenSum_none : ∀ (es : List MapEntry), lenSum es #[] = 0
  | [] => rfl
  | x :: l => by
    have : (#[] : Array Nat).contains x.born = false := by simp
    simp only [lenSum, this, Bool.false_eq_true, if_false, lenSum_none l]
theorem lenSum_le (seen : Array Nat) : ∀ (es : List MapEntry) (m : List (List UInt8 × List UInt8)) (ps : List (List UInt8 × Value)) (w : World), Ents es ps → Vals w ps m → lenSum es seen ≤ used m ∧ ((∀ x ∈ es, seen.contains x.born = true) → lenSum es seen = used m) ∧ ∀ x ∈ es, ∃ ao n cap, x.val = .slice ao n cap
  | [], m, ps, w, h, hv => by
    cases ps with
    | cons p ps => cases h
    | nil =>
      cases m with
      | cons q m => cases hv
      | nil => exact ⟨Nat.le_refl _, fun _ => rfl, by simp⟩
  | x :: l, m, ps, w, h, hv => by
    cases ps with
    | nil => cases h
    | cons p ps =>
      cases m with
      | nil => cases hv
      | cons q m =>
        simp only [Ents, List.map_cons, List.cons.injEq, Prod.mk.injEq] at h
        obtain ⟨h1, h2⟩ := h
        cases hv with | cons h34 h5 =>
        obtain ⟨h3, h4⟩ := h34
        obtain ⟨i1, i2, i3⟩ := lenSum_le seen l m ps w h2 h5
        obtain ⟨ao, cap, hsl⟩ := h4.val
        have hxv : x.val = .slice ao q.2.length cap := by rw [h1.2, hsl]
        refine ⟨?_, fun hall => ?_, fun y hy => ?_⟩
        · simp only [lenSum, used, hxv]; split <;> omega
        · have := i2 (fun y hy => hall y (List.mem_cons_of_mem _ hy))
          simp only [lenSum, used, hxv, hall x (by simp), if_true, this]
        · rcases List.mem_cons.1 hy with rfl | hy
          · exact ⟨_, _, _, hxv⟩
          · exact i3 y hy
theorem left_none {es : Array MapEntry} {seen : Array Nat} (h0 : (leftOf es seen).size = 0) : ∀ x ∈ es.toList, seen.contains x.born = true := by
  intro x hx
  cases hc : seen.contains x.born with
  | true => rfl
  | false =>
    have hm : x ∈ leftOf es seen := Array.mem_filter.2 ⟨by simpa using hx, by rw [hc]; rfl⟩
    have := Array.eq_empty_of_size_eq_zero h0
    rw [this] at hm
    simp at hm

def UsedRel (w : World) (nb clock : Nat) (es : Array MapEntry) (s : Value) (w' : World) : Prop :=
  ∃ (w1 : World) (seen : Array Nat), w1.Alike w ∧ w1.tape = w.tape ∧ w' = w1.alloc (.mapIter (some nb) clock seen clock) ∧ s = .int .i64 (lenSum es.toList seen)
/-- A step that leaves the tape. -/
def KeepsT {α : Type} (P : Program) (s : Sem α) : Prop := ∀ w v w', s.run P w = .ok v w' → w'.tape = w.tape
theorem keepsT_pure {α : Type} {P : Program} (a : α) : KeepsT P (pure a : Sem α) := fun w v w' h => by
  cases h; rfl
theorem keepsT_bind {α β : Type} {P : Program} {s : Sem α} {k : α → Sem β} (h1 : KeepsT P s) (h2 : ∀ a, KeepsT P (k a)) : KeepsT P (s >>= k) := fun w v w' h => by
  rw [Sem.run_bind] at h
  cases hs : s.run P w with
  | ok a w1 =>
    rw [hs] at h
    exact (h2 a w1 v w' h).trans (h1 w a w1 hs)
  | halt e w1 =>
    rw [hs] at h
    cases h
theorem keepsT_getObj {P : Program} (r : Nat) : KeepsT P (getObj r) := fun w v w' h => by
  simp only [getObj, Sem.run] at h
  split at h
  · cases h
  · cases h; rfl
  · cases h
theorem keepsT_setObj {P : Program} (r : Nat) (o : Obj) : KeepsT P (setObj r o) := fun w v w' h => by
  simp only [setObj, Sem.run] at h
  split at h
  · cases h
  · cases h; rfl
  · cases h
theorem keepsT_choose {P : Program} (q : Question) : KeepsT P (choose q) := fun w v w' h => by
  simp only [choose, Sem.run] at h
  split at h
  · cases h; rfl
  · cases h; rfl
theorem keepsT_halt {α : Type} {P : Program} (e : Halt) : KeepsT P (Sem.halt e : Sem α) := fun w v w' h => by cases h
theorem next_tape {P : Program} {it : Value} {ty : TypeId} : KeepsT P (Instr.next it false ty) := by
  unfold Instr.next
  repeat' first | exact keepsT_pure _ | exact keepsT_getObj _ | exact keepsT_setObj _ _ | exact keepsT_choose _ | exact keepsT_halt _ | (refine keepsT_bind ?_ (fun _ => ?_)) | split
theorem upd_alike {w w1 : World} (h : w1.Alike w) (ht : w1.tape = w.tape) : Upd [] w w1 := by
  obtain ⟨h1, h2, h3⟩ := h
  exact ⟨h2, ht, h3, by rw [h1]; exact Nat.le_refl _, fun k _ _ => by rw [h1]⟩

set_option maxRecDepth 100000 in
theorem disk_used (w : World) (d : Nat) (S : List Nat) (D : DSt) (h : DiskAt w d S D) :
    Calls Try.prog 78 #[.pointer (some ⟨d, 0, none⟩)] w fun e w' => e = .returned (.int .i64 (used D.now)) ∧ Upd [] w w' := by
  have hroom : used D.now ≤ 67108864 := Nat.le_trans h.inv.usedNow h.inv.room
  obtain ⟨nb, sb, lv, cells, rfl, hd, hnb, _⟩ := h.ex
  have c1 : w.cell? ⟨d, 1, none⟩ = some (.map (some nb)) := by rw [cell_lit w d 1 _ _ _ hd]; rfl
  obtain ⟨ps, m', hW, hV, hp⟩ := hnb
  obtain ⟨es, clock, hb, hE, hbn, hbl⟩ := hW.ex
  have hu : used m' = used D.now := used_perm hp
  have hsl := fun seen => lenSum_le seen es.toList m' ps w hE hV
  rw [hu] at hsl
  have hold : ∀ x ∈ es.toList, x.born < clock := fun x hx => hbl _ (List.mem_map_of_mem hx)
  have hrg := run_range_map (P := Try.prog) w 69 9 41 nb es clock (by kernel_rfl) hb
  clear hd hE hV hp hW
  go_enter Try.func78, Try.ntmps78
  go_wp2_with fail
  go_loopw [3] (fun s w' => UsedRel w nb clock es s w') (fun _ w' => (leftOf es (w'.iterSeen w.heap.size)).size)
  case atStart => exact ⟨w, #[], ⟨rfl, rfl, rfl⟩, rfl, rfl, by rw [lenSum_none]; rfl⟩
  case round =>
    obtain ⟨w1, seen, hal, htp, rfl, rfl⟩ := hrel
    have hsz : w1.heap.size = w.heap.size := by rw [hal.1]
    have hb1 : w1.heap[nb]? = some (.map es clock) := by rw [hal.1]; exact hb
    have law := run_next_map (P := Try.prog) w1 0 nb clock clock seen es clock hb1 hold (Nat.le_refl _)
    rw [hsz] at law
    rcases law with ⟨h0, hrun⟩ | ⟨e, he, w2, hal2, hrun⟩
    · have hnx : ∀ ty, (Instr.next (.pointer (some ⟨w.heap.size, 0, none⟩)) false ty).run Try.prog (w1.alloc (.mapIter (some nb) clock seen clock)) = _ := fun _ => hrun
      have hfin := (hsl seen).2.1 (left_none h0)
      go_wp2_with fail
      go_ret
      rw [hfin]
      exact ⟨rfl, (upd_alike hal htp).trans0 (Upd.alloc [] _ _)⟩
    · obtain ⟨ao, n, cap, hval⟩ := (hsl seen).2.2 e (mem_left he).1
      have htp2 : w2.tape = w1.tape := by
        have := next_tape (P := Try.prog) _ _ _ hrun
        exact this
      rw [hval] at hrun
      have hnx : ∀ ty, (Instr.next (.pointer (some ⟨w.heap.size, 0, none⟩)) false ty).run Try.prog (w1.alloc (.mapIter (some nb) clock seen clock)) = _ := fun _ => hrun
      have hsz2 : w2.heap.size = w.heap.size := by rw [hal2.1, hal.1]
      have hb2 : w2.heap[nb]? = some (.map es clock) := by rw [hal2.1]; exact hb1
      have hen := run_entry_map (P := Try.prog) w2 nb clock seen es clock e hb2 (mem_left he).1 hbn
      rw [hsz2, hval] at hen
      have hpush := lenSum_push seen e (mem_left he).2 hval es.toList hbn (mem_left he).1
      have hle := (hsl (seen.push e.born)).1
      rw [hpush] at hle
      go_wp2_with fail
      go_roundw
      case rel =>
        refine ⟨w2, seen.push e.born, ⟨hal2.1.trans hal.1, hal2.2.1.trans hal.2.1, hal2.2.2.trans hal.2.2⟩, htp2.trans htp, rfl, ?_⟩
        rw [hpush]
        go_num
      case measure =>
        rw [← hsz2, World.iterSeen_alloc, hsz2, ← hsz, World.iterSeen_alloc]
        exact left_shrinks es seen e he
end Go.Proofs.Ythfbfdkjgkkpcaa
