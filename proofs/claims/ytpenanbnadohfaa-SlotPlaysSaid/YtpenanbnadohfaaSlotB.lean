/- Tables with handles: the other calls of package slot. -/
import Derived.Test.YtpenanbnadohfaaSlot
namespace Go.Proofs.Ytpenanbnadohfaa
open Go.RowKit

def FreePost (w : World) (b g : Nat) (l : Slots) (h : Int) (e : Ending) (w' : World) : Prop :=
  ∃ l', ((∃ (k : Nat) (t : Int), l[k]? = some (true, t) ∧ h = t * 65536 + (k : Int) + 1 ∧ l' = l.set k (false, t) ∧ e = .returned (.int .i64 0)) ∨ ((∀ k, ¬ Found l h k) ∧ l' = l ∧ e = .returned (.int .i64 3))) ∧
    Table w' b g l' ∧ Keeps (Foot b g) w w'

theorem free_nil (h : Int) (w : World) : Calls Try.prog 13 #[.pointer none, .int .u64 h] w fun e w' => e = .returned (.int .i64 3) ∧ w' = w := by
  go_enter Try.func13, Try.ntmps13
  go_wp2_with (go_at_call 14; refine (find_nil _ _).mono ?_; rintro e w' ⟨rfl, rfl⟩)
  go_ret
  exact ⟨rfl, rfl⟩

set_option maxRecDepth 100000 in
theorem free_calls (b g : Nat) (l : Slots) (w : World) (h : Int) (T : Table w b g l) (hb : Small l) (h0 : 0 ≤ h) (h1 : h < 18446744073709551616) :
   Calls Try.prog 13 #[.pointer (some ⟨b, 0, none⟩), .int .u64 h] w (FreePost w b g l h) := by
  go_enter Try.func13, Try.ntmps13
  go_wp2_with fail
  refine (find_calls b g l w h T hb h0 h1).mono ?_
  rintro e w' ⟨hs, hk⟩
  have T' := T.keeps hk (fun h => h) (fun h => h)
  rcases hs with ⟨k, ⟨t, hp, rfl⟩, rfl⟩ | ⟨hn, rfl⟩
  · have hc0 := T'.cell0
    have hu := T'.cellU hp
    have hf := T'.fzg
    have hlt : k < l.length := (List.getElem?_eq_some_iff.1 hp).1
    have hl := T.len
    simp only [] at hu
    have HP := Lib.hid hp
    clear hp
    go_wp2
    go_ret
    refine ⟨l.set k (false, t), .inl ⟨k, t, HP.out, rfl, rfl, rfl⟩, T'.setU HP.out false, ?_⟩
    exact (hk.mono (fun _ _ h => h.elim)).setCell (.inl (.inr rfl)) _
  · have Hn := Lib.hid hn
    clear hn
    go_wp2
    go_ret
    exact ⟨l, .inr ⟨Hn.out, rfl, rfl⟩, T', hk.mono (fun _ _ h => h.elim)⟩

def HandlePost (w : World) (l : Slots) (n : Int) (e : Ending) (w' : World) : Prop :=
  ((∃ (k : Nat) (t : Int), n = k ∧ l[k]? = some (true, t) ∧ e = .returned (.tuple #[.int .u64 (t * 65536 + k + 1), .bool true])) ∨
   ((∀ (k : Nat) (t : Int), n = k → l[k]? ≠ some (true, t)) ∧ e = .returned (.tuple #[.int .u64 0, .bool false]))) ∧ Keeps NoBlock w w'

theorem handleOf_nil (n : Int) (w : World) : Calls Try.prog 16 #[.pointer none, .int .i64 n] w fun e w' => e = .returned (.tuple #[.int .u64 0, .bool false]) ∧ w' = w := by
  go_enter Try.func16, Try.ntmps16
  go_wp2
  go_ret2
  exact ⟨rfl, rfl⟩

set_option maxRecDepth 100000 in
theorem handleOf_calls (b g : Nat) (l : Slots) (w : World) (n : Int) (T : Table w b g l) (hb : Small l) :
   Calls Try.prog 16 #[.pointer (some ⟨b, 0, none⟩), .int .i64 n] w (HandlePost w l n) := by
  have hl := T.len
  have hc0 := T.cell0
  by_cases hneg : n < 0
  · have hn : Hid (∀ (k : Nat) (t : Int), n = k → l[k]? ≠ some (true, t)) := fun k t hk => by omega
    go_enter Try.func16, Try.ntmps16
    go_wp2
    go_ret2
    exact ⟨.inr ⟨hn.out, rfl⟩, Keeps.refl _ _⟩
  · obtain ⟨k, rfl⟩ := Int.eq_ofNat_of_zero_le (show 0 ≤ n by omega)
    by_cases hlt : k < l.length
    · obtain ⟨⟨u, t⟩, hp⟩ : ∃ p, l[k]? = some p := ⟨_, List.getElem?_eq_getElem hlt⟩
      have hu := T.cellU hp
      have ht := T.cellT hp
      have ⟨hb1, hb2⟩ := hb k _ hp
      simp only [] at hu ht hb1 hb2
      have HP := Lib.hid hp
      clear hp
      cases u with
      | false =>
        have hn : Hid (∀ (k' : Nat) (t : Int), (k : Int) = k' → l[k']? ≠ some (true, t)) := fun k' t hk => by
          obtain rfl : k' = k := by omega
          rw [HP.out]; simp
        go_enter Try.func16, Try.ntmps16
        go_wp2
        go_ret2
        exact ⟨.inr ⟨hn.out, rfl⟩, Keeps.refl _ _⟩
      | true =>
        go_enter Try.func16, Try.ntmps16
        go_wp2_with (go_at_call 22; refine (handle_calls _ _ _ _ (by omega) (by omega) (by omega) (by omega)).mono ?_; rintro e w' ⟨rfl, rfl⟩)
        go_ret2
        exact ⟨.inl ⟨k, t, rfl, HP.out, rfl⟩, (Keeps.refl _ _).alloc _⟩
    · have hn : Hid (∀ (k' : Nat) (t : Int), (k : Int) = k' → l[k']? ≠ some (true, t)) := fun k' t hk => by
        obtain rfl : k' = k := by omega
        rw [List.getElem?_eq_none (by omega)]; simp
      go_enter Try.func16, Try.ntmps16
      go_wp2
      go_ret2
      exact ⟨.inr ⟨hn.out, rfl⟩, Keeps.refl _ _⟩

/-- The numbers of the slots that are used, below k. -/
def usedTo (l : Slots) (k : Nat) : List Int := (List.range k).filterMap fun j => if (l.getD j (false, 0)).1 then some (j : Int) else none

theorem usedTo_succ (l : Slots) (k : Nat) : usedTo l (k + 1) = usedTo l k ++ (if (l.getD k (false, 0)).1 then [(k : Int)] else []) := by
  unfold usedTo
  rw [List.range_succ, List.filterMap_append]
  congr 1
  simp only [List.filterMap_cons, List.filterMap_nil]
  split <;> simp_all

theorem usedTo_len (l : Slots) (k : Nat) : (usedTo l k).length ≤ k := by
  unfold usedTo
  have := List.length_filterMap_le (fun j => if (l.getD j (false, 0)).1 then some (j : Int) else none) (List.range k)
  simpa using this

abbrev ints (l : List Int) : List Value := l.map (Value.int .i64)

/-- A new list of numbers. -/
def NewInts (w w' : World) (v : Value) (l : List Int) : Prop := Own w' 3 1 v l.length (ints l) ∧ ∀ k, v.ownBlock = some k → w.heap.size ≤ k

def UsedPost (w : World) (l : List Int) (e : Ending) (w' : World) : Prop := ∃ v, e = .returned v ∧ NewInts w w' v l ∧ Keeps NoBlock w w'

theorem used_nil (w : World) : Calls Try.prog 18 #[.pointer none] w fun e w' => e = .returned (.slice none 0 0) ∧ w' = w := by
  go_enter Try.func18, Try.ntmps18
  go_wp2
  go_ret
  exact ⟨rfl, rfl⟩

set_option maxRecDepth 100000 in
theorem used_calls (b g : Nat) (l : Slots) (w : World) (T : Table w b g l) :
   Calls Try.prog 18 #[.pointer (some ⟨b, 0, none⟩)] w (UsedPost w (usedTo l l.length)) := by
  have hl := T.len
  have hc0 := T.cell0
  go_enter Try.func18, Try.ntmps18
  go_wp2
  clear hc0
  go_loopw [3, 13] (fun v i wr => ∃ k : Nat, k ≤ l.length ∧ i = .int .i64 k ∧ NewInts w wr v (usedTo l k) ∧ Keeps NoBlock w wr) (fun _ i _ => l.length - (intOf i).toNat)
  case atStart => exact ⟨0, Nat.zero_le _, rfl, ⟨World.ownsRow_nil _ _ _ _, fun k hk => by simp [Value.ownBlock] at hk⟩, Keeps.refl _ _⟩
  case round =>
    obtain ⟨k, hk, rfl, ⟨hown, hnew⟩, hkeep⟩ := hrel
    have T' := T.keeps hkeep (fun h => h) (fun h => h)
    by_cases hlt : k < l.length
    · obtain ⟨⟨u, t⟩, hp⟩ : ∃ p, l[k]? = some p := ⟨_, List.getElem?_eq_getElem hlt⟩
      have hu := T'.cellU hp
      have ht := T'.cellT hp
      simp only [] at hu ht
      have hD : (l.getD k (false, 0)).1 = u := by rw [List.getD_eq_getElem?_getD, hp]; rfl
      have HD := Lib.hid hD
      have hul := usedTo_len l k
      have Hnew := Lib.hid hnew
      have HP := Lib.hid hp
      clear hp hnew hD
      cases u with
      | false =>
        go_wp2
        go_roundw
        case rel =>
          refine ⟨k + 1, by omega, by go_num, ?_, hkeep.alloc _⟩
          rw [usedTo_succ, HD.out]
          simp only [Bool.false_eq_true, if_false, List.append_nil]
          exact ⟨World.ownsRow.alloc hown _, Hnew.out⟩
        case measure => simp [intOf]; omega
      | true =>
        go_wp2_with (at_builtin; refine wpList_app1 elInts _ rfl _ _ rfl _ _ _ rfl (World.ownsRow.alloc hown _) [.int .i64 (k : Int)] 3 _ rfl (by simp) rfl (by simp [Value.oneCell']) (by omega) (by decide) ?_; intro g1 cap1 w1 hown1 hk1 hfr1)
        go_roundw
        case rel =>
          refine ⟨k + 1, by omega, by go_num, ?_, ?_⟩
          · rw [usedTo_succ, HD.out]
            simp only [if_true]
            refine ⟨by simpa [ints] using hown1, fun j hj => ?_⟩
            simp only [Value.ownBlock, Option.some.injEq] at hj
            subst hj
            rcases hfr1 with h | h
            · exact Hnew.out _ h
            · have := hkeep.size; simp at h; omega
          · refine (hkeep.alloc _).trans hk1 (fun j hj h => ?_)
            have := Hnew.out _ h
            omega
        case measure => simp [intOf]; omega
    · obtain rfl : k = l.length := by omega
      go_wp2
      go_ret
      exact ⟨_, rfl, ⟨hown, hnew⟩, hkeep⟩

theorem Table.fresh {w : World} {n : Nat} (hn : n ≤ 1024) {w1 : World} (ho : Own w1 60 2 (.slice (some ⟨w.heap.size, 0, none⟩) n n) n (madeCells (Value.cells (.agg #[.bool false, .int .u64 0])) (n * 2)).toList) (hs : w.heap.size < w1.heap.size) :
    Table (w1.alloc (.cells #[.slice (some ⟨w.heap.size, 0, none⟩) n n] 57)) w1.heap.size w.heap.size (List.replicate n (false, 0)) := by
  refine ⟨?_, ?_, by omega, by simpa using hn⟩
  · rw [block_alloc_new]; simp
  · have e : (madeCells (Value.cells (.agg #[.bool false, .int .u64 0])) (n * 2)).toList = encS (List.replicate n (false, 0)) := by
      apply List.ext_getElem?
      intro j
      by_cases hj : j < n * 2
      · have h1 := flat_get enc1 2 enc1_len (List.replicate n (false, 0)) (j / 2) (j % 2) (false, 0) (Nat.mod_lt _ (by decide)) (by rw [List.getElem?_replicate, if_pos (by omega)])
        rw [show j / 2 * 2 + j % 2 = j by omega] at h1
        rw [show encS (List.replicate n (false, 0)) = (List.replicate n (false, 0)).flatMap enc1 from rfl, h1]
        have h2 : j % 2 = 0 ∨ j % 2 = 1 := by omega
        rcases h2 with h2 | h2 <;> simp [madeCells, Value.cells, hj, h2, enc1]
      · rw [List.getElem?_eq_none (by simp [madeCells]; omega), List.getElem?_eq_none (by rw [show encS (List.replicate n (false, 0)) = (List.replicate n (false, 0)).flatMap enc1 from rfl, flat_len enc1 2 enc1_len]; simp; omega)]
    rw [← e]
    simpa using World.ownsRow.alloc ho _

def NewPost (w : World) (n : Nat) (e : Ending) (w' : World) : Prop :=
  ∃ b g, e = .returned (.pointer (some ⟨b, 0, none⟩)) ∧ Table w' b g (List.replicate n (false, 0)) ∧ Keeps NoBlock w w' ∧ w.heap.size ≤ b ∧ w.heap.size ≤ g

def newLen (n : Int) : Nat := (min (max n 0) 1024).toNat

set_option maxRecDepth 100000 in
theorem new_calls (n : Int) (w : World) : Calls Try.prog 11 #[.int .i64 n] w (NewPost w (newLen n)) := by
  have key : ∀ m : Nat, m ≤ 1024 → newLen n = m → ∀ w1 : World, Own w1 60 2 (.slice (some ⟨w.heap.size, 0, none⟩) m m) m (madeCells (Value.cells (.agg #[.bool false, .int .u64 0])) (m * 2)).toList → w.heap.size < w1.heap.size → Keeps NoBlock w w1 →
      NewPost w (newLen n) (.returned (.pointer (some ⟨w1.heap.size, 0, none⟩))) (w1.alloc (.cells #[.slice (some ⟨w.heap.size, 0, none⟩) m m] 57)) := by
    intro m hm he w1 ho hs hk
    rw [he]
    exact ⟨w1.heap.size, w.heap.size, rfl, Table.fresh hm ho hs, hk.alloc _, by omega, Nat.le_refl _⟩
  have Key := Lib.hid key
  clear key
  by_cases h1 : n < 0
  · go_enter Try.func11, Try.ntmps11
    go_wp2_with (refine wpList_make elOnes _ rfl _ _ rfl _ _ 0 rfl rfl (by omega) (by decide) ?_; intro w1 ho hs hk)
    go_ret
    exact Key.out 0 (by omega) (by unfold newLen; omega) w1 ho hs hk
  · obtain ⟨m, rfl⟩ := Int.eq_ofNat_of_zero_le (show 0 ≤ n by omega)
    by_cases h2 : m ≤ 1024
    · go_enter Try.func11, Try.ntmps11
      go_wp2_with (refine wpList_make elOnes _ rfl _ _ rfl _ _ m rfl rfl (by omega) (by decide) ?_; intro w1 ho hs hk)
      go_ret
      exact Key.out m (by omega) (by unfold newLen; omega) w1 ho hs hk
    · have h3 : 1024 < m := by omega
      clear h2
      go_enter Try.func11, Try.ntmps11
      go_wp2_with (refine wpList_make elOnes _ rfl _ _ rfl _ _ 1024 rfl rfl (by omega) (by decide) ?_; intro w1 ho hs hk)
      go_ret
      exact Key.out 1024 (by omega) (by unfold newLen; omega) w1 ho hs hk
end Go.Proofs.Ytpenanbnadohfaa
