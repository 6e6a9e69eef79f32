/- Tables with handles: what each call of package slot comes to. -/
import Derived.Test.YtpenanbnadohfaaProg
import Derived.Test.YtpenanbnadohfaaMem
import Derived.KernelRfl
import Derived.Handy
import Derived.Outline
namespace Go.Proofs.Ytpenanbnadohfaa
open Go.RowKit

theorem elOnes : Elem Try.prog 55 60 (.agg #[.bool false, .int .u64 0]) 2 16 := .mk' Try.underlying55 (by kernel_rfl) rfl (by decide)
theorem elInts : Elem Try.prog 39 3 (.int .i64 0) 1 8 := .mk' Try.underlying39 (by kernel_rfl) rfl (by decide)

abbrev Slots := List (Bool × Int)
def enc1 (p : Bool × Int) : List Value := [.bool p.1, .int .u64 p.2]
def encS (l : Slots) : List Value := l.flatMap enc1
theorem enc1_len (p : Bool × Int) : (enc1 p).length = 2 := rfl

/-- A table: its head at block b, its slots in block g. -/
structure Table (w : World) (b g : Nat) (l : Slots) : Prop where
  head : w.heap[b]? = some (.cells #[.slice (some ⟨g, 0, none⟩) l.length l.length] 57 (0, 0))
  row : Own w 60 2 (.slice (some ⟨g, 0, none⟩) l.length l.length) l.length (encS l)
  ne : b ≠ g
  len : l.length ≤ 1024

def Foot (b g : Nat) : Nat → Prop := fun k => k = b ∨ k = g

theorem Table.keeps {w w' : World} {S : Nat → Prop} {b g : Nat} {l : Slots} (h : Table w b g l) (k : Keeps S w w') (hb : ¬ S b) (hg : ¬ S g) : Table w' b g l :=
  ⟨by rw [k.block b (lt_of_block h.head) hb]; exact h.head, h.row.keeps k (fun x hx => by simp [Value.ownBlock] at hx; subst hx; exact hg), h.ne, h.len⟩

theorem Table.ltb {w : World} {b g : Nat} {l : Slots} (h : Table w b g l) : b < w.heap.size := lt_of_block h.head
theorem Table.ltg {w : World} {b g : Nat} {l : Slots} (h : Table w b g l) : g < w.heap.size := h.row.lt g rfl

theorem Table.cell0 {w : World} {b g : Nat} {l : Slots} (h : Table w b g l) : w.cell? ⟨b, 0, none⟩ = some (.slice (some ⟨g, 0, none⟩) l.length l.length) := cell_of_block h.head rfl
theorem Table.fzg {w : World} {b g : Nat} {l : Slots} (h : Table w b g l) (o : Nat) : w.frozen? ⟨g, o, none⟩ = false := World.ownsRow.frozenAt h.row o
theorem Table.cellU {w : World} {b g : Nat} {l : Slots} (h : Table w b g l) {k : Nat} {x : Bool × Int} (hk : l[k]? = some x) : w.cell? ⟨g, k * 2, none⟩ = some (.bool x.1) := by
  have hlt : k < l.length := (List.getElem?_eq_some_iff.1 hk).1
  have := World.ownsRow.cellAt h.row (k * 2) (by omega)
  rw [this]
  exact flat_get enc1 2 enc1_len l k 0 x (by decide) hk
theorem Table.cellT {w : World} {b g : Nat} {l : Slots} (h : Table w b g l) {k : Nat} {x : Bool × Int} (hk : l[k]? = some x) : w.cell? ⟨g, k * 2 + 1, none⟩ = some (.int .u64 x.2) := by
  have hlt : k < l.length := (List.getElem?_eq_some_iff.1 hk).1
  have := World.ownsRow.cellAt h.row (k * 2 + 1) (by omega)
  rw [this]
  exact flat_get enc1 2 enc1_len l k 1 x (by decide) hk

/-- One slot's flag, and both of its cells, written. -/
theorem Table.setU {w : World} {b g : Nat} {l : Slots} (h : Table w b g l) {k : Nat} {x : Bool × Int} (hk : l[k]? = some x) (u : Bool) : Table (w.setCell ⟨g, k * 2, none⟩ (.bool u)) b g (l.set k (u, x.2)) := by
  refine ⟨?_, ?_, h.ne, by simpa using h.len⟩
  · rw [block_set_ne h.ne]; simpa using h.head
  · have := (World.ownsRow.stored h.row (k * 2) (.bool u)).1
    have e := flat_set enc1 2 enc1_len x (u, x.2) (.bool u) 0 (by decide) rfl l k hk
    rw [Nat.add_zero] at e
    rw [show encS l = l.flatMap enc1 from rfl, e] at this
    simpa [encS] using this

theorem Table.setT {w : World} {b g : Nat} {l : Slots} (h : Table w b g l) {k : Nat} {x : Bool × Int} (hk : l[k]? = some x) (t : Int) : Table (w.setCell ⟨g, k * 2 + 1, none⟩ (.int .u64 t)) b g (l.set k (x.1, t)) := by
  refine ⟨?_, ?_, h.ne, by simpa using h.len⟩
  · rw [block_set_ne h.ne]; simpa using h.head
  · have := (World.ownsRow.stored h.row (k * 2 + 1) (.int .u64 t)).1
    rw [show encS l = l.flatMap enc1 from rfl, flat_set enc1 2 enc1_len x (x.1, t) (.int .u64 t) 1 (by decide) rfl l k hk] at this
    simpa [encS] using this

theorem handle_calls (u : Bool) (t n : Int) (w : World) (h0 : 0 ≤ n) (h1 : n < 1024) (h2 : 0 ≤ t) (h3 : t < 1000000000) :
   Calls Try.prog 22 #[.agg #[.bool u, .int .u64 t], .int .i64 n] w fun e w' => e = .returned (.int .u64 (t * 65536 + n + 1)) ∧ w' = w.alloc (.cells #[.bool u, .int .u64 t] 60) := by
  go_enter Try.func22, Try.ntmps22
  go_wp2
  go_ret
  exact ⟨rfl, rfl⟩

/-- What Take does to the slots; its answer. -/
def TakeSays (l : Slots) (e : Ending) (l' : Slots) : Prop :=
  (∃ (k : Nat) (t : Int), l[k]? = some (false, t) ∧ (∀ j, j < k → ∃ s, l[j]? = some (true, s)) ∧ l' = l.set k (true, t + 1) ∧
    e = .returned (.tuple #[.int .i64 k, .int .u64 ((t + 1) * 65536 + k + 1), .int .i64 0])) ∨
  ((∀ j, j < l.length → ∃ s, l[j]? = some (true, s)) ∧ l' = l ∧ e = .returned (.tuple #[.int .i64 0, .int .u64 0, .int .i64 2]))

def TakePost (w : World) (b g : Nat) (l : Slots) (e : Ending) (w' : World) : Prop :=
  ∃ l', TakeSays l e l' ∧ Table w' b g l' ∧ Keeps (Foot b g) w w'

def Small (l : Slots) : Prop := ∀ (k : Nat) x, l[k]? = some x → 0 ≤ x.2 ∧ x.2 < 1000000

set_option maxRecDepth 100000 in
theorem take_calls (b g : Nat) (l : Slots) (w : World) (h : Table w b g l) (hb : Small l) :
   Calls Try.prog 12 #[.pointer (some ⟨b, 0, none⟩)] w (TakePost w b g l) := by
  have hl := h.len
  have h0 := h.cell0
  have hf := h.fzg
  have hg := h.ltg
  go_enter Try.func12, Try.ntmps12
  go_wp2
  go_loop [14] (fun i => ∃ k : Nat, k ≤ l.length ∧ i = .int .i64 k ∧ Hid (∀ j, j < k → ∃ s, l[j]? = some (true, s))) (fun i => l.length - (intOf i).toNat)
  case atStart => exact ⟨0, Nat.zero_le _, rfl, fun j hj => by omega⟩
  case round =>
    obtain ⟨k, hk, rfl, Hall⟩ := hrel
    by_cases hlt : k < l.length
    · obtain ⟨⟨u, t⟩, hp⟩ : ∃ p, l[k]? = some p := ⟨_, List.getElem?_eq_getElem hlt⟩
      have hu := h.cellU hp
      have ht := h.cellT hp
      have ⟨hb1, hb2⟩ := hb k _ hp
      simp only [] at hu ht hb1 hb2
      have HP := Lib.hid hp
      clear hp
      cases u with
      | true =>
        go_wp2
        go_round
        case rel =>
          refine ⟨k + 1, by omega, by go_num, ?_⟩
          intro j hj
          by_cases e : j = k
          · subst e; exact ⟨t, HP.out⟩
          · exact Hall.out j (by omega)
        case measure => simp [intOf]; omega
      | false =>
        go_wp2_with (go_at_call 22; refine (handle_calls _ _ _ _ (by omega) (by omega) (by omega) (by omega)).mono ?_; rintro e w' ⟨rfl, rfl⟩)
        go_ret3
        refine ⟨l.set k (true, t + 1), .inl ⟨k, t, HP.out, Hall.out, rfl, rfl⟩, ?_, ?_⟩
        · have h1 := (h.setU HP.out true).setT (k := k) (x := (true, t)) (by simp [hlt]) (t + 1)
          rw [List.set_set] at h1
          exact h1.keeps (S := NoBlock) ((Keeps.refl _ _).alloc _) (fun h => h) (fun h => h)
        · exact (((Keeps.refl _ w).setCell (.inl (.inr rfl)) _).setCell (.inl (.inr rfl)) _).alloc _
    · have : k = l.length := by omega
      subst this
      go_wp2
      go_ret3
      exact ⟨l, .inr ⟨Hall.out, rfl, rfl⟩, h, Keeps.refl _ _⟩

/-- The slot of a handle. -/
def Found (l : Slots) (h : Int) (k : Nat) : Prop := ∃ t, l[k]? = some (true, t) ∧ h = t * 65536 + k + 1

def FindSays (l : Slots) (h : Int) (e : Ending) : Prop :=
  (∃ k, Found l h k ∧ e = .returned (.tuple #[.int .i64 k, .bool true])) ∨ ((∀ k, ¬ Found l h k) ∧ e = .returned (.tuple #[.int .i64 0, .bool false]))

def FindPost (w : World) (l : Slots) (h : Int) (e : Ending) (w' : World) : Prop := FindSays l h e ∧ Keeps NoBlock w w'

theorem find_nil (h : Int) (w : World) : Calls Try.prog 14 #[.pointer none, .int .u64 h] w fun e w' => e = .returned (.tuple #[.int .i64 0, .bool false]) ∧ w' = w := by
  go_enter Try.func14, Try.ntmps14
  go_wp2
  go_ret2
  exact ⟨rfl, rfl⟩

theorem not_found {l : Slots} {h : Int} (hb : Small l) (hl : l.length ≤ 1024) (hn : ∀ (k : Nat) t, (k : Int) = h % 65536 - 1 → l[k]? = some (true, t) → h ≠ t * 65536 + k + 1) : ∀ k, ¬ Found l h k := by
  rintro k ⟨t, hk, rfl⟩
  have hlt : k < l.length := (List.getElem?_eq_some_iff.1 hk).1
  have hs := hb k _ hk
  exact hn k t (by simp only [] at hs; omega) hk rfl

set_option maxRecDepth 100000 in
theorem find_calls (b g : Nat) (l : Slots) (w : World) (h : Int) (T : Table w b g l) (hb : Small l) (h0 : 0 ≤ h) (h1 : h < 18446744073709551616) :
   Calls Try.prog 14 #[.pointer (some ⟨b, 0, none⟩), .int .u64 h] w (FindPost w l h) := by
  have hl := T.len
  have hc0 := T.cell0
  by_cases hz : h % 65536 = 0
  · have hn : ∀ k, ¬ Found l h k := not_found hb hl (fun k t hk _ => by omega)
    have Hn := Lib.hid hn
    clear hn
    go_enter Try.func14, Try.ntmps14
    go_wp2
    go_ret2
    exact ⟨.inr ⟨Hn.out, rfl⟩, Keeps.refl _ _⟩
  · obtain ⟨k, hk⟩ : ∃ k : Nat, h % 65536 = k + 1 := ⟨(h % 65536 - 1).toNat, by omega⟩
    have hk16 : k < 65536 := by omega
    by_cases hlt : k < l.length
    · obtain ⟨⟨u, t⟩, hp⟩ : ∃ p, l[k]? = some p := ⟨_, List.getElem?_eq_getElem hlt⟩
      have hu := T.cellU hp
      have ht := T.cellT hp
      have ⟨hb1, hb2⟩ := hb k _ hp
      simp only [] at hu ht hb1 hb2
      have HP := Lib.hid hp
      clear hp
      cases u with
      | false =>
        have hn : Hid (∀ k, ¬ Found l h k) := not_found hb hl (fun k' t' hk' hp' => by
          obtain rfl : k' = k := by omega
          rw [HP.out] at hp'; simp at hp')
        go_enter Try.func14, Try.ntmps14
        go_wp2
        go_ret2
        exact ⟨.inr ⟨hn.out, rfl⟩, Keeps.refl _ _⟩
      | true =>
        by_cases he : h = t * 65536 + k + 1
        · have He := Lib.hid he
          have hb' : (t * 65536 + (k : Int) + 1 != h) = false := by simp [he]
          clear he
          go_enter Try.func14, Try.ntmps14
          go_wp2_with (go_at_call 22; refine (handle_calls _ _ _ _ (by omega) (by omega) (by omega) (by omega)).mono ?_; rintro e w' ⟨rfl, rfl⟩)
          go_ret2
          exact ⟨.inl ⟨k, ⟨t, HP.out, He.out⟩, rfl⟩, (Keeps.refl _ _).alloc _⟩
        · have hn : Hid (∀ k, ¬ Found l h k) := not_found hb hl (fun k' t' hk' hp' => by
            obtain rfl : k' = k := by omega
            rw [HP.out] at hp'; simp at hp'; subst hp'; exact he)
          have hb' : (t * 65536 + (k : Int) + 1 != h) = true := by simp; omega
          go_enter Try.func14, Try.ntmps14
          go_wp2_with (go_at_call 22; refine (handle_calls _ _ _ _ (by omega) (by omega) (by omega) (by omega)).mono ?_; rintro e w' ⟨rfl, rfl⟩)
          go_ret2
          exact ⟨.inr ⟨hn.out, rfl⟩, (Keeps.refl _ _).alloc _⟩
    · have hn : Hid (∀ k, ¬ Found l h k) := not_found hb hl (fun k' t' hk' hp' => by
        have := (List.getElem?_eq_some_iff.1 hp').1
        omega)
      go_enter Try.func14, Try.ntmps14
      go_wp2
      go_ret2
      exact ⟨.inr ⟨hn.out, rfl⟩, Keeps.refl _ _⟩
end Go.Proofs.Ytpenanbnadohfaa
