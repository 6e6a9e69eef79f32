/- Package tube: what a tube is in memory, and its small calls. -/
import Derived.Test.YtgepedfipfobjaaTubeL
import Derived.Deep.DeepCutAuto
import Derived.Deep.CutBlock
import Derived.Deep.RegionWith
import Derived.RegionTactic
import Derived.Deep.RegionHeld3
import Derived.Deep.QuietTactic
import Derived.BigQuiet
namespace Go.Proofs.Ytgepedfipfobjaa
open Go.RowKit
namespace Tb

/-- A tube at t: its rows lie in blocks of a colour each. -/
structure TubeIn (col : Nat → Nat) (w : World) (t : Nat) (room : Int) (ws : List Int) (ps : List (Int × Int)) (gs : List Int) (A1 : Option Addr) (c1 : Nat) (A2 : Option Addr) (c2 : Nat) (A3 : Option Addr) (c3 : Nat) : Prop where
  head : w.heap[t]? = some (.cells #[.int .i64 room, .slice A1 ws.length c1, .slice A2 ps.length c2, .slice A3 gs.length c3] 73 (0, 0))
  o1 : Own w 27 1 (.slice A1 ws.length c1) ws.length (ws.map (Value.int .u64))
  o2 : Own w 78 2 (.slice A2 ps.length c2) ps.length (ps.flatMap encP)
  o3 : Own w 3 1 (.slice A3 gs.length c3) gs.length (gs.map (Value.int .i64))
  ct : col t = 1
  k1 : ∀ k, (Value.slice A1 ws.length c1).ownBlock = some k → col k = 2
  k2 : ∀ k, (Value.slice A2 ps.length c2).ownBlock = some k → col k = 3
  k3 : ∀ k, (Value.slice A3 gs.length c3).ownBlock = some k → col k = 4
  flt : ∀ k, col k ≠ 0 → k < w.heap.size
  len : ws.length ≤ 8 ∧ ps.length ≤ 1000 ∧ gs.length ≤ 1000
  room : 1 ≤ room ∧ room ≤ 8

def TubeAt (col : Nat → Nat) (w : World) (t : Nat) (room : Int) (ws : List Int) (ps : List (Int × Int)) (gs : List Int) : Prop :=
  ∃ A1 c1 A2 c2 A3 c3, TubeIn col w t room ws ps gs A1 c1 A2 c2 A3 c3

def Next (col col' : Nat → Nat) (w w' : World) : Prop := Keeps (fun k => col k ≠ 0) w w' ∧ ∀ k, k < w.heap.size → col' k = col k

theorem TubeIn.keeps {col : Nat → Nat} {S : Nat → Prop} {w w' : World} {t : Nat} {room : Int} {ws : List Int} {ps : List (Int × Int)} {gs : List Int} {A1 A2 A3 : Option Addr} {c1 c2 c3 : Nat} (h : TubeIn col w t room ws ps gs A1 c1 A2 c2 A3 c3) (k : Keeps S w w') (hS : ∀ j, col j ≠ 0 → ¬ S j) : TubeIn col w' t room ws ps gs A1 c1 A2 c2 A3 c3 :=
  ⟨by rw [k.block t (lt_of_block h.head) (hS _ (by rw [h.ct]; decide))]; exact h.head, h.o1.keeps k (fun b hb => hS _ (by rw [h.k1 b hb]; decide)), h.o2.keeps k (fun b hb => hS _ (by rw [h.k2 b hb]; decide)), h.o3.keeps k (fun b hb => hS _ (by rw [h.k3 b hb]; decide)),
    h.ct, h.k1, h.k2, h.k3, fun j hj => Nat.lt_of_lt_of_le (h.flt j hj) k.size, h.len, h.room⟩

theorem TubeAt.keeps {col : Nat → Nat} {S : Nat → Prop} {w w' : World} {t : Nat} {room : Int} {ws : List Int} {ps : List (Int × Int)} {gs : List Int} (h : TubeAt col w t room ws ps gs) (k : Keeps S w w') (hS : ∀ j, col j ≠ 0 → ¬ S j) : TubeAt col w' t room ws ps gs := by
  obtain ⟨A1, c1, A2, c2, A3, c3, h⟩ := h
  exact ⟨A1, c1, A2, c2, A3, c3, h.keeps k hS⟩

theorem TubeAt.flt {col : Nat → Nat} {w : World} {t : Nat} {room : Int} {ws : List Int} {ps : List (Int × Int)} {gs : List Int} (h : TubeAt col w t room ws ps gs) : ∀ k, col k ≠ 0 → k < w.heap.size := by
  obtain ⟨_, _, _, _, _, _, h⟩ := h
  exact h.flt

def paint (col : Nat → Nat) (v : Value) (i : Nat) : Nat → Nat := fun k => if v.ownBlock = some k then i else col k

theorem paint_old {col : Nat → Nat} {v0 v : Value} {i n : Nat} (h0 : ∀ k, v0.ownBlock = some k → col k = i) (hf : ∀ k, v.ownBlock = some k → v0.ownBlock = some k ∨ n ≤ k) : ∀ k, k < n → paint col v i k = col k := by
  intro k hk
  unfold paint
  split
  · rename_i h
    rcases hf k h with h' | h'
    · rw [h0 k h']
    · omega
  · rfl

/-- Row 1 has become another one. -/
theorem TubeIn.set1 {col : Nat → Nat} {w w4 : World} {t : Nat} {room : Int} {ws : List Int} {ps : List (Int × Int)} {gs : List Int} {A1 A2 A3 : Option Addr} {c1 c2 c3 : Nat} (h : TubeIn col w t room ws ps gs A1 c1 A2 c2 A3 c3) {xs : List (Int)} {A : Option Addr} {c : Nat}
    (hd : w4.heap[t]? = some (.cells #[.int .i64 room, .slice A xs.length c, .slice A2 ps.length c2, .slice A3 gs.length c3] 73 (0, 0))) (ho : Own w4 27 1 (.slice A xs.length c) xs.length (xs.map (Value.int .u64))) (ko : Keeps (fun k => k = t ∨ (Value.slice A1 ws.length c1).ownBlock = some k) w w4)
    (hf : ∀ k, (Value.slice A xs.length c).ownBlock = some k → (Value.slice A1 ws.length c1).ownBlock = some k ∨ w.heap.size ≤ k) (hl : xs.length ≤ 8) :
    TubeAt (paint col (.slice A xs.length c) 2) w4 t room xs ps gs ∧ Next col (paint col (.slice A xs.length c) 2) w w4 := by
  have hp := paint_old (v := .slice A xs.length c) (v0 := .slice A1 ws.length c1) (n := w.heap.size) h.k1 hf
  have ht := lt_of_block h.head
  have other : ∀ (v : Value) (j : Nat), j ≠ 1 → j ≠ 2 → (∀ k, v.ownBlock = some k → col k = j) → ∀ b, v.ownBlock = some b → ¬ (b = t ∨ (Value.slice A1 ws.length c1).ownBlock = some b) := by
    intro v j h1 h2 hv b hb hh
    have := hv b hb
    rcases hh with rfl | hh
    · rw [h.ct] at this; exact h1 this.symm
    · rw [h.k1 b hh] at this; exact h2 this.symm
  refine ⟨⟨A, c, A2, c2, A3, c3, ⟨hd, ho, h.o2.keeps ko (other _ 3 (by decide) (by decide) h.k2), h.o3.keeps ko (other _ 4 (by decide) (by decide) h.k3), ?_, ?_, ?_, ?_, ?_, ⟨hl, h.len.2⟩, h.room⟩⟩, ko.mono ?_, hp⟩
  · rw [hp t ht, h.ct]
  · intro k hk; simp [paint, hk]
  · intro k hk; rw [hp k (h.o2.lt k hk), h.k2 k hk]
  · intro k hk; rw [hp k (h.o3.lt k hk), h.k3 k hk]
  · intro k hk
    unfold paint at hk
    split at hk
    · rename_i hb
      exact ho.lt k hb
    · exact Nat.lt_of_lt_of_le (h.flt k hk) ko.size
  · rintro k _ (rfl | hk)
    · rw [h.ct]; decide
    · rw [h.k1 k hk]; decide
/-- Row 2 has become another one. -/
theorem TubeIn.set2 {col : Nat → Nat} {w w4 : World} {t : Nat} {room : Int} {ws : List Int} {ps : List (Int × Int)} {gs : List Int} {A1 A2 A3 : Option Addr} {c1 c2 c3 : Nat} (h : TubeIn col w t room ws ps gs A1 c1 A2 c2 A3 c3) {xs : List (Int × Int)} {A : Option Addr} {c : Nat}
    (hd : w4.heap[t]? = some (.cells #[.int .i64 room, .slice A1 ws.length c1, .slice A xs.length c, .slice A3 gs.length c3] 73 (0, 0))) (ho : Own w4 78 2 (.slice A xs.length c) xs.length (xs.flatMap encP)) (ko : Keeps (fun k => k = t ∨ (Value.slice A2 ps.length c2).ownBlock = some k) w w4)
    (hf : ∀ k, (Value.slice A xs.length c).ownBlock = some k → (Value.slice A2 ps.length c2).ownBlock = some k ∨ w.heap.size ≤ k) (hl : xs.length ≤ 1000) :
    TubeAt (paint col (.slice A xs.length c) 3) w4 t room ws xs gs ∧ Next col (paint col (.slice A xs.length c) 3) w w4 := by
  have hp := paint_old (v := .slice A xs.length c) (v0 := .slice A2 ps.length c2) (n := w.heap.size) h.k2 hf
  have ht := lt_of_block h.head
  have other : ∀ (v : Value) (j : Nat), j ≠ 1 → j ≠ 3 → (∀ k, v.ownBlock = some k → col k = j) → ∀ b, v.ownBlock = some b → ¬ (b = t ∨ (Value.slice A2 ps.length c2).ownBlock = some b) := by
    intro v j h1 h2 hv b hb hh
    have := hv b hb
    rcases hh with rfl | hh
    · rw [h.ct] at this; exact h1 this.symm
    · rw [h.k2 b hh] at this; exact h2 this.symm
  refine ⟨⟨A1, c1, A, c, A3, c3, ⟨hd, h.o1.keeps ko (other _ 2 (by decide) (by decide) h.k1), ho, h.o3.keeps ko (other _ 4 (by decide) (by decide) h.k3), ?_, ?_, ?_, ?_, ?_, ⟨h.len.1, hl, h.len.2.2⟩, h.room⟩⟩, ko.mono ?_, hp⟩
  · rw [hp t ht, h.ct]
  · intro k hk; rw [hp k (h.o1.lt k hk), h.k1 k hk]
  · intro k hk; simp [paint, hk]
  · intro k hk; rw [hp k (h.o3.lt k hk), h.k3 k hk]
  · intro k hk
    unfold paint at hk
    split at hk
    · rename_i hb
      exact ho.lt k hb
    · exact Nat.lt_of_lt_of_le (h.flt k hk) ko.size
  · rintro k _ (rfl | hk)
    · rw [h.ct]; decide
    · rw [h.k2 k hk]; decide
/-- Row 3 has become another one. -/
theorem TubeIn.set3 {col : Nat → Nat} {w w4 : World} {t : Nat} {room : Int} {ws : List Int} {ps : List (Int × Int)} {gs : List Int} {A1 A2 A3 : Option Addr} {c1 c2 c3 : Nat} (h : TubeIn col w t room ws ps gs A1 c1 A2 c2 A3 c3) {xs : List (Int)} {A : Option Addr} {c : Nat}
    (hd : w4.heap[t]? = some (.cells #[.int .i64 room, .slice A1 ws.length c1, .slice A2 ps.length c2, .slice A xs.length c] 73 (0, 0))) (ho : Own w4 3 1 (.slice A xs.length c) xs.length (xs.map (Value.int .i64))) (ko : Keeps (fun k => k = t ∨ (Value.slice A3 gs.length c3).ownBlock = some k) w w4)
    (hf : ∀ k, (Value.slice A xs.length c).ownBlock = some k → (Value.slice A3 gs.length c3).ownBlock = some k ∨ w.heap.size ≤ k) (hl : xs.length ≤ 1000) :
    TubeAt (paint col (.slice A xs.length c) 4) w4 t room ws ps xs ∧ Next col (paint col (.slice A xs.length c) 4) w w4 := by
  have hp := paint_old (v := .slice A xs.length c) (v0 := .slice A3 gs.length c3) (n := w.heap.size) h.k3 hf
  have ht := lt_of_block h.head
  have other : ∀ (v : Value) (j : Nat), j ≠ 1 → j ≠ 4 → (∀ k, v.ownBlock = some k → col k = j) → ∀ b, v.ownBlock = some b → ¬ (b = t ∨ (Value.slice A3 gs.length c3).ownBlock = some b) := by
    intro v j h1 h2 hv b hb hh
    have := hv b hb
    rcases hh with rfl | hh
    · rw [h.ct] at this; exact h1 this.symm
    · rw [h.k3 b hh] at this; exact h2 this.symm
  refine ⟨⟨A1, c1, A2, c2, A, c, ⟨hd, h.o1.keeps ko (other _ 2 (by decide) (by decide) h.k1), h.o2.keeps ko (other _ 3 (by decide) (by decide) h.k2), ho, ?_, ?_, ?_, ?_, ?_, ⟨h.len.1, h.len.2.1, hl⟩, h.room⟩⟩, ko.mono ?_, hp⟩
  · rw [hp t ht, h.ct]
  · intro k hk; rw [hp k (h.o1.lt k hk), h.k1 k hk]
  · intro k hk; rw [hp k (h.o2.lt k hk), h.k2 k hk]
  · intro k hk; simp [paint, hk]
  · intro k hk
    unfold paint at hk
    split at hk
    · rename_i hb
      exact ho.lt k hb
    · exact Nat.lt_of_lt_of_le (h.flt k hk) ko.size
  · rintro k _ (rfl | hk)
    · rw [h.ct]; decide
    · rw [h.k3 k hk]; decide

def NewPost (w : World) (room : Int) (e : Ending) (w' : World) : Prop :=
  ∃ (t : Nat) (col : Nat → Nat), e = .returned (.pointer (some ⟨t, 0, none⟩)) ∧ TubeAt col w' t room [] [] [] ∧ (∀ k, col k ≠ 0 → w.heap.size ≤ k) ∧ Keeps NoBlock w w'

theorem new_calls (n : Int) (w : World) : Calls Try.prog 16 #[.int .i64 n] w (NewPost w (min (max n 1) 8)) := by
  obtain ⟨m, hm⟩ : ∃ m, min (max n 1) 8 = m := ⟨_, rfl⟩
  have hmb : 1 ≤ m ∧ m ≤ 8 := by omega
  have key : NewPost w m (.returned (.pointer (some ⟨w.heap.size, 0, none⟩))) (w.alloc (.cells #[.int .i64 m, .slice none 0 0, .slice none 0 0, .slice none 0 0] 73)) := by
    refine ⟨w.heap.size, fun k => if k = w.heap.size then 1 else 0, rfl, ⟨none, 0, none, 0, none, 0, ⟨block_alloc_new _ _, World.ownsRow_nil _ _ _ _, World.ownsRow_nil _ _ _ _, World.ownsRow_nil _ _ _ _, by simp, ?_, ?_, ?_, ?_, by simp, hmb⟩⟩, ?_, (Keeps.refl _ _).alloc _⟩
    · intro k hk; simp [Value.ownBlock] at hk
    · intro k hk; simp [Value.ownBlock] at hk
    · intro k hk; simp [Value.ownBlock] at hk
    · intro k hk; (try dsimp only at hk); split at hk <;> simp_all
    · intro k hk; (try dsimp only at hk); split at hk <;> simp_all
  have Key := Lib.hid key
  rw [hm]
  clear key
  go_enter Try.func16, Try.ntmps16
  go_wp2
  go_ret
  exact Key.out

theorem clo_pred (who : Int) (B : Nat) (w : World) (hB : B < w.heap.size) (hcell : w.cell? ⟨B, 0, none⟩ = some (.int .i64 who)) (W : World) (x : Int × Int) (hk : Keeps NoBlock w W) :
    Calls Try.prog 44 #[.agg #[.int .i64 x.1, .int .u64 x.2], .pointer (some ⟨B, 0, none⟩)] W fun e w' => e = .returned (.bool (x.1 == who)) ∧ Keeps NoBlock W w' := by
  have hc : W.cell? ⟨B, 0, none⟩ = some (.int .i64 who) := (hk.cell hB (fun h => h)).trans hcell
  have hBW : B < W.heap.size := Nat.lt_of_lt_of_le hB hk.size
  have hne : B ≠ W.heap.size := by omega
  go_enter Try.func44, Try.ntmps44
  go_wp2
  go_ret
  exact ⟨rfl, (Keeps.refl _ _).alloc _⟩

def waitsB (ps : List (Int × Int)) (gs : List Int) (who : Int) : Bool := (gs.any fun y => y == who) || (ps.any fun x => x.1 == who)

set_option maxHeartbeats 2000000 in
theorem waits_calls {col : Nat → Nat} (t : Nat) (room : Int) (ws : List Int) (ps : List (Int × Int)) (gs : List Int) (who : Int) (w : World) (h : TubeAt col w t room ws ps gs) :
    Calls Try.prog 33 #[.pointer (some ⟨t, 0, none⟩), .int .i64 who] w fun e w' => e = .returned (.bool (waitsB ps gs who)) ∧ Keeps NoBlock w w' := by
  obtain ⟨A1, c1, A2, c2, A3, c3, h⟩ := h
  have ht := lt_of_block h.head
  have hne : t ≠ w.heap.size := by omega
  have q2 := cell_of_block h.head (o := 2) rfl
  have q3 := cell_of_block h.head (o := 3) rfl
  have Hh := Lib.hid h
  obtain ⟨w1, hw1⟩ : ∃ w1, Hid (w1 = (w.alloc (.cells #[.int .i64 who] 3)).drew) := ⟨_, rfl⟩
  have k1 : Keeps NoBlock w w1 := by rw [hw1.out]; exact ((Keeps.refl _ _).alloc _).drew
  have h1 := Lib.hid (h.keeps k1 (fun _ _ h => h))
  have b1 : w1.heap[w.heap.size]? = some (.cells #[.int .i64 who] 3 (0, 0)) := by rw [hw1.out]; exact block_alloc_new _ _
  have hB := Lib.hid (lt_of_block b1)
  have cB := Lib.hid (cell_of_block b1 (o := 0) rfl)
  have K1 := Lib.hid k1
  have HO3 := h1.out.o3
  have HO2 := h1.out.o2
  rw [hw1.out] at HO3 HO2 hB cB k1
  have ho3 := Lib.hid HO3
  have ho2 := Lib.hid HO2
  have hl2 : ps.length ≤ 1000000 := by have := h1.out.len; omega
  have hl3 : gs.length ≤ 1000000 := by have := h1.out.len; omega
  have kk := Lib.hid k1
  have hcl : ∀ (W : World) (x : Int × Int), Keeps NoBlock (w.alloc (.cells #[.int .i64 who] 3)).drew W → Calls Try.prog 44 #[.agg #[.int .i64 x.1, .int .u64 x.2], .pointer (some ⟨w.heap.size, 0, none⟩)] W fun e w' => e = .returned (.bool (x.1 == who)) ∧ Keeps NoBlock W w' :=
    fun W x hk => clo_pred who w.heap.size _ hB.out cB.out W x hk
  have Hcl := Lib.hid hcl
  clear h b1 HO3 HO2 k1 hcl
  cases hg : gs.any fun y => y == who with
  | true =>
    have Hg := Lib.hid hg
    have Hq : Hid (∀ n, Calls Try.prog 42 #[.slice A3 gs.length c3, .int .i64 who] ((w.alloc (.cells #[.int .i64 who] 3)).drewN n) fun e w' => e = .returned (.bool true) ∧ w' = (w.alloc (.cells #[.int .i64 who] 3)).drewN n) := fun n =>
      (has_calls who _ gs _ (Hh.out.o3.keeps (S := NoBlock) (((Keeps.refl _ _).alloc _).drewN n) (fun _ _ h => h)) hl3).mono (fun e w' hh => ⟨by rw [hh.1, hg], hh.2.symm⟩)
    clear hg
    go_enter Try.func33, Try.ntmps33
    go_wp2_with fail
    go_quiet ((go_at_call 42; exact Calls.quiet_of_same (Hq.out _)))
    go_wp2_with fail
    go_ret
    exact ⟨by unfold waitsB; rw [Hg.out]; rfl, ((Keeps.refl _ _).alloc _).drewN _⟩
  | false =>
    have Hg := Lib.hid hg
    clear hg
    go_enter Try.func33, Try.ntmps33
    go_wp2_with fail
    go_region_with ((first | (go_at_call 42; refine (has_calls who _ gs _ ho3.out hl3).mono ?_; rintro e w2 ⟨rfl, rfl⟩; rw [Hg.out]) | (go_at_call 43; refine (cntP_calls (fun x => x.1 == who) w.heap.size _ ps _ ho2.out hl2 Hcl.out).mono ?_; rintro e w2 ⟨rfl, hk2⟩)))
    all_goals
      go_wp2_with fail
      go_ret
      exact ⟨by unfold waitsB; rw [Hg.out]; rfl, kk.out.trans hk2 (fun _ _ h => h)⟩
end Tb
end Go.Proofs.Ytgepedfipfobjaa
