/- Package tube: someone puts a word. -/
import Derived.Test.YtgepedfipfobjaaTubeC
namespace Go.Proofs.Ytgepedfipfobjaa
open Go.RowKit
namespace Tb

abbrev put3 (a : Bool) (b : Int) (c : Bool) : Ending := .returned (.tuple #[.bool a, .int .i64 b, .bool c])

def Step (col : Nat → Nat) (w : World) (t : Nat) (room : Int) (ws : List Int) (ps : List (Int × Int)) (gs : List Int) (r : Ending) (e : Ending) (w' : World) : Prop :=
  ∃ col', e = r ∧ TubeAt col' w' t room ws ps gs ∧ Next col col' w w'

theorem put_nil (who x : Int) (w : World) : Calls Try.prog 20 #[.pointer none, .int .i64 who, .int .u64 x] w fun e w' => e = put3 false 0 false ∧ w = w' := by
  unfold put3
  go_enter Try.func20, Try.ntmps20
  go_wp2
  go_ret3
  exact ⟨rfl, rfl⟩

theorem put_wait {col : Nat → Nat} (t : Nat) (room : Int) (ws : List Int) (ps : List (Int × Int)) (gs : List Int) (who x : Int) (w : World) (h : TubeAt col w t room ws ps gs) (hw : waitsB ps gs who = true) :
    Calls Try.prog 20 #[.pointer (some ⟨t, 0, none⟩), .int .i64 who, .int .u64 x] w fun e w' => e = put3 false 0 false ∧ Keeps NoBlock w w' := by
  have Hw := Lib.hid hw
  have hwt := Lib.hid (waits_calls t room ws ps gs who w h)
  clear hw h
  unfold put3
  go_enter Try.func20, Try.ntmps20
  go_wp2_with fail
  refine hwt.out.mono ?_
  rintro e w1 ⟨rfl, k1⟩
  rw [Hw.out]
  go_wp2_with fail
  go_ret3
  exact ⟨rfl, k1⟩

set_option maxHeartbeats 1000000 in
theorem put_give {col : Nat → Nat} (t : Nat) (room : Int) (ws : List Int) (ps : List (Int × Int)) (g : Int) (gs : List Int) (who x : Int) (w : World) (h : TubeAt col w t room ws ps (g :: gs)) (hw : waitsB ps (g :: gs) who = false) :
    Calls Try.prog 20 #[.pointer (some ⟨t, 0, none⟩), .int .i64 who, .int .u64 x] w (Step col w t room ws ps gs (put3 true g true)) := by
  have Hw := Lib.hid hw
  have hwt := Lib.hid (waits_calls t room ws ps (g :: gs) who w h)
  have Hh := Lib.hid h
  clear hw h
  go_enter Try.func20, Try.ntmps20
  go_wp2_with fail
  refine hwt.out.mono ?_
  rintro e w1 ⟨rfl, k1⟩
  rw [Hw.out]
  have h1 := Hh.out.keeps k1 (fun _ _ h => h)
  obtain ⟨A1, c1, A2, c2, A3, c3, h1⟩ := h1
  obtain ⟨b3, rfl⟩ : ∃ b3, A3 = some ⟨b3, 0, none⟩ := by
    rcases Own.form h1.o3 with ⟨_, h0⟩ | ⟨b, c, h0, _⟩
    · simp at h0
    · cases h0; exact ⟨b, rfl⟩
  have hl := h1.len
  simp only [List.length_cons] at hl
  obtain ⟨n, hn⟩ : ∃ n, Hid (gs.length = n) := ⟨_, rfl⟩
  have hne : t ≠ b3 := fun e => by have h2 := h1.k3 b3 rfl; rw [← e, h1.ct] at h2; exact absurd h2 (by decide)
  have hhead := h1.head
  have ho3 := h1.o3
  simp only [List.length_cons] at hhead ho3
  rw [hn.out] at hhead ho3 hl
  have hcell := cell_of_block hhead (o := 3) rfl
  have hf := Lib.hid (firstI_calls t 3 b3 c3 n _ _ g gs w1 hhead rfl hn.out ho3 hne (by omega))
  have H1 := Lib.hid h1
  clear hhead ho3 h1
  go_wp2_with fail
  refine hf.out.mono ?_
  rintro e w2 ⟨rfl, hb2, ho2, hk2⟩
  rw [← hn.out] at hb2 ho2
  have hset := H1.out.set3 (xs := gs) hb2 ho2 (hk2.mono (fun k _ h => by rcases h with h | h; exact .inl h; exact .inr (by rw [h]; rfl))) (fun k hk => .inl hk) (by rw [hn.out]; omega)
  have Hset := Lib.hid hset
  clear hset hb2 ho2 hk2
  go_wp2_with fail
  go_ret3
  exact ⟨_, rfl, Hset.out.1, (k1.mono (fun _ _ h => h.elim)).trans (Hset.out.2.1) (fun _ _ h => h), fun k hk => Hset.out.2.2 k (Nat.lt_of_lt_of_le hk k1.size)⟩

set_option maxHeartbeats 1000000 in
theorem put_room {col : Nat → Nat} (t : Nat) (room : Int) (ws : List Int) (ps : List (Int × Int)) (who x : Int) (w : World) (h : TubeAt col w t room ws ps []) (hw : waitsB ps [] who = false) (hr : (ws.length : Int) < room) (hr' : room ≤ 8) :
    Calls Try.prog 20 #[.pointer (some ⟨t, 0, none⟩), .int .i64 who, .int .u64 x] w (Step col w t room (ws ++ [x]) ps [] (put3 true 0 false)) := by
  have Hw := Lib.hid hw
  have hwt := Lib.hid (waits_calls t room ws ps [] who w h)
  have Hh := Lib.hid h
  clear hw h
  go_enter Try.func20, Try.ntmps20
  go_wp2_with fail
  refine hwt.out.mono ?_
  rintro e w1 ⟨rfl, k1⟩
  rw [Hw.out]
  obtain ⟨A1, c1, A2, c2, A3, c3, h1⟩ := Hh.out.keeps k1 (fun _ _ h => h)
  have q0 := cell_of_block h1.head (o := 0) rfl
  have q1 := cell_of_block h1.head (o := 1) rfl
  have q2 := cell_of_block h1.head (o := 2) rfl
  have q3 := cell_of_block h1.head (o := 3) rfl
  have ht := lt_of_block h1.head
  have hl := h1.len
  have hd : decide ((ws.length : Int) < room) = true := by simp; omega
  have H1 := Lib.hid h1
  have hnb : Hid ((Value.slice A1 ws.length c1).ownBlock ≠ some t) := fun e => by have := H1.out.k1 t e; rw [H1.out.ct] at this; exact absurd this (by decide)
  clear h1
  go_wp2_with fail
  go_quiet (fail)
  generalize hW : World.drewN _ _ = w2
  have k12 : Keeps NoBlock w1 w2 := by rw [← hW]; exact (Keeps.refl _ _).drewN _
  have H2 := Lib.hid (H1.out.keeps k12 (fun _ _ h => h))
  have K2 := Lib.hid (k1.trans k12 (fun _ _ h => h))
  have hd2 := H2.out.head
  have r1 := cell_of_block hd2 (o := 1) rfl
  have rf := frozen_of_block (o := 1) hd2
  have ho := Lib.hid H2.out.o1
  have ht2 := lt_of_block hd2
  have hap : Hid (∀ (w3 : World) (g c : Nat), Own w3 27 1 (.slice (some ⟨g, 0, none⟩) (ws.length + 1) c) (ws.length + 1) (ws.map (Value.int .u64) ++ [.int .u64 x]) → World.grownBy (w2.alloc (.cells #[.int .u64 x] 27)) w3 (Value.slice A1 ws.length c1).ownBlock →
      ((Value.slice A1 ws.length c1).ownBlock = some g ∨ w2.heap.size + 1 ≤ g) → w3.cell? ⟨t, 1, none⟩ = some (.slice A1 ws.length c1) ∧ w3.frozen? ⟨t, 1, none⟩ = false ∧ Step col w t room (ws ++ [x]) ps [] (put3 true 0 false) (put3 true 0 false) (w3.setCell ⟨t, 1, none⟩ (.slice (some ⟨g, 0, none⟩) (ws.length + 1) c))) := by
    intro w3 g c ho3 hg3 hf3
    have hb3 := blk_grown hg3 hnb.out (block_alloc_old (o' := .cells #[.int .u64 x] 27) H2.out.head)
    refine ⟨cell_of_block hb3 rfl, frozen_of_block hb3, ?_⟩
    have hlen1 : (ws ++ [x]).length = ws.length + 1 := by simp
    have hset := H2.out.set1 (xs := ws ++ [x]) (A := some ⟨g, 0, none⟩) (c := c) (w4 := w3.setCell ⟨t, 1, none⟩ (.slice (some ⟨g, 0, none⟩) (ws.length + 1) c)) (by rw [hlen1]; exact block_set hb3 _)
      (by rw [hlen1, show (ws ++ [x]).map (Value.int .u64) = ws.map (Value.int .u64) ++ [.int .u64 x] by simp]; exact ho3.keeps ((Keeps.refl (fun k => k = t) w3).set (.inl rfl) _) (fun b hb hbt => by
          simp only [Value.ownBlock, Option.some.injEq] at hb; subst hb
          rcases hf3 with h | h
          · exact hnb.out (by rw [h, hbt])
          · omega))
      ((((Keeps.refl _ w2).alloc _).grown hg3 (fun k hk => .inl (.inr hk))).set (.inl (.inl rfl)) _) (fun k hk => by
          simp only [Value.ownBlock, Option.some.injEq] at hk; subst hk
          rcases hf3 with h | h
          · exact .inl h
          · exact .inr (by omega)) (by rw [hlen1]; omega)
    exact ⟨_, rfl, hset.1, (K2.out.mono (fun _ _ h => h.elim)).trans hset.2.1 (fun _ _ h => h), fun k hk => hset.2.2 k (Nat.lt_of_lt_of_le hk K2.out.size)⟩
  clear hd2 hW q0 q1 q2 q3
  go_wp2_with (at_builtin; refine wpList_appN eW _ rfl _ _ rfl (.slice A1 ws.length c1) ws.length _ rfl (World.ownsRow.alloc ho.out _) ⟨w2.heap.size, 0, none⟩ 1 1 [.int .u64 x] rfl rfl (newsB (e := 27) (block_alloc_new w2 _)) ?_ ?_ ?_ ?_)
  · simp [Value.oneCell']
  · simp only [maxLen]; omega
  · omega
  rintro v3 w3 ho3 hg3 hf3 g c rfl
  have hh := hap.out w3 g c ho3 hg3 (hf3 g rfl)
  obtain ⟨z1, z2, hst⟩ := hh
  have Hst := Lib.hid hst
  clear hst ho3 hg3 hf3
  go_wp2_with fail
  go_ret3
  exact Hst.out
set_option maxHeartbeats 1000000 in
theorem put_full {col : Nat → Nat} (t : Nat) (room : Int) (ws : List Int) (ps : List (Int × Int)) (who x : Int) (w : World) (h : TubeAt col w t room ws ps []) (hw : waitsB ps [] who = false) (hr : room ≤ (ws.length : Int)) (hr' : ps.length < 1000) :
    Calls Try.prog 20 #[.pointer (some ⟨t, 0, none⟩), .int .i64 who, .int .u64 x] w (Step col w t room ws (ps ++ [(who, x)]) [] (put3 false 0 false)) := by
  have Hw := Lib.hid hw
  have hwt := Lib.hid (waits_calls t room ws ps [] who w h)
  have Hh := Lib.hid h
  clear hw h
  go_enter Try.func20, Try.ntmps20
  go_wp2_with fail
  refine hwt.out.mono ?_
  rintro e w1 ⟨rfl, k1⟩
  rw [Hw.out]
  obtain ⟨A1, c1, A2, c2, A3, c3, h1⟩ := Hh.out.keeps k1 (fun _ _ h => h)
  have q0 := cell_of_block h1.head (o := 0) rfl
  have q1 := cell_of_block h1.head (o := 1) rfl
  have q2 := cell_of_block h1.head (o := 2) rfl
  have q3 := cell_of_block h1.head (o := 3) rfl
  have ht := lt_of_block h1.head
  have hl := h1.len
  have hd : decide ((ws.length : Int) < room) = false := by simp; omega
  have H1 := Lib.hid h1
  have hnb : Hid ((Value.slice A2 ps.length c2).ownBlock ≠ some t) := fun e => by have := H1.out.k2 t e; rw [H1.out.ct] at this; exact absurd this (by decide)
  clear h1
  go_wp2_with fail
  go_quiet (fail)
  generalize hW : World.drewN _ _ = w2
  have k12 : Keeps NoBlock w1 w2 := by rw [← hW]; exact (Keeps.refl _ _).drewN _
  have H2 := Lib.hid (H1.out.keeps k12 (fun _ _ h => h))
  have K2 := Lib.hid (k1.trans k12 (fun _ _ h => h))
  have hd2 := H2.out.head
  have r1 := cell_of_block hd2 (o := 2) rfl
  have rf := frozen_of_block (o := 2) hd2
  have ho := Lib.hid H2.out.o2
  have ht2 := lt_of_block hd2
  have hap : Hid (∀ (w3 : World) (g c : Nat), Own w3 78 2 (.slice (some ⟨g, 0, none⟩) (ps.length + 1) c) (ps.length + 1) (ps.flatMap encP ++ [.int .i64 who, .int .u64 x]) → World.grownBy (w2.alloc (.cells #[.int .i64 who, .int .u64 x] 78)) w3 (Value.slice A2 ps.length c2).ownBlock →
      ((Value.slice A2 ps.length c2).ownBlock = some g ∨ w2.heap.size + 1 ≤ g) → w3.cell? ⟨t, 2, none⟩ = some (.slice A2 ps.length c2) ∧ w3.frozen? ⟨t, 2, none⟩ = false ∧ Step col w t room ws (ps ++ [(who, x)]) [] (put3 false 0 false) (put3 false 0 false) (w3.setCell ⟨t, 2, none⟩ (.slice (some ⟨g, 0, none⟩) (ps.length + 1) c))) := by
    intro w3 g c ho3 hg3 hf3
    have hb3 := blk_grown hg3 hnb.out (block_alloc_old (o' := .cells #[.int .i64 who, .int .u64 x] 78) H2.out.head)
    refine ⟨cell_of_block hb3 rfl, frozen_of_block hb3, ?_⟩
    have hlen1 : (ps ++ [(who, x)]).length = ps.length + 1 := by simp
    have hset := H2.out.set2 (xs := ps ++ [(who, x)]) (A := some ⟨g, 0, none⟩) (c := c) (w4 := w3.setCell ⟨t, 2, none⟩ (.slice (some ⟨g, 0, none⟩) (ps.length + 1) c)) (by rw [hlen1]; exact block_set hb3 _)
      (by rw [hlen1, show (ps ++ [(who, x)]).flatMap encP = ps.flatMap encP ++ [.int .i64 who, .int .u64 x] by simp [encP]]; exact ho3.keeps ((Keeps.refl (fun k => k = t) w3).set (.inl rfl) _) (fun b hb hbt => by
          simp only [Value.ownBlock, Option.some.injEq] at hb; subst hb
          rcases hf3 with h | h
          · exact hnb.out (by rw [h, hbt])
          · omega))
      ((((Keeps.refl _ w2).alloc _).grown hg3 (fun k hk => .inl (.inr hk))).set (.inl (.inl rfl)) _) (fun k hk => by
          simp only [Value.ownBlock, Option.some.injEq] at hk; subst hk
          rcases hf3 with h | h
          · exact .inl h
          · exact .inr (by omega)) (by rw [hlen1]; omega)
    exact ⟨_, rfl, hset.1, (K2.out.mono (fun _ _ h => h.elim)).trans hset.2.1 (fun _ _ h => h), fun k hk => hset.2.2 k (Nat.lt_of_lt_of_le hk K2.out.size)⟩
  clear hd2 hW q0 q1 q2 q3
  go_wp2_with (at_builtin; refine wpList_appN eP _ rfl _ _ rfl (.slice A2 ps.length c2) ps.length _ rfl (World.ownsRow.alloc ho.out _) ⟨w2.heap.size, 0, none⟩ 1 1 [.int .i64 who, .int .u64 x] rfl rfl (newsB (e := 78) (block_alloc_new w2 _)) ?_ ?_ ?_ ?_)
  · simp [Value.oneCell']
  · simp only [maxLen]; omega
  · omega
  rintro v3 w3 ho3 hg3 hf3 g c rfl
  have hh := hap.out w3 g c ho3 hg3 (hf3 g rfl)
  obtain ⟨z1, z2, hst⟩ := hh
  have Hst := Lib.hid hst
  clear hst ho3 hg3 hf3
  go_wp2_with fail
  go_ret3
  exact Hst.out
end Tb
end Go.Proofs.Ytgepedfipfobjaa
