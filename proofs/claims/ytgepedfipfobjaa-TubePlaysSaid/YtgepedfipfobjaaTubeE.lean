/- Package tube: someone gets a word. -/
import Derived.Test.YtgepedfipfobjaaTubeD
namespace Go.Proofs.Ytgepedfipfobjaa
open Go.RowKit
namespace Tb

theorem Next.trans {c0 c1 c2 : Nat → Nat} {w w1 w2 : World} (h : Next c0 c1 w w1) (k : Next c1 c2 w1 w2) : Next c0 c2 w w2 :=
  ⟨h.1.trans k.1 (fun j hj hh => by rw [h.2 j hj] at hh; exact hh), fun j hj => by rw [k.2 j (Nat.lt_of_lt_of_le hj h.1.size), h.2 j hj]⟩
theorem Next.behind {c0 c1 : Nat → Nat} {w w1 w2 : World} (h : Keeps NoBlock w w1) (k : Next c0 c1 w1 w2) : Next c0 c1 w w2 :=
  ⟨(h.mono (fun _ _ hh => hh.elim)).trans k.1 (fun _ _ hh => hh), fun j hj => k.2 j (Nat.lt_of_lt_of_le hj h.size)⟩

abbrev get4 (x : Int) (a : Bool) (b : Int) (c : Bool) : Ending := .returned (.tuple #[.int .u64 x, .bool a, .int .i64 b, .bool c])

theorem get_nil (who : Int) (w : World) : Calls Try.prog 18 #[.pointer none, .int .i64 who] w fun e w' => e = get4 0 false 0 false ∧ w = w' := by
  unfold get4
  go_enter Try.func18, Try.ntmps18
  go_wp2
  refine bodyPost_ret (v := .tuple #[.int .u64 0, .bool false, .int .i64 0, .bool false]) (by simp [results, Try.results18, go_sem]) rfl ?_
  exact ⟨rfl, rfl⟩

theorem get_wait {col : Nat → Nat} (t : Nat) (room : Int) (ws : List Int) (ps : List (Int × Int)) (gs : List Int) (who : Int) (w : World) (h : TubeAt col w t room ws ps gs) (hw : waitsB ps gs who = true) :
    Calls Try.prog 18 #[.pointer (some ⟨t, 0, none⟩), .int .i64 who] w fun e w' => e = get4 0 false 0 false ∧ Keeps NoBlock w w' := by
  have Hw := Lib.hid hw
  have hwt := Lib.hid (waits_calls t room ws ps gs who w h)
  clear hw h
  unfold get4
  go_enter Try.func18, Try.ntmps18
  go_wp2_with fail
  refine hwt.out.mono ?_
  rintro e w1 ⟨rfl, k1⟩
  rw [Hw.out]
  go_wp2_with fail
  refine bodyPost_ret (v := .tuple #[.int .u64 0, .bool false, .int .i64 0, .bool false]) (by simp [results, Try.results18, go_sem]) rfl ?_
  exact ⟨rfl, k1⟩

set_option maxHeartbeats 1000000 in
theorem get_empty {col : Nat → Nat} (t : Nat) (room : Int) (ps : List (Int × Int)) (gs : List Int) (who : Int) (w : World) (h : TubeAt col w t room [] ps gs) (hw : waitsB ps gs who = false) (hr : gs.length < 1000) :
    Calls Try.prog 18 #[.pointer (some ⟨t, 0, none⟩), .int .i64 who] w (Step col w t room [] ps (gs ++ [who]) (get4 0 false 0 false)) := by
  have Hw := Lib.hid hw
  have hwt := Lib.hid (waits_calls t room [] ps gs who w h)
  have Hh := Lib.hid h
  clear hw h
  go_enter Try.func18, Try.ntmps18
  go_wp2_with fail
  refine hwt.out.mono ?_
  rintro e w1 ⟨rfl, k1⟩
  rw [Hw.out]
  obtain ⟨A1, c1, A2, c2, A3, c3, h1⟩ := Hh.out.keeps k1 (fun _ _ h => h)
  have q0 := cell_of_block h1.head (o := 0) rfl
  have q1 := cell_of_block h1.head (o := 1) rfl
  have q2 := cell_of_block h1.head (o := 2) rfl
  have q3 := cell_of_block h1.head (o := 3) rfl
  have ht := lt_of_block h1.head
  have hl := h1.len
  have H1 := Lib.hid h1
  have hnb : Hid ((Value.slice A3 gs.length c3).ownBlock ≠ some t) := fun e => by have := H1.out.k3 t e; rw [H1.out.ct] at this; exact absurd this (by decide)
  clear h1
  obtain ⟨w2, rfl⟩ : ∃ w2 : World, w2 = w1 := ⟨_, rfl⟩
  have k12 : Keeps NoBlock w2 w2 := Keeps.refl _ _
  have H2 := Lib.hid (H1.out.keeps k12 (fun _ _ h => h))
  have K2 := Lib.hid (k1.trans k12 (fun _ _ h => h))
  have hd2 := H2.out.head
  have r1 := cell_of_block hd2 (o := 3) rfl
  have rf := frozen_of_block (o := 3) hd2
  have ho := Lib.hid H2.out.o3
  have ht2 := lt_of_block hd2
  have hap : Hid (∀ (w3 : World) (g c : Nat), Own w3 3 1 (.slice (some ⟨g, 0, none⟩) (gs.length + 1) c) (gs.length + 1) (gs.map (Value.int .i64) ++ [.int .i64 who]) → World.grownBy (w2.alloc (.cells #[.int .i64 who] 3)) w3 (Value.slice A3 gs.length c3).ownBlock →
      ((Value.slice A3 gs.length c3).ownBlock = some g ∨ w2.heap.size + 1 ≤ g) → w3.cell? ⟨t, 3, none⟩ = some (.slice A3 gs.length c3) ∧ w3.frozen? ⟨t, 3, none⟩ = false ∧ Step col w t room [] ps (gs ++ [who]) (get4 0 false 0 false) (get4 0 false 0 false) (w3.setCell ⟨t, 3, none⟩ (.slice (some ⟨g, 0, none⟩) (gs.length + 1) c))) := by
    intro w3 g c ho3 hg3 hf3
    have hb3 := blk_grown hg3 hnb.out (block_alloc_old (o' := .cells #[.int .i64 who] 3) H2.out.head)
    refine ⟨cell_of_block hb3 rfl, frozen_of_block hb3, ?_⟩
    have hlen1 : (gs ++ [who]).length = gs.length + 1 := by simp
    have hset := H2.out.set3 (xs := gs ++ [who]) (A := some ⟨g, 0, none⟩) (c := c) (w4 := w3.setCell ⟨t, 3, none⟩ (.slice (some ⟨g, 0, none⟩) (gs.length + 1) c)) (by rw [hlen1]; exact block_set hb3 _)
      (by rw [hlen1, show (gs ++ [who]).map (Value.int .i64) = gs.map (Value.int .i64) ++ [.int .i64 who] by simp]; exact ho3.keeps ((Keeps.refl (fun k => k = t) w3).set (.inl rfl) _) (fun b hb hbt => by
          simp only [Value.ownBlock, Option.some.injEq] at hb; subst hb
          rcases hf3 with h | h
          · exact hnb.out (by rw [h, hbt])
          · omega))
      ((((Keeps.refl _ w2).alloc _).grown hg3 (fun k hk => .inl (.inr hk))).set (.inl (.inl rfl)) _) (fun k hk => by
          simp only [Value.ownBlock, Option.some.injEq] at hk; subst hk
          rcases hf3 with h | h
          · exact .inl h
          · exact .inr (by omega)) (by rw [hlen1]; omega)
    exact ⟨_, rfl, hset.1, (K2.out.mono (fun _ _ h => h.elim)).trans hset.2.1 (fun _ _ h => h), fun k hk => hset.2.2 k (Nat.lt_of_lt_of_le hk K2.out.size)⟩
  clear hd2
  go_wp2_with (at_builtin; refine wpList_appN eI _ rfl _ _ rfl (.slice A3 gs.length c3) gs.length _ rfl (World.ownsRow.alloc ho.out _) ⟨w2.heap.size, 0, none⟩ 1 1 [.int .i64 who] rfl rfl (newsB (e := 3) (block_alloc_new w2 _)) ?_ ?_ ?_ ?_)
  · simp [Value.oneCell']
  · simp only [maxLen]; omega
  · omega
  rintro v3 w3 ho3 hg3 hf3 g c rfl
  have hh := hap.out w3 g c ho3 hg3 (hf3 g rfl)
  obtain ⟨z1, z2, hst⟩ := hh
  have Hst := Lib.hid hst
  clear hst ho3 hg3 hf3
  go_wp2_with fail
  refine bodyPost_ret (v := .tuple #[.int .u64 0, .bool false, .int .i64 0, .bool false]) (by simp [results, Try.results18, go_sem]) rfl ?_
  exact Hst.out

set_option maxHeartbeats 1000000 in
theorem get_plain {col : Nat → Nat} (t : Nat) (room : Int) (x : Int) (ws : List Int) (gs : List Int) (who : Int) (w : World) (h : TubeAt col w t room (x :: ws) [] gs) (hw : waitsB [] gs who = false) :
    Calls Try.prog 18 #[.pointer (some ⟨t, 0, none⟩), .int .i64 who] w (Step col w t room ws [] gs (get4 x true 0 false)) := by
  have Hw := Lib.hid hw
  have hwt := Lib.hid (waits_calls t room (x :: ws) [] gs who w h)
  have Hh := Lib.hid h
  clear hw h
  go_enter Try.func18, Try.ntmps18
  go_wp2_with fail
  refine hwt.out.mono ?_
  rintro e w1 ⟨rfl, k1⟩
  rw [Hw.out]
  obtain ⟨A1, c1, A2, c2, A3, c3, h1⟩ := Hh.out.keeps k1 (fun _ _ h => h)
  obtain ⟨b1, rfl⟩ : ∃ b1, A1 = some ⟨b1, 0, none⟩ := by
    rcases Own.form h1.o1 with ⟨_, h0⟩ | ⟨b, c, h0, _⟩
    · simp at h0
    · cases h0; exact ⟨b, rfl⟩
  have hl := h1.len
  simp only [List.length_cons] at hl
  obtain ⟨n, hn⟩ : ∃ n, Hid (ws.length = n) := ⟨_, rfl⟩
  have hne : t ≠ b1 := fun e => by have h2 := h1.k1 b1 rfl; rw [← e, h1.ct] at h2; exact absurd h2 (by decide)
  have hhead := h1.head
  have ho1 := h1.o1
  simp only [List.length_cons] at hhead ho1
  rw [hn.out] at hhead ho1 hl
  have hcell := cell_of_block hhead (o := 1) rfl
  have hf := Lib.hid (firstW_calls t 1 b1 c1 n _ _ x ws w1 hhead rfl hn.out ho1 hne (by omega))
  have H1 := Lib.hid h1
  clear hhead ho1 h1
  go_wp2_with fail
  refine hf.out.mono ?_
  rintro e w2 ⟨rfl, hb2, ho2, hk2⟩
  rw [← hn.out] at hb2 ho2
  have hset := H1.out.set1 (xs := ws) hb2 ho2 (hk2.mono (fun k _ h => by rcases h with h | h; exact .inl h; exact .inr (by rw [h]; rfl))) (fun k hk => .inl hk) (by rw [hn.out]; omega)
  have Hset := Lib.hid hset
  have hz2 := cell_of_block hb2 (o := 2) rfl
  clear hset hb2 ho2 hk2
  go_wp2_with fail
  refine bodyPost_ret (v := .tuple #[.int .u64 x, .bool true, .int .i64 0, .bool false]) (by simp [results, Try.results18, go_sem]) rfl ?_
  exact ⟨_, rfl, Hset.out.1, (k1.mono (fun _ _ h => h.elim)).trans (Hset.out.2.1) (fun _ _ h => h), fun k hk => Hset.out.2.2 k (Nat.lt_of_lt_of_le hk k1.size)⟩

set_option maxHeartbeats 2000000 in
theorem get_move {col : Nat → Nat} (t : Nat) (room : Int) (x : Int) (ws : List Int) (p : Int × Int) (ps : List (Int × Int)) (gs : List Int) (who : Int) (w : World) (h : TubeAt col w t room (x :: ws) (p :: ps) gs) (hw : waitsB (p :: ps) gs who = false) :
    Calls Try.prog 18 #[.pointer (some ⟨t, 0, none⟩), .int .i64 who] w (Step col w t room (ws ++ [p.2]) ps gs (get4 x true p.1 true)) := by
  have Hw := Lib.hid hw
  have hwt := Lib.hid (waits_calls t room (x :: ws) (p :: ps) gs who w h)
  have Hh := Lib.hid h
  clear hw h
  go_enter Try.func18, Try.ntmps18
  go_wp2_with fail
  refine hwt.out.mono ?_
  rintro e w1 ⟨rfl, k1⟩
  rw [Hw.out]
  obtain ⟨A1, c1, A2, c2, A3, c3, h1⟩ := Hh.out.keeps k1 (fun _ _ h => h)
  obtain ⟨b1, rfl⟩ : ∃ b1, A1 = some ⟨b1, 0, none⟩ := by
    rcases Own.form h1.o1 with ⟨_, h0⟩ | ⟨b, c, h0, _⟩
    · simp at h0
    · cases h0; exact ⟨b, rfl⟩
  have hl := h1.len
  simp only [List.length_cons] at hl
  obtain ⟨n, hn⟩ : ∃ n, Hid (ws.length = n) := ⟨_, rfl⟩
  have hne : t ≠ b1 := fun e => by have h2 := h1.k1 b1 rfl; rw [← e, h1.ct] at h2; exact absurd h2 (by decide)
  have hhead := h1.head
  have ho1 := h1.o1
  simp only [List.length_cons] at hhead ho1
  rw [hn.out] at hhead ho1 hl
  have hcell := cell_of_block hhead (o := 1) rfl
  have hf := Lib.hid (firstW_calls t 1 b1 c1 n _ _ x ws w1 hhead rfl hn.out ho1 hne (by omega))
  have H1 := Lib.hid h1
  clear hhead ho1 h1
  go_wp2_with fail
  refine hf.out.mono ?_
  rintro e w2 ⟨rfl, hb2, ho2, hk2⟩
  rw [← hn.out] at hb2 ho2
  have hset := H1.out.set1 (xs := ws) hb2 ho2 (hk2.mono (fun k _ h => by rcases h with h | h; exact .inl h; exact .inr (by rw [h]; rfl))) (fun k hk => .inl hk) (by rw [hn.out]; omega)
  obtain ⟨hat2, hnx2⟩ := hset
  obtain ⟨A1', c1', A2', c2', A3', c3', h2⟩ := hat2
  obtain ⟨b2, rfl⟩ : ∃ b2, A2' = some ⟨b2, 0, none⟩ := by
    rcases Own.form h2.o2 with ⟨_, h0⟩ | ⟨b, c, h0, _⟩
    · simp at h0
    · cases h0; exact ⟨b, rfl⟩
  have hl2 := h2.len
  simp only [List.length_cons] at hl2
  obtain ⟨m, hm⟩ : ∃ m, Hid (ps.length = m) := ⟨_, rfl⟩
  have hne2 : t ≠ b2 := fun e => by have h3 := h2.k2 b2 rfl; rw [← e, h2.ct] at h3; exact absurd h3 (by decide)
  have hhead2 := h2.head
  have hop2 := h2.o2
  simp only [List.length_cons] at hhead2 hop2
  rw [hm.out] at hhead2 hop2 hl2
  have hcell2 := cell_of_block hhead2 (o := 2) rfl
  have hf2 := Lib.hid (firstP_calls t 2 b2 c2' m _ _ p ps w2 hhead2 rfl hm.out hop2 hne2 (by omega))
  have H2 := Lib.hid h2
  have Hnx2 := Lib.hid hnx2
  clear hhead2 hop2 h2 hnx2 hb2 ho2 hk2 hcell
  have hm0 : (((m : Int) + 1) == 0) = false := beq_eq_false_iff_ne.2 (by omega)
  go_wp2_with fail
  refine hf2.out.mono ?_
  rintro e w3 ⟨rfl, hb3, ho3, hk3⟩
  rw [← hm.out] at hb3 ho3
  have hset := H2.out.set2 (xs := ps) hb3 ho3 (hk3.mono (fun k _ h => by rcases h with h | h; exact .inl h; exact .inr (by rw [h]; rfl))) (fun k hk => .inl hk) (by rw [hm.out]; omega)
  obtain ⟨hat3, hnx3⟩ := hset
  have k13 := Next.behind k1 (Hnx2.out.trans hnx3)
  generalize paint (paint col _ 2) _ 3 = col3 at hat3 k13
  have K13 := Lib.hid k13
  have b4 := block_alloc_new w3 (.cells #[.int .i64 p.1, .int .u64 p.2] 78)
  have k34 : Keeps NoBlock w3 (w3.alloc (.cells #[.int .i64 p.1, .int .u64 p.2] 78)) := (Keeps.refl _ _).alloc _
  obtain ⟨w4, hw4⟩ : ∃ w4, Hid (w3.alloc (.cells #[.int .i64 p.1, .int .u64 p.2] 78) = w4) := ⟨_, rfl⟩
  rw [hw4.out] at b4 k34
  obtain ⟨B1, d1, B2, d2, B3, d3, h4⟩ := hat3.keeps k34 (fun _ _ h => h)
  have K04 := Lib.hid (Next.trans (c1 := col3) (c2 := col3) k13 ⟨k34.mono (fun _ _ h => h.elim), fun _ _ => rfl⟩)
  have hhd := h4.head
  have hlen4 := h4.len
  have r1 := cell_of_block hhd (o := 1) rfl
  have rf := frozen_of_block (o := 1) hhd
  have p0 := cell_of_block b4 (o := 0) rfl
  have p1 := cell_of_block b4 (o := 1) rfl
  have ht4 := lt_of_block hhd
  have hp4 := lt_of_block b4
  have ho := Lib.hid h4.o1
  have H4 := Lib.hid h4
  have hnb : Hid ((Value.slice B1 ws.length d1).ownBlock ≠ some t) := fun e => by have := H4.out.k1 t e; rw [H4.out.ct] at this; exact absurd this (by decide)
  have hnp : Hid ((Value.slice B1 ws.length d1).ownBlock ≠ some w3.heap.size) := fun e => by
    have h5 := H4.out.k1 _ e
    have := hat3.flt w3.heap.size (by rw [h5]; decide)
    omega
  have B4 := Lib.hid b4
  have hap : Hid (∀ (w5 : World) (g c : Nat), Own w5 27 1 (.slice (some ⟨g, 0, none⟩) (ws.length + 1) c) (ws.length + 1) (ws.map (Value.int .u64) ++ [.int .u64 p.2]) → World.grownBy (w4.alloc (.cells #[.int .u64 p.2] 27)).drew w5 (Value.slice B1 ws.length d1).ownBlock →
      ((Value.slice B1 ws.length d1).ownBlock = some g ∨ (w4.alloc (.cells #[.int .u64 p.2] 27)).drew.heap.size ≤ g) → w5.cell? ⟨t, 1, none⟩ = some (.slice B1 ws.length d1) ∧ w5.frozen? ⟨t, 1, none⟩ = false ∧ w5.cell? ⟨w3.heap.size, 0, none⟩ = some (.int .i64 p.1) ∧ t ≠ w3.heap.size ∧
      (∀ w6, Keeps NoBlock (w5.setCell ⟨t, 1, none⟩ (.slice (some ⟨g, 0, none⟩) (ws.length + 1) c)) w6 → Step col w t room (ws ++ [p.2]) ps gs (get4 x true p.1 true) (get4 x true p.1 true) w6)) := by
    intro w5 g c ho5 hg5 hf5
    simp only [World.size_alloc, World.size_drew] at hf5
    have hb5 := blk_grown hg5 hnb.out (blk_drew (block_alloc_old (o' := .cells #[.int .u64 p.2] 27) H4.out.head))
    have hp5 := blk_grown hg5 hnp.out (blk_drew (block_alloc_old (o' := .cells #[.int .u64 p.2] 27) B4.out))
    have htp : t ≠ w3.heap.size := by
      have := hat3.flt t (by rw [H4.out.ct]; decide)
      omega
    refine ⟨cell_of_block hb5 rfl, frozen_of_block hb5, cell_of_block hp5 rfl, htp, fun w6 k6 => ?_⟩
    have hlen1 : (ws ++ [p.2]).length = ws.length + 1 := by simp
    have hset := H4.out.set1 (xs := ws ++ [p.2]) (A := some ⟨g, 0, none⟩) (c := c) (w4 := w5.setCell ⟨t, 1, none⟩ (.slice (some ⟨g, 0, none⟩) (ws.length + 1) c)) (by rw [hlen1]; exact block_set hb5 _)
      (by rw [hlen1, show (ws ++ [p.2]).map (Value.int .u64) = ws.map (Value.int .u64) ++ [.int .u64 p.2] by simp]; exact ho5.keeps ((Keeps.refl (fun k => k = t) w5).set (.inl rfl) _) (fun b hb hbt => by
          simp only [Value.ownBlock, Option.some.injEq] at hb; subst hb
          rcases hf5 with h | h
          · exact hnb.out (by rw [h, hbt])
          · have := lt_of_block H4.out.head; omega))
      ((((Keeps.refl _ w4).alloc _).drew.grown hg5 (fun k hk => .inl (.inr hk))).set (.inl (.inl rfl)) _) (fun k hk => by
          simp only [Value.ownBlock, Option.some.injEq] at hk; subst hk
          rcases hf5 with h | h
          · exact .inl h
          · exact .inr (by omega)) (by rw [hlen1, hn.out]; omega)
    exact ⟨_, rfl, hset.1.keeps k6 (fun _ _ h => h), (K04.out.trans hset.2).trans (c2 := _) ⟨k6.mono (fun _ _ h => h.elim), fun _ _ => rfl⟩⟩
  clear hat3 k13 hhd h4 b4 k34 hb3 ho3 hk3 hcell2
  go_wp2_with fail
  rw [hw4.out]
  go_region_law
    (first
      | (refine step_app (P := Try.prog) eW ?_ (.tmp 54) (.tmp 57) ?_ (.slice B1 ws.length d1) ws.length (ws.map (Value.int .u64)) ?_ ?_ ⟨w4.heap.size, 0, none⟩ 1 1 [.int .u64 p.2] ?_ ?_ (newsB (e := 27) ?_) ?_ ?_ ?_ ?_
         · rfl
         · rfl
         · rfl
         · repeat (first | exact ho.out | with_reducible refine World.ownsRow.alloc ?_ _ | with_reducible refine World.ownsRow.drew ?_)
         · rfl
         · rfl
         · repeat (first | (refine blk_new ?_; (simp; done)) | with_reducible refine block_alloc_old ?_ | with_reducible refine blk_drew ?_)
         · simp [Value.oneCell']
         · simp only [maxLen]; omega
         · omega
         intro v5 w5 ho5 hg5 hf5 hs5
         obtain ⟨g5, c5, rfl⟩ := hs5 (by decide)
         obtain ⟨z1, z2, z3, z4, hst⟩ := hap.out w5 g5 c5 ho5 hg5 (hf5 g5 rfl)
         have Hst := Lib.hid hst
         clear hs5 hf5 ho5 hg5 hst)
      | fail)
  all_goals
    go_wp2_with fail
    go_quiet (fail)
    go_wp2_with fail
    refine bodyPost_ret (v := .tuple #[.int .u64 x, .bool true, .int .i64 p.1, .bool true]) (by simp [results, Try.results18, go_sem]) rfl ?_
    exact Hst.out _ ((Keeps.refl _ _).drewN _)
end Tb
end Go.Proofs.Ytgepedfipfobjaa
