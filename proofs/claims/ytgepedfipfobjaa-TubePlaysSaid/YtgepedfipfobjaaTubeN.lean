/- TubePlays's walk. -/
import Derived.Test.YtgepedfipfobjaaTubeM
namespace Go.Proofs.Ytgepedfipfobjaa
open Go.RowKit
namespace Tb

def PlayInv (w : World) (t : Nat) (R : Int) (k : Nat) (v7 v8 v9 v10 : Value) (wr : World) : Prop :=
  ∃ (s : St) (A7 : Option Addr) (c7 : Nat) (A8 : Option Addr) (c8 : Nat) (A9 : Option Addr) (c9 : Nat) (A10 : Option Addr) (c10 : Nat), v7 = .slice A7 s.1.length c7 ∧ v8 = .slice A8 s.2.1.length c8 ∧ v9 = .slice A9 s.2.2.length c9 ∧ v10 = .slice A10 s.2.1.length c10 ∧
    EnvX w t R s v7 v8 v9 v10 s.1 (s.2.1.map (·.1)) s.2.2 (s.2.1.map (·.2)) wr ∧ s.2.1.length ≤ k ∧ s.2.2.length ≤ k

theorem play0 {w w1 : World} {t : Nat} {R : Int} {col : Nat → Nat} (T : TubeS col w1 t R ([], [], [])) (fr : Fresh w.heap.size col) (kp : Keeps NoBlock w w1) :
    PlayInv w t R 0 (.slice (some ⟨w1.heap.size, 0, none⟩) 0 0) (.slice (some ⟨w1.heap.size + 1, 0, none⟩) 0 0) (.slice (some ⟨w1.heap.size + 1 + 1, 0, none⟩) 0 0) (.slice (some ⟨w1.heap.size + 1 + 1 + 1, 0, none⟩) 0 0)
      ((((w1.alloc (.cells #[] 27)).alloc (.cells #[] 3)).alloc (.cells #[] 3)).alloc (.cells #[] 27)) := by
  have k4 : Keeps NoBlock w1 ((((w1.alloc (.cells #[] 27)).alloc (.cells #[] 3)).alloc (.cells #[] 3)).alloc (.cells #[] 27)) := ((((Keeps.refl _ _).alloc _).alloc _).alloc _).alloc _
  have lit : ∀ (W : World) (e : TypeId) (n : Nat), W.heap.size = n → Own (W.alloc (.cells #[] e)) e 1 (.slice (some ⟨n, 0, none⟩) 0 0) 0 [] := fun W e n hn => by
    rw [← hn]; exact World.ownsRow_lit (base := 0) (e := e) (size := 1) W #[] 0 (Nat.zero_le _) (by simp [maxLen]) (by simp)
  have hcz : ∀ k, w1.heap.size ≤ k → col k = 0 := fun k hk => by
    cases hc : col k with
    | zero => rfl
    | succ n => have := T.flt k (by rw [hc]; omega); omega
  have hws := kp.size
  refine ⟨([], [], []), _, _, _, _, _, _, _, _, rfl, rfl, rfl, rfl, ⟨fun k => if k = w1.heap.size then 1 else if k = w1.heap.size + 1 then 2 else if k = w1.heap.size + 1 + 1 then 3 else if k = w1.heap.size + 1 + 1 + 1 then 4 else 0, col, T.keeps k4 (fun _ _ h => h), ⟨?_, ?_⟩, ⟨?_, ?_⟩, ⟨?_, ?_⟩, ⟨?_, ?_⟩, ?_, ?_, ?_, fr, kp.trans k4 (fun _ _ h => h)⟩, Nat.le_refl _, Nat.le_refl _⟩
  · exact World.ownsRow.alloc (World.ownsRow.alloc (World.ownsRow.alloc (lit w1 _ _ rfl) _) _) _
  · intro b hb; simp [Value.ownBlock] at hb; subst hb; simp
  · exact World.ownsRow.alloc (World.ownsRow.alloc (lit _ _ _ (by simp)) _) _
  · intro b hb; simp only [Value.ownBlock, Option.some.injEq] at hb; subst hb; rw [if_neg (by omega), if_pos rfl]
  · exact World.ownsRow.alloc (lit _ _ _ (by simp)) _
  · intro b hb; simp only [Value.ownBlock, Option.some.injEq] at hb; subst hb; rw [if_neg (by omega), if_neg (by omega), if_pos rfl]
  · exact lit _ _ _ (by simp)
  · intro b hb; simp only [Value.ownBlock, Option.some.injEq] at hb; subst hb; rw [if_neg (by omega), if_neg (by omega), if_neg (by omega), if_pos rfl]
  · intro k hk
    (try dsimp only at hk)
    refine hcz k ?_
    by_cases h : w1.heap.size ≤ k
    · exact h
    · exfalso; apply hk; rw [if_neg (by omega), if_neg (by omega), if_neg (by omega), if_neg (by omega)]
  · intro k hk
    (try dsimp only at hk)
    simp only [World.size_alloc]
    by_cases h : k < w1.heap.size + 1 + 1 + 1 + 1
    · exact h
    · exfalso; apply hk; rw [if_neg (by omega), if_neg (by omega), if_neg (by omega), if_neg (by omega)]
  · intro k hk
    (try dsimp only at hk)
    by_cases h : w1.heap.size ≤ k
    · omega
    · exfalso; apply hk; rw [if_neg (by omega), if_neg (by omega), if_neg (by omega), if_neg (by omega)]

set_option maxHeartbeats 8000000 in
set_option maxRecDepth 100000 in
theorem plays_calls (sz : Int) (v : Value) (l : List Act) (w : World) (hv : Rd encA 3 w v l) (hl : l.length ≤ 1000000000000000) :
    Calls Try.prog 6 #[.int .i64 sz, v] w fun e w' => e = .returned (.bool true) ∧ Below w.heap.size w w' := by
  obtain ⟨A0, b0, off, cap0, rfl, hA, hc⟩ := hv
  have HA := Lib.hid hA
  have Hc := Lib.hid hc
  obtain ⟨len, hlen⟩ : ∃ len, Hid (l.length = len) := ⟨_, rfl⟩
  rw [hlen.out] at hl HA
  clear hc hA
  obtain ⟨R, hR⟩ : ∃ R : Nat, Hid (min (max sz 1) 8 = (R : Int)) := ⟨(min (max sz 1) 8).toNat, by show min (max sz 1) 8 = _; omega⟩
  have hR1 : 1 ≤ R ∧ R ≤ 8 := by have := hR.out; omega
  rw [show Value.slice A0 l.length cap0 = Value.slice A0 len cap0 by rw [hlen.out]]
  go_enter Try.func6, Try.ntmps6
  go_wp2_with fail
  refine (new_calls _ w).mono ?_
  rintro e w1 ⟨t, c1, rfl, T1, f1, k1⟩
  rw [hR.out] at T1
  obtain ⟨m, hm⟩ : ∃ m : Nat, max sz 1 = m := ⟨(max sz 1).toNat, by omega⟩
  go_upto_if 33 with fail
  go_cut [6] from 33 to 33 (fun v wx => v = .int .i64 m ∧ w1 = wx)
  case first =>
    by_cases h0 : sz < 1
    · have hz : Hid (m = 1) := by show m = 1; omega
      have hb : decide (sz < 1) = true := by simpa using h0
      clear hm
      go_wp2_with fail
      go_meet
      case rel => exact ⟨by rw [hz.out]; rfl, rfl⟩
    · have hz : Hid ((m : Int) = sz) := by show (m : Int) = sz; omega
      have hb : decide (sz < 1) = false := by simp; omega
      clear hm
      go_wp2_with fail
      go_meet
      case rel => exact ⟨by rw [hz.out], rfl⟩
  case rest =>
    obtain ⟨rfl, rfl⟩ := hcut
    have hmn : Hid ((R : Int) = min (m : Int) 8) := by rw [← hm]; exact hR.out.symm
    clear hm
    go_upto_if 35 with fail
    go_cut [6] from 35 to 35 (fun v wx => v = .int .i64 R ∧ w1 = wx)
    case first =>
      by_cases h1 : 8 < m
      · have hz : Hid (R = 8) := by have := hmn.out; show R = 8; omega
        go_wp2_with fail
        go_meet
        case rel => exact ⟨by rw [hz.out]; rfl, rfl⟩
      · have hz : Hid (R = m) := by have := hmn.out; show R = m; omega
        go_wp2_with fail
        go_meet
        case rel => exact ⟨by rw [hz.out], rfl⟩
    case rest =>
      obtain ⟨rfl, rfl⟩ := hcut
      have inv0 := play0 (R := R) T1 f1 k1
      clear T1 f1 k1
      go_wp2_with fail
      go_loopw [7, 8, 9, 10, 11] (fun v7 v8 v9 v10 i wr => ∃ k : Nat, k ≤ 80 ∧ k ≤ len ∧ i = .int .i64 k ∧ PlayInv w t R k v7 v8 v9 v10 wr) (fun _ _ _ _ i _ => 80 - (intOf i).toNat)
      case atStart => exact ⟨0, by omega, by omega, rfl, inv0⟩
      case round =>
        obtain ⟨k, hk, hkl, rfl, ⟨ws, ps, gs⟩, A7, c7, A8, c8, A9, c9, A10, c10, rfl, rfl, rfl, rfl, E, hps, hgs⟩ := hrel
        clear inv0
        simp only [] at hps hgs E
        have hkp : Keeps NoBlock w wr := by obtain ⟨_, _, E'⟩ := E; exact E'.kp
        have HE := Lib.hid E
        obtain ⟨m8, hm8⟩ : ∃ m8, Hid (ps.length = m8) := ⟨_, rfl⟩
        clear E
        by_cases hlt : k < len ∧ k < 80
        · obtain ⟨hlt, hlt8⟩ := hlt
          obtain ⟨a, ha⟩ : ∃ a, l[k]? = some a := ⟨_, List.getElem?_eq_getElem (by rw [hlen.out]; exact hlt)⟩
          obtain ⟨rfl, hb0⟩ := HA.out (by omega)
          have hcs := act_cells Hc.out ha
          rw [← hkp.cell hb0 (fun h => h), ← hkp.cell hb0 (fun h => h), ← hkp.cell hb0 (fun h => h)] at hcs
          obtain ⟨q0, q1, q2⟩ := hcs
          clear ha
          obtain ⟨g, who, x⟩ := a
          simp only [] at q0 q1 q2
          go_wp2_with fail
          go_quiet (fail)
          generalize hW : World.drewN _ _ = wq
          have kq : Keeps NoBlock wr wq := by rw [← hW]; exact (Keeps.refl _ _).drewN _
          have q0' : wq.cell? ⟨b0, off + k * 3, none⟩ = some (.bool g) := by rw [kq.cell (Nat.lt_of_lt_of_le hb0 hkp.size) (fun h => h)]; exact q0
          have EQ := Lib.hid (HE.out.keeps kq)
          have hkq := hkp.trans kq (fun _ _ h => h)
          clear hW kq q0 q1 q2
          have hbq : b0 < wq.heap.size := Nat.lt_of_lt_of_le hb0 hkq.size
          obtain ⟨wb, hwb⟩ : ∃ wb, Hid (waitsB ps gs who = wb) := ⟨_, rfl⟩
          go_upto_region 13 with fail
          go_cut [14] from 60 to 67 (fun v wx => v = .bool wb ∧ wq = wx)
          case first =>
            have r8 : ReadsI .i64 wq (.slice A8 ps.length c8) (ps.map (·.1)) := by obtain ⟨_, _, E'⟩ := EQ.out; exact Own.readsI E'.m8.own
            have r9 : ReadsI .i64 wq (.slice A9 gs.length c9) gs := by obtain ⟨_, _, E'⟩ := EQ.out; exact Own.readsI E'.m9.own
            have hP : (ps.any fun y => y.1 == who) = ((ps.map (·.1)).any fun y => y == who) := by rw [List.any_map]; rfl
            have i8 := Lib.hid (in_calls _ _ who wq r8 (by rw [List.length_map]; omega))
            have i9 := Lib.hid (in_calls _ _ who wq r9 (by omega))
            have HP := Lib.hid hP
            clear r8 r9 hP
            cases h8 : (ps.map (·.1)).any fun y => y == who with
            | true =>
              have Hw : Hid (wb = true) := by show wb = true; rw [← hwb.out]; unfold waitsB; rw [HP.out, h8, Bool.or_true]
              have H8 := Lib.hid h8
              clear h8
              go_wp2_with fail
              refine i8.out.mono ?_
              rintro e w2 ⟨rfl, rfl⟩
              rw [H8.out]
              go_wp2_with fail
              go_meet
              case rel => exact ⟨by rw [Hw.out], rfl⟩
            | false =>
              have Hw : Hid (wb = gs.any fun y => y == who) := by show wb = _; rw [← hwb.out]; unfold waitsB; rw [HP.out, h8, Bool.or_false]
              have H8 := Lib.hid h8
              clear h8
              go_wp2_with fail
              refine i8.out.mono ?_
              rintro e w2 ⟨rfl, rfl⟩
              rw [H8.out]
              go_wp2_with fail
              refine i9.out.mono ?_
              rintro e w2 ⟨rfl, rfl⟩
              rw [← Hw.out]
              go_wp2_with fail
              go_meet
              case rel => exact ⟨rfl, rfl⟩
          case rest =>
            obtain ⟨rfl, rfl⟩ := hcut
            obtain ⟨mc, col, E⟩ := EQ.out
            have hT := Lib.hid E.T
            have HEq := Lib.hid E
            have hsame : ∀ w3, Keeps NoBlock wq w3 → PlayInv w t R (k + 1) (.slice A7 ws.length c7) (.slice A8 ps.length c8) (.slice A9 gs.length c9) (.slice A10 ps.length c10) w3 := fun w3 k3 =>
              ⟨(ws, ps, gs), A7, c7, A8, c8, A9, c9, A10, c10, rfl, rfl, rfl, rfl, EQ.out.keeps k3, by simp only []; omega, by simp only []; omega⟩
            have Hsame := Lib.hid hsame
            clear E hsame
            cases g with
            | true =>
              cases wb with
              | true =>
                have hget := Lib.hid (get_wait t R ws ps gs who wq hT.out hwb.out)
                go_wp2_with fail
                refine hget.out.mono ?_
                rintro e w2 ⟨rfl, k2⟩
                go_wp2_with fail
                exact ⟨⟨k + 1, by omega, by omega, by go_num, Hsame.out _ k2⟩, by simp [intOf]; omega⟩
              | false =>
                cases ws with
                | nil =>
                  have hget := Lib.hid (get_empty t R ps gs who wq hT.out hwb.out (by omega))
                  go_wp2_with fail
                  refine hget.out.mono ?_
                  rintro e w2 ⟨col2, rfl, T2, n2⟩
                  have E2 : EnvX w t R ([], ps, gs ++ [who]) _ _ _ _ [] (ps.map (·.1)) gs (ps.map (·.2)) w2 := ⟨mc, col2, HEq.out.tube (s' := ([], ps, gs ++ [who])) T2 n2⟩
                  have o9 : Hid (Own w2 3 1 (.slice A9 gs.length c9) gs.length (gs.map (Value.int .i64))) := by obtain ⟨_, _, E'⟩ := E2; exact E'.m9.own
                  have HE2 := Lib.hid E2
                  clear E2 T2 n2
                  go_wp2_with (at_builtin; refine wpList_appN eI _ rfl _ _ rfl (.slice A9 gs.length c9) gs.length _ rfl (World.ownsRow.alloc o9.out _) ⟨w2.heap.size, 0, none⟩ 1 1 [.int .i64 who] rfl rfl (newsB (e := 3) (block_alloc_new w2 _)) ?_ ?_ ?_ ?_)
                  · simp [Value.oneCell']
                  · simp only [maxLen]; omega
                  · omega
                  rintro v3 w3 ho3 hg3 hf3 g3 c3 rfl
                  have E3 := HE2.out.app9 ((Keeps.refl _ _).alloc (.cells #[.int .i64 who] 3)) who _ rfl ho3 hg3 (by simpa using hf3)
                  have inv3 : PlayInv w t R (k + 1) (.slice A7 0 c7) (.slice A8 ps.length c8) (.slice (some ⟨g3, 0, none⟩) (gs.length + 1) c3) (.slice A10 ps.length c10) w3 :=
                    ⟨([], ps, gs ++ [who]), _, _, _, _, some ⟨g3, 0, none⟩, c3, _, _, rfl, rfl, by simp, rfl, E3, by simp only []; omega, by simp; omega⟩
                  clear E3 ho3 hg3 hf3
                  go_wp2_with fail
                  exact ⟨⟨k + 1, by omega, by omega, by go_num, inv3⟩, by simp [intOf]; omega⟩
                | cons y ws =>
                  obtain ⟨n, hn⟩ : ∃ n, Hid (ws.length = n) := ⟨_, rfl⟩
                  have hn8 : n < 8 := by have hl := hT.out; obtain ⟨_, _, _, _, _, _, hl⟩ := hl; have := hl.len; simp only [List.length_cons] at this; rw [hn.out] at this; omega
                  cases ps with
                  | nil =>
                    have hget := Lib.hid (get_plain t R y ws gs who wq hT.out hwb.out)
                    simp only [List.length_cons, List.length_nil]
                    rw [hn.out]
                    go_wp2_with fail
                    refine hget.out.mono ?_
                    rintro e w2 ⟨col2, rfl, T2, n2⟩
                    have E2 : EnvX w t R (ws, [], gs) _ _ _ _ (y :: ws) [] gs [] w2 := ⟨mc, col2, HEq.out.tube (s' := (ws, [], gs)) T2 n2⟩
                    have o7 : Own w2 27 1 (.slice A7 (n + 1) c7) (n + 1) (.int .u64 y :: ws.map (Value.int .u64)) := by
                      obtain ⟨_, _, E'⟩ := E2
                      have h := E'.m7.own
                      simp only [List.length_cons, List.map_cons] at h
                      rw [hn.out] at h
                      exact h
                    obtain ⟨g7, rfl⟩ : ∃ g7, A7 = some ⟨g7, 0, none⟩ := by
                      rcases Own.form o7 with ⟨h0, _⟩ | ⟨g', c', h0, _⟩
                      · cases h0
                      · cases h0; exact ⟨_, rfl⟩
                    have y0 : w2.cell? ⟨g7, 0, none⟩ = some (.int .u64 y) := by rw [World.ownsRow.cellAt o7 0 (by omega)]; rfl
                    obtain ⟨Ad, hAd, hcl⟩ := tail_addr o7
                    have hcn : n + 1 ≤ c7 := by
                      rcases Own.form o7 with ⟨h0, _⟩ | ⟨g', c', h0, _, h1, _⟩
                      · cases h0
                      · cases h0; exact h1
                    have ne0 : Hid (Own (w2.alloc (.cells #[] 27)) 27 1 (.slice (some ⟨w2.heap.size, 0, none⟩) 0 0) 0 []) := World.ownsRow_lit (base := 0) (e := 27) (size := 1) w2 #[] 0 (Nat.zero_le _) (by simp [maxLen]) (by simp)
                    have hcl2 := Lib.hid (hcl.out _ ((Keeps.refl NoBlock w2).alloc (.cells #[] 27)))
                    have hle : Hid ((ws.map (Value.int .u64)).length = n * 1) := by show (ws.map _).length = _; rw [List.length_map, hn.out, Nat.mul_one]
                    have HE2 := Lib.hid E2
                    clear E2 T2 n2 o7 hcl
                    go_wp2_with (at_builtin; refine wpList_appN eW _ rfl _ _ rfl (.slice (some ⟨w2.heap.size, 0, none⟩) 0 0) 0 [] rfl ne0.out Ad n (c7 - 1) _ rfl hle.out hcl2.out (ints_one .u64 ws) ?_ ?_ ?_)
                    · simp only [maxLen]; omega
                    · omega
                    intro v3 w3 ho3 hg3 hf3 _
                    obtain ⟨A3, c3, rfl⟩ := Own.isSlice ho3
                    have tn := tail_new hn.out rfl ho3 hg3 (by simpa using hf3)
                    have E3 := HE2.out.new7 (l' := ws) tn.1 tn.2.1 tn.2.2
                    have inv3 : PlayInv w t R (k + 1) (.slice A3 n c3) (.slice A8 0 c8) (.slice A9 gs.length c9) (.slice A10 0 c10) w3 :=
                      ⟨(ws, [], gs), A3, c3, _, _, _, _, _, _, by rw [hn.out], rfl, rfl, rfl, E3, by simp, by simp only []; omega⟩
                    clear E3 tn ho3 hg3 hf3
                    have hyy : (y != y) = false := by simp
                    go_wp2_with fail
                    exact ⟨⟨k + 1, by omega, by omega, by go_num, inv3⟩, by simp [intOf]; omega⟩
                  | cons p ps =>
                    obtain ⟨m, hm⟩ : ∃ m, Hid (ps.length = m) := ⟨_, rfl⟩
                    simp only [List.length_cons] at hps
                    rw [hm.out] at hps
                    have hget := Lib.hid (get_move t R y ws p ps gs who wq hT.out hwb.out)
                    simp only [List.length_cons]
                    rw [hn.out, hm.out]
                    go_wp2_with fail
                    refine hget.out.mono ?_
                    rintro e w2 ⟨col2, rfl, T2, n2⟩
                    have E2 : EnvX w t R (ws ++ [p.2], ps, gs) _ _ _ _ (y :: ws) (p.1 :: ps.map (·.1)) gs (p.2 :: ps.map (·.2)) w2 := ⟨mc, col2, HEq.out.tube (s' := (ws ++ [p.2], ps, gs)) T2 n2⟩
                    have o7 : Own w2 27 1 (.slice A7 (n + 1) c7) (n + 1) (.int .u64 y :: ws.map (Value.int .u64)) := by
                      obtain ⟨_, _, E'⟩ := E2
                      have h := E'.m7.own
                      simp only [List.length_cons, List.map_cons] at h
                      rw [hn.out] at h
                      exact h
                    obtain ⟨g7, rfl⟩ : ∃ g7, A7 = some ⟨g7, 0, none⟩ := by
                      rcases Own.form o7 with ⟨h0, _⟩ | ⟨g', c', h0, _⟩
                      · cases h0
                      · cases h0; exact ⟨_, rfl⟩
                    have y0 : w2.cell? ⟨g7, 0, none⟩ = some (.int .u64 y) := by rw [World.ownsRow.cellAt o7 0 (by omega)]; rfl
                    obtain ⟨Ad, hAd, hcl⟩ := tail_addr o7
                    have hcn : n + 1 ≤ c7 := by
                      rcases Own.form o7 with ⟨h0, _⟩ | ⟨g', c', h0, _, h1, _⟩
                      · cases h0
                      · cases h0; exact h1
                    have ne0 : Hid (Own (w2.alloc (.cells #[] 27)) 27 1 (.slice (some ⟨w2.heap.size, 0, none⟩) 0 0) 0 []) := World.ownsRow_lit (base := 0) (e := 27) (size := 1) w2 #[] 0 (Nat.zero_le _) (by simp [maxLen]) (by simp)
                    have hcl2 := Lib.hid (hcl.out _ ((Keeps.refl NoBlock w2).alloc (.cells #[] 27)))
                    have hle : Hid ((ws.map (Value.int .u64)).length = n * 1) := by show (ws.map _).length = _; rw [List.length_map, hn.out, Nat.mul_one]
                    have HE2 := Lib.hid E2
                    clear E2 T2 n2 o7 hcl
                    go_wp2_with (at_builtin; refine wpList_appN eW _ rfl _ _ rfl (.slice (some ⟨w2.heap.size, 0, none⟩) 0 0) 0 [] rfl ne0.out Ad n (c7 - 1) _ rfl hle.out hcl2.out (ints_one .u64 ws) ?_ ?_ ?_)
                    · simp only [maxLen]; omega
                    · omega
                    intro v3 w3 ho3 hg3 hf3 _
                    obtain ⟨A3, c3, rfl⟩ := Own.isSlice ho3
                    have tn := tail_new hn.out rfl ho3 hg3 (by simpa using hf3)
                    have E3 := HE2.out.new7 (l' := ws) tn.1 tn.2.1 tn.2.2
                    have o8 : Own w3 3 1 (.slice A8 (m + 1) c8) (m + 1) ((p.1 :: ps.map (·.1)).map (Value.int .i64)) := by
                      obtain ⟨_, _, E'⟩ := E3
                      have h := E'.m8.own
                      simp only [List.length_cons, List.length_map] at h
                      rw [hm.out] at h
                      exact h
                    obtain ⟨g8, rfl⟩ : ∃ g8, A8 = some ⟨g8, 0, none⟩ := by
                      rcases Own.form o8 with ⟨h0, _⟩ | ⟨g', c', h0, _⟩
                      · cases h0
                      · cases h0; exact ⟨_, rfl⟩
                    have o10 : Own w3 27 1 (.slice A10 (m + 1) c10) (m + 1) (.int .u64 p.2 :: (ps.map (·.2)).map (Value.int .u64)) := by
                      obtain ⟨_, _, E'⟩ := E3
                      have h := E'.m10.own
                      simp only [List.length_cons, List.length_map, List.map_cons] at h
                      rw [hm.out] at h
                      exact h
                    obtain ⟨g10, rfl⟩ : ∃ g10, A10 = some ⟨g10, 0, none⟩ := by
                      rcases Own.form o10 with ⟨h0, _⟩ | ⟨g', c', h0, _⟩
                      · cases h0
                      · cases h0; exact ⟨_, rfl⟩
                    have p0 : w3.cell? ⟨g8, 0, none⟩ = some (.int .i64 p.1) := by rw [World.ownsRow.cellAt o8 0 (by omega)]; rfl
                    have x0 : w3.cell? ⟨g10, 0, none⟩ = some (.int .u64 p.2) := by rw [World.ownsRow.cellAt o10 0 (by omega)]; rfl
                    have O7 : Hid (Own w3 27 1 (.slice A3 n c3) n (ws.map (Value.int .u64))) := by have h := tn.1; rw [hn.out] at h; exact h
                    have HE3 := Lib.hid E3
                    clear E3 tn ho3 hg3 hf3 o8 o10 hAd y0
                    go_wp2_with (at_builtin; refine wpList_appN eW _ rfl _ _ rfl (.slice A3 n c3) n _ rfl (World.ownsRow.alloc O7.out _) ⟨w3.heap.size, 0, none⟩ 1 1 [.int .u64 p.2] rfl rfl (newsB (e := 27) (block_alloc_new w3 _)) ?_ ?_ ?_ ?_)
                    · simp [Value.oneCell']
                    · simp only [maxLen]; omega
                    · omega
                    rintro v4 w4 ho4 hg4 hf4 g4 c4 rfl
                    have E4 := HE3.out.app7 ((Keeps.refl _ _).alloc (.cells #[.int .u64 p.2] 27)) p.2 n hn.out ho4 hg4 (by simpa using hf4)
                    have o8 : Own w4 3 1 (.slice (some ⟨g8, 0, none⟩) (m + 1) c8) (m + 1) ((p.1 :: ps.map (·.1)).map (Value.int .i64)) := by
                      obtain ⟨_, _, E'⟩ := E4
                      have h := E'.m8.own
                      simp only [List.length_cons, List.length_map] at h
                      rw [hm.out] at h
                      exact h
                    have hwo := Lib.hid (without_calls g8 (m + 1) c8 0 (p.1 :: ps.map (·.1)) w4 (by simp [hm.out]) o8 (by omega) (by omega))
                    have HE4 := Lib.hid E4
                    clear E4 ho4 hg4 hf4 o8 p0 x0
                    go_wp2_with fail
                    refine hwo.out.mono ?_
                    rintro e w5 ⟨A5, c5, rfl, ho5, hf5, k5⟩
                    have hl5 : (ps.map (·.1)).length = m := by rw [List.length_map, hm.out]
                    have E5 := HE4.out.new8 (l' := ps.map (·.1)) (v' := .slice A5 m c5) (by rw [hl5]; exact ho5) k5 hf5
                    have o10 : Own w5 27 1 (.slice (some ⟨g10, 0, none⟩) (m + 1) c10) (m + 1) (.int .u64 p.2 :: (ps.map (·.2)).map (Value.int .u64)) := by
                      obtain ⟨_, _, E'⟩ := E5
                      have h := E'.m10.own
                      simp only [List.length_cons, List.length_map, List.map_cons] at h
                      rw [hm.out] at h
                      exact h
                    obtain ⟨Ae, hAe, hce⟩ := tail_addr o10
                    have hcn10 : m + 1 ≤ c10 := by
                      rcases Own.form o10 with ⟨h0, _⟩ | ⟨g', c', h0, _, h1, _⟩
                      · cases h0
                      · cases h0; exact h1
                    have ne5 : Hid (Own (w5.alloc (.cells #[] 27)) 27 1 (.slice (some ⟨w5.heap.size, 0, none⟩) 0 0) 0 []) := World.ownsRow_lit (base := 0) (e := 27) (size := 1) w5 #[] 0 (Nat.zero_le _) (by simp [maxLen]) (by simp)
                    have hce2 := Lib.hid (hce.out _ ((Keeps.refl NoBlock w5).alloc (.cells #[] 27)))
                    have hle5 : Hid (((ps.map (·.2)).map (Value.int .u64)).length = m * 1) := by show (List.map _ _).length = _; rw [List.length_map, List.length_map, hm.out, Nat.mul_one]
                    have HE5 := Lib.hid E5
                    clear E5 ho5 hf5 k5 o10 hce
                    go_wp2_with (at_builtin; refine wpList_appN eW _ rfl _ _ rfl (.slice (some ⟨w5.heap.size, 0, none⟩) 0 0) 0 [] rfl ne5.out Ae m (c10 - 1) _ rfl hle5.out hce2.out (ints_one .u64 (ps.map (·.2))) ?_ ?_ ?_)
                    · simp only [maxLen]; omega
                    · omega
                    intro v6 w6 ho6 hg6 hf6 _
                    obtain ⟨A6, c6, rfl⟩ := Own.isSlice ho6
                    have tn := tail_new (xs := ps.map (·.2)) (by rw [List.length_map, hm.out]) rfl (by simpa using ho6) hg6 (by simpa using hf6)
                    have E6 := HE5.out.new10 (l' := ps.map (·.2)) tn.1 tn.2.1 tn.2.2
                    have inv3 : PlayInv w t R (k + 1) (.slice (some ⟨g4, 0, none⟩) (n + 1) c4) (.slice A5 m c5) (.slice A9 gs.length c9) (.slice A6 m c6) w6 :=
                      ⟨(ws ++ [p.2], ps, gs), some ⟨g4, 0, none⟩, c4, A5, c5, A9, c9, A6, c6, by simp [hn.out], by rw [hm.out], rfl, by rw [hm.out], E6, by simp only []; rw [hm.out]; omega, by simp only []; omega⟩
                    clear E6 tn ho6 hg6 hf6 hAe
                    have hyy : (y != y) = false := by simp
                    have hpp : (p.1 != p.1) = false := by simp
                    go_wp2_with fail
                    exact ⟨⟨k + 1, by omega, by omega, by go_num, inv3⟩, by simp [intOf]; omega⟩
            | false =>
              cases wb with
              | true =>
                have hput := Lib.hid (put_wait t R ws ps gs who x wq hT.out hwb.out)
                go_wp2_with fail
                refine hput.out.mono ?_
                rintro e w2 ⟨rfl, k2⟩
                go_wp2_with fail
                exact ⟨⟨k + 1, by omega, by omega, by go_num, Hsame.out _ k2⟩, by simp [intOf]; omega⟩
              | false =>
                cases gs with
                | cons g gs =>
                  obtain ⟨m, hm⟩ : ∃ m, Hid (gs.length = m) := ⟨_, rfl⟩
                  simp only [List.length_cons] at hgs
                  rw [hm.out] at hgs
                  have hput := Lib.hid (put_give t R ws ps g gs who x wq hT.out hwb.out)
                  simp only [List.length_cons]
                  rw [hm.out]
                  go_wp2_with fail
                  refine hput.out.mono ?_
                  rintro e w2 ⟨col2, rfl, T2, n2⟩
                  have E2 : EnvX w t R (ws, ps, gs) _ _ _ _ ws (ps.map (·.1)) (g :: gs) (ps.map (·.2)) w2 := ⟨mc, col2, HEq.out.tube (s' := (ws, ps, gs)) T2 n2⟩
                  have o9 : Own w2 3 1 (.slice A9 (m + 1) c9) (m + 1) ((g :: gs).map (Value.int .i64)) := by
                    obtain ⟨_, _, E'⟩ := E2
                    have h := E'.m9.own
                    simp only [List.length_cons] at h
                    rw [hm.out] at h
                    exact h
                  obtain ⟨g9, rfl⟩ : ∃ g9, A9 = some ⟨g9, 0, none⟩ := by
                    rcases Own.form o9 with ⟨h0, _⟩ | ⟨g', c', h0, _⟩
                    · cases h0
                    · cases h0; exact ⟨_, rfl⟩
                  have y0 : w2.cell? ⟨g9, 0, none⟩ = some (.int .i64 g) := by rw [World.ownsRow.cellAt o9 0 (by omega)]; rfl
                  have HE2 := Lib.hid E2
                  clear E2 T2 n2 o9
                  go_wp2_with fail
                  go_quiet (fail)
                  generalize hW : World.drewN _ _ = w3
                  have k3 : Keeps NoBlock w2 w3 := by rw [← hW]; exact (Keeps.refl _ _).drewN _
                  have E3 := HE2.out.keeps k3
                  have o9 : Own w3 3 1 (.slice (some ⟨g9, 0, none⟩) (m + 1) c9) (m + 1) ((g :: gs).map (Value.int .i64)) := by
                    obtain ⟨_, _, E'⟩ := E3
                    have h := E'.m9.own
                    simp only [List.length_cons] at h
                    rw [hm.out] at h
                    exact h
                  have hwo := Lib.hid (without_calls g9 (m + 1) c9 0 (g :: gs) w3 (by simp [hm.out]) o9 (by omega) (by omega))
                  have HE3 := Lib.hid E3
                  clear E3 o9 hW k3 y0
                  go_wp2_with fail
                  refine hwo.out.mono ?_
                  rintro e w5 ⟨A5, c5, rfl, ho5, hf5, k5⟩
                  have E5 := HE3.out.new9 (l' := gs) (v' := .slice A5 m c5) (by rw [hm.out]; exact ho5) k5 hf5
                  have inv3 : PlayInv w t R (k + 1) (.slice A7 ws.length c7) (.slice A8 ps.length c8) (.slice A5 m c5) (.slice A10 ps.length c10) w5 :=
                    ⟨(ws, ps, gs), A7, c7, A8, c8, A5, c5, A10, c10, rfl, rfl, by rw [hm.out], rfl, E5, by simp only []; omega, by simp only []; rw [hm.out]; omega⟩
                  clear E5 ho5 hf5 k5
                  have hgg : (g != g) = false := by simp
                  go_wp2_with fail
                  exact ⟨⟨k + 1, by omega, by omega, by go_num, inv3⟩, by simp [intOf]; omega⟩
                | nil =>
                  have hlen := (by have hl := hT.out; obtain ⟨_, _, _, _, _, _, hl⟩ := hl; exact hl.len.1 : ws.length ≤ 8)
                  by_cases hroom : ws.length < R
                  · have hput := Lib.hid (put_room t R ws ps who x wq hT.out hwb.out (by omega) (by omega))
                    have hd : decide (ws.length < R) = true := by simpa using hroom
                    go_wp2_with fail
                    refine hput.out.mono ?_
                    rintro e w2 ⟨col2, rfl, T2, n2⟩
                    have E2 : EnvX w t R (ws ++ [x], ps, []) _ _ _ _ ws (ps.map (·.1)) [] (ps.map (·.2)) w2 := ⟨mc, col2, HEq.out.tube (s' := (ws ++ [x], ps, [])) T2 n2⟩
                    have o7 : Hid (Own w2 27 1 (.slice A7 ws.length c7) ws.length (ws.map (Value.int .u64))) := by obtain ⟨_, _, E'⟩ := E2; exact E'.m7.own
                    have HE2 := Lib.hid E2
                    clear E2 T2 n2
                    go_wp2_with (at_builtin; refine wpList_appN eW _ rfl _ _ rfl (.slice A7 ws.length c7) ws.length _ rfl (World.ownsRow.alloc o7.out _) ⟨w2.heap.size, 0, none⟩ 1 1 [.int .u64 x] rfl rfl (newsB (e := 27) (block_alloc_new w2 _)) ?_ ?_ ?_ ?_)
                    · simp [Value.oneCell']
                    · simp only [maxLen]; omega
                    · omega
                    rintro v4 w4 ho4 hg4 hf4 g4 c4 rfl
                    have E4 := HE2.out.app7 ((Keeps.refl _ _).alloc (.cells #[.int .u64 x] 27)) x _ rfl ho4 hg4 (by simpa using hf4)
                    have inv3 : PlayInv w t R (k + 1) (.slice (some ⟨g4, 0, none⟩) (ws.length + 1) c4) (.slice A8 ps.length c8) (.slice A9 0 c9) (.slice A10 ps.length c10) w4 :=
                      ⟨(ws ++ [x], ps, []), some ⟨g4, 0, none⟩, c4, A8, c8, A9, c9, A10, c10, by simp, rfl, rfl, rfl, E4, by simp only []; omega, by simp⟩
                    clear E4 ho4 hg4 hf4
                    go_wp2_with fail
                    exact ⟨⟨k + 1, by omega, by omega, by go_num, inv3⟩, by simp [intOf]; omega⟩
                  · have hput := Lib.hid (put_full t R ws ps who x wq hT.out hwb.out (by omega) (by omega))
                    have hd : decide (ws.length < R) = false := by simpa using hroom
                    have hroom' : R ≤ ws.length := by omega
                    clear hroom
                    go_wp2_with fail
                    refine hput.out.mono ?_
                    rintro e w2 ⟨col2, rfl, T2, n2⟩
                    have E2 : EnvX w t R (ws, ps ++ [(who, x)], []) _ _ _ _ ws (ps.map (·.1)) [] (ps.map (·.2)) w2 := ⟨mc, col2, HEq.out.tube (s' := (ws, ps ++ [(who, x)], [])) T2 n2⟩
                    have o8 : Hid (Own w2 3 1 (.slice A8 ps.length c8) ps.length ((ps.map (·.1)).map (Value.int .i64))) := by obtain ⟨_, _, E'⟩ := E2; have h := E'.m8.own; rw [List.length_map] at h; exact h
                    have HE2 := Lib.hid E2
                    clear E2 T2 n2
                    go_wp2_with (at_builtin; refine wpList_appN eI _ rfl _ _ rfl (.slice A8 ps.length c8) ps.length _ rfl (World.ownsRow.alloc o8.out _) ⟨w2.heap.size, 0, none⟩ 1 1 [.int .i64 who] rfl rfl (newsB (e := 3) (block_alloc_new w2 _)) ?_ ?_ ?_ ?_)
                    · simp [Value.oneCell']
                    · simp only [maxLen]; omega
                    · omega
                    rintro v4 w4 ho4 hg4 hf4 g4 c4 rfl
                    have E4 := HE2.out.app8 ((Keeps.refl _ _).alloc (.cells #[.int .i64 who] 3)) who ps.length (by rw [List.length_map]) (by simpa using ho4) hg4 (by simpa using hf4)
                    have o10 : Hid (Own w4 27 1 (.slice A10 ps.length c10) ps.length ((ps.map (·.2)).map (Value.int .u64))) := by obtain ⟨_, _, E'⟩ := E4; have h := E'.m10.own; rw [List.length_map] at h; exact h
                    have HE4 := Lib.hid E4
                    clear E4 ho4 hg4 hf4
                    go_wp2_with (at_builtin; refine wpList_appN eW _ rfl _ _ rfl (.slice A10 ps.length c10) ps.length _ rfl (World.ownsRow.alloc o10.out _) ⟨w4.heap.size, 0, none⟩ 1 1 [.int .u64 x] rfl rfl (newsB (e := 27) (block_alloc_new w4 _)) ?_ ?_ ?_ ?_)
                    · simp [Value.oneCell']
                    · simp only [maxLen]; omega
                    · omega
                    rintro v5 w5 ho5 hg5 hf5 g5 c5 rfl
                    have E5 := HE4.out.app10 ((Keeps.refl _ _).alloc (.cells #[.int .u64 x] 27)) x ps.length (by rw [List.length_map]) (by simpa using ho5) hg5 (by simpa using hf5)
                    have inv3 : PlayInv w t R (k + 1) (.slice A7 ws.length c7) (.slice (some ⟨g4, 0, none⟩) (ps.length + 1) c4) (.slice A9 0 c9) (.slice (some ⟨g5, 0, none⟩) (ps.length + 1) c5) w5 :=
                      ⟨(ws, ps ++ [(who, x)], []), A7, c7, some ⟨g4, 0, none⟩, c4, A9, c9, some ⟨g5, 0, none⟩, c5, rfl, by simp, rfl, by simp, by simpa using E5, by simp; omega, by simp⟩
                    clear E5 ho5 hg5 hf5
                    go_wp2_with fail
                    exact ⟨⟨k + 1, by omega, by omega, by go_num, inv3⟩, by simp [intOf]; omega⟩
        · have hend : (k : Int) < len → (80 : Int) ≤ k := by omega
          have Hend := Lib.hid hend
          clear hend hlt
          go_upto_region 10 with fail
          go_cut [47] from 40 to 46 (fun v wx => v = .bool false ∧ wr = wx)
          case first =>
            by_cases h1 : k < len
            · have h2 : 80 ≤ (k : Int) := Hend.out (by omega)
              go_wp2_with fail
              go_meet
              case rel => exact ⟨by rw [decide_eq_false (by omega)], rfl⟩
            · have h2 : (len : Int) ≤ k := by omega
              clear h1
              go_wp2_with fail
              go_meet
              case rel => exact ⟨rfl, rfl⟩
          case rest =>
            obtain ⟨rfl, rfl⟩ := hcut
            have hl8 : ws.length ≤ 8 := by obtain ⟨_, _, E'⟩ := HE.out; obtain ⟨_, _, _, _, _, _, hl⟩ := E'.T; exact hl.len.1
            go_wp2_with fail
            refine (awake07_calls _).mono ?_
            rintro e w2 ⟨rfl, k2⟩
            have E2 := HE.out.keeps k2
            obtain ⟨mc, col, E2'⟩ := E2
            have T2 := Lib.hid E2'.T
            have E2 : Hid (EnvX w t R (ws, ps, gs) _ _ _ _ ws (ps.map (·.1)) gs (ps.map (·.2)) w2) := ⟨mc, col, E2'⟩
            clear E2' k2
            go_wp2_with fail
            refine (Words_calls (col := col) t R ws ps gs _ T2.out).mono ?_
            rintro e w3 ⟨B3, d3, rfl, r3, _, k3⟩
            have T3 := Lib.hid (T2.out.keeps k3 (fun _ _ h => h))
            have E3 := Lib.hid (E2.out.keeps k3)
            have r3' : ReadsI .u64 w3 (.slice A7 ws.length c7) ws := by obtain ⟨_, _, E'⟩ := E3.out; exact Own.readsI E'.m7.own
            have hw3 := Lib.hid (words_calls _ _ ws ws w3 r3 r3' (by omega) (by omega))
            clear r3 r3' k3
            go_wp2_with fail
            refine hw3.out.mono ?_
            rintro e w4 ⟨rfl, k4⟩
            rw [decide_eq_true rfl]
            have T4 := Lib.hid (T3.out.keeps k4 (fun _ _ h => h))
            have E4 := Lib.hid (E3.out.keeps k4)
            clear k4
            go_wp2_with fail
            refine (putters_calls (col := col) t R ws ps gs _ T4.out).mono ?_
            rintro e w5 ⟨B5, d5, rfl, r5, _, k5⟩
            have T5 := Lib.hid (T4.out.keeps k5 (fun _ _ h => h))
            have E5 := Lib.hid (E4.out.keeps k5)
            have r5' : ReadsI .i64 w5 (.slice A8 ps.length c8) (ps.map (·.1)) := by obtain ⟨_, _, E'⟩ := E5.out; exact Own.readsI E'.m8.own
            have hw5 := Lib.hid (ints_calls _ _ (ps.map (·.1)) (ps.map (·.1)) w5 r5 r5' (by rw [List.length_map]; omega) (by rw [List.length_map]; omega))
            simp only [List.length_map] at hw5 ⊢
            clear r5 r5' k5
            go_wp2_with fail
            refine hw5.out.mono ?_
            rintro e w6 ⟨rfl, k6⟩
            rw [decide_eq_true rfl]
            have T6 := Lib.hid (T5.out.keeps k6 (fun _ _ h => h))
            have E6 := Lib.hid (E5.out.keeps k6)
            clear k6
            go_wp2_with fail
            refine (Getters_calls (col := col) t R ws ps gs _ T6.out).mono ?_
            rintro e w7 ⟨B7, d7, rfl, r7, _, k7⟩
            have E7 := Lib.hid (E6.out.keeps k7)
            have r7' : ReadsI .i64 w7 (.slice A9 gs.length c9) gs := by obtain ⟨_, _, E'⟩ := E7.out; exact Own.readsI E'.m9.own
            have hw7 := Lib.hid (ints_calls _ _ gs gs w7 r7 r7' (by omega) (by omega))
            clear r7 r7' k7
            go_wp2_with fail
            refine hw7.out.mono ?_
            rintro e w8 ⟨rfl, k8⟩
            rw [decide_eq_true rfl]
            have k08 : Keeps NoBlock w w8 := by obtain ⟨_, _, E'⟩ := E7.out; exact E'.kp.trans k8 (fun _ _ h => h)
            go_wp2_with fail
            go_ret
            exact ⟨rfl, k08.below (Nat.le_refl _) (fun _ h => h.elim)⟩

theorem plays_row (w : World) (s : Int) (_hs : (Lit.int .i64 s).wf = true) (v : Value) (l : List Act) (h : ActsAt w v l) :
    Calls Try.prog 6 #[.int .i64 s, v] w fun e w' => e = .returned (.bool true) ∧ Below w.heap.size w w' := plays_calls s v l w h.1 h.2
end Tb
end Go.Proofs.Ytgepedfipfobjaa
