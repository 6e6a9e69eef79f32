/- EventLeft: looked at again and again all that was taken away within a section comes out, in order. -/
import Derived.Test.YtpchhlhjmkkoiaaEvF
namespace Go.Proofs.Ytpchhlhjmkkoiaa
open Go.RowKit

theorem Rd.keeps1 {α : Type} {f : α → List Value} {s : Nat} {w w' : World} {v : Value} {xs : List α} {S : Nat → Prop} (h : Rd f s w v xs) (kp : Keeps S w w') (hn : 0 < xs.length → ∀ b, v.ownBlock = some b → ¬ S b) : Rd f s w' v xs := by
  obtain ⟨A, b, off, cap, rfl, h1, h2⟩ := h
  refine ⟨A, b, off, cap, rfl, fun hp => ⟨(h1 hp).1, Nat.lt_of_lt_of_le (h1 hp).2 kp.size⟩, fun j x i u hx hu => ?_⟩
  have hj : j < xs.length := (List.getElem?_eq_some_iff.1 hx).1
  obtain ⟨rfl, hb⟩ := h1 (by omega)
  rw [kp.cell hb (hn (by omega) b rfl)]
  exact h2 j x i u hx hu

theorem filter_erase {α : Type} (p : α → Bool) : ∀ (xs : List α) (k : Nat) (x : α), xs[k]? = some x → p x = true → (∀ (j : Nat) (y : α), j < k → xs[j]? = some y → p y = false) → xs.filter p = x :: (xs.eraseIdx k).filter p
  | [], k, x, h, _, _ => by simp at h
  | a :: l, 0, x, h, hp, _ => by
    simp only [List.getElem?_cons_zero, Option.some.injEq] at h
    subst h
    rw [List.eraseIdx_zero, List.tail_cons, List.filter_cons_of_pos hp]
  | a :: l, k + 1, x, h, hp, hb => by
    have ha : p a = false := hb 0 a (by omega) rfl
    rw [List.eraseIdx_cons_succ, List.filter_cons_of_neg (by rw [ha]; simp), List.filter_cons_of_neg (by rw [ha]; simp)]
    exact filter_erase p l k x (by simpa using h) hp (fun j y hj hy => hb (j + 1) y (by omega) (by simpa using hy))

theorem filter_none {α : Type} (p : α → Bool) (xs : List α) (h : ∀ (j : Nat) (y : α), xs[j]? = some y → p y = false) : xs.filter p = [] := by
  rw [List.filter_eq_nil_iff]
  intro y hy
  obtain ⟨j, hj, he⟩ := List.getElem_of_mem hy
  rw [h j y (by rw [List.getElem?_eq_getElem hj, he])]
  simp

theorem filter_take {α : Type} (p : α → Bool) (xs : List α) (k : Nat) (x : α) (hx : xs[k]? = some x) : (xs.take (k + 1)).filter p = (xs.take k).filter p ++ (if p x then [x] else []) := by
  have hk := (List.getElem?_eq_some_iff.1 hx).1
  have : xs[k] = x := (List.getElem?_eq_some_iff.1 hx).2
  rw [List.take_succ_eq_append_getElem hk, List.filter_append, this]
  congr 1
  cases h : p x <;> simp [h]

/-- What is looked at yet, and what came out. -/
structure LeftInv (w wr : World) (F rs os : List Ev) (A5 : Option Addr) (c5 g6 c6 : Nat) : Prop where
  rd : Rd encE 3 wr (.slice A5 rs.length c5) rs
  cap : rs.length ≤ c5
  l60 : rs.length ≤ 60
  sum : F = os ++ rs.filter modeB
  mine : Mine w wr 36 3 (.slice (some ⟨g6, 0, none⟩) os.length c6) os.length (os.flatMap encE)
  ap : 0 < rs.length → ∀ b, (Value.slice A5 rs.length c5).ownBlock = some b → b ≠ g6

theorem LeftInv.keeps {w wr w' : World} {F rs os : List Ev} {A5 : Option Addr} {c5 g6 c6 : Nat} (h : LeftInv w wr F rs os A5 c5 g6 c6) (k : Keeps NoBlock wr w') : LeftInv w w' F rs os A5 c5 g6 c6 :=
  ⟨h.rd.keeps k (fun _ _ h => h), h.cap, h.l60, h.sum, h.mine.keeps k, h.ap⟩

theorem LeftInv.step {w wr w1 W w' : World} {F rs rs' os : List Ev} {A5 A9 : Option Addr} {c5 g6 c6 c9 g c N : Nat} {x : Ev} (h : LeftInv w wr F rs os A5 c5 g6 c6) (k1 : Keeps NoBlock wr w1) (hr : Rd encE 3 w1 (.slice A9 rs'.length c9) rs') (hc : rs'.length ≤ c9) (hl : rs'.length ≤ 60)
    (hf : ∀ b, (Value.slice A9 rs'.length c9).ownBlock = some b → wr.heap.size ≤ b ∧ b < w1.heap.size) (hs : rs.filter modeB = x :: rs'.filter modeB) (kW : Keeps NoBlock w1 W)
    (ho : Own w' 36 3 (.slice (some ⟨g, 0, none⟩) (os.length + 1) c) (os.length + 1) (os.flatMap encE ++ encE x)) (hg : World.grownBy W w' (some g6))
    (hfg : ∀ k, (Value.slice (some ⟨g, 0, none⟩) (os.length + 1) c).ownBlock = some k → (Value.slice (some ⟨g6, 0, none⟩) os.length c6).ownBlock = some k ∨ N ≤ k) (hN : w1.heap.size ≤ N) : LeftInv w w' F rs' (os ++ [x]) A9 c9 g c := by
  have hg6 := h.mine.lt g6 rfl
  have hgg : g = g6 ∨ N ≤ g := by
    rcases hfg g rfl with h1 | h1
    · simp only [Value.ownBlock, Option.some.injEq] at h1; exact .inl h1.symm
    · exact .inr h1
  have M := ((h.mine.keeps k1).grow kW ho hg hfg hN)
  refine ⟨hr.keeps1 (grown_keeps kW hg) (fun _ b hb e => ?_), hc, hl, ?_, ?_, fun _ b hb e => ?_⟩
  · have := (hf b hb).1; omega
  · rw [h.sum, hs]; simp
  · have hlen : (os ++ [x]).length = os.length + 1 := by simp
    rw [hlen, List.flatMap_append]
    simpa using M
  · have := hf b hb; omega

def LeftRel (w : World) (F : List Ev) (c : Nat) (r o i : Value) (wr : World) : Prop := ∃ (rs os : List Ev) (A5 : Option Addr) (c5 g6 c6 : Nat), os.length ≤ c ∧ i = .int .i64 os.length ∧ r = .slice A5 rs.length c5 ∧ o = .slice (some ⟨g6, 0, none⟩) os.length c6 ∧ Hid (LeftInv w wr F rs os A5 c5 g6 c6)

theorem ownE_cells {w : World} {g cap n : Nat} {xs : List Ev} (hn : xs.length = n) (h : Own w 36 3 (.slice (some ⟨g, 0, none⟩) n cap) n (xs.flatMap encE)) {k : Nat} {x : Ev} (hx : xs[k]? = some x) :
    w.cell? ⟨g, k * 3, none⟩ = some (.int .i64 x.kind) ∧ w.cell? ⟨g, k * 3 + 1, none⟩ = some (.int .i64 x.thread) ∧ w.cell? ⟨g, k * 3 + 2, none⟩ = some (.int .i64 x.mode) := by
  have hlt : k < n := by rw [← hn]; exact (List.getElem?_eq_some_iff.1 hx).1
  have key : ∀ (j : Nat) (u : Value), (encE x)[j]? = some u → w.cell? ⟨g, k * 3 + j, none⟩ = some u := by
    intro j u hu
    have hj : j < 3 := (List.getElem?_eq_some_iff.1 hu).1
    rw [World.ownsRow.cellAt h (k * 3 + j) (lt_mul hlt hj)]
    exact flat_get' encE 3 encE_len xs k j x u hx hu
  exact ⟨key 0 _ rfl, key 1 _ rfl, key 2 _ rfl⟩

theorem filter_at {α : Type} (p : α → Bool) (xs : List α) (k : Nat) (x : α) (hx : xs[k]? = some x) (hp : p x = true) : (xs.filter p)[((xs.take k).filter p).length]? = some x := by
  have e : xs.filter p = (xs.take k).filter p ++ (xs.drop k).filter p := by rw [← List.filter_append, List.take_append_drop]
  have hk := (List.getElem?_eq_some_iff.1 hx).1
  have hd : xs.drop k = x :: xs.drop (k + 1) := by
    rw [List.drop_eq_getElem_cons hk]; congr 1; exact (List.getElem?_eq_some_iff.1 hx).2
  rw [e, List.getElem?_append_right (Nat.le_refl _), Nat.sub_self, hd, List.filter_cons_of_pos hp]
  rfl

set_option maxHeartbeats 4000000 in
set_option maxRecDepth 100000 in
theorem left_calls (v : Value) (xs : List Ev) (w : World) (h : EvsAt w v xs) : Calls Try.prog 10 #[v] w (EndsPost w) := by
  obtain ⟨h, hl, A, cap, rfl, hcap⟩ := h
  obtain ⟨m, ys, hm, hys, hyr, hyl⟩ : ∃ (m : Nat) (ys : List Ev), ((xs.length ≤ 60 ∧ m = xs.length) ∨ (60 < xs.length ∧ m = 60)) ∧ ys.length = m ∧ Rd encE 3 w (.slice A m cap) ys ∧ m ≤ 60 := by
    by_cases h60 : xs.length ≤ 60
    · exact ⟨xs.length, xs, .inl ⟨h60, rfl⟩, rfl, h, h60⟩
    · obtain ⟨A', b, off, cap', hv, hA, hc⟩ := h
      cases hv
      have hp := Rd.part hA hc A 0 60 cap (by omega) (fun _ => by rw [(hA (by omega)).1]; simp)
      refine ⟨60, (xs.drop 0).take 60, .inr ⟨by omega, rfl⟩, ?_, hp, Nat.le_refl _⟩
      rw [List.length_take, List.length_drop]; omega
  have hmc : m ≤ cap := by omega
  have HA60 : Hid (60 < xs.length → ∃ b off, A = some ⟨b, off, none⟩) := fun h60 => by
    obtain ⟨A', b, off, cap', hv, hA, hc⟩ := h
    cases hv
    exact ⟨b, off, (hA (by omega)).1⟩
  obtain ⟨n, hn⟩ : ∃ n, Hid (xs.length = n) := ⟨_, rfl⟩
  rw [hn.out] at hm hl hcap HA60 ⊢
  have HY := Lib.hid hyr
  have Hys := Lib.hid hys
  clear h hyr hys
  obtain ⟨A', b, off, cap', hv, hA, hc⟩ := HY.out
  have hAm : Hid (0 < m → A = some ⟨b, off, none⟩ ∧ b < w.heap.size) := fun h0 => by cases hv; exact hA (by rw [Hys.out]; exact h0)
  have Hc := Lib.hid hc
  clear hv hA hc A' cap'
  go_enter Try.func10, Try.ntmps10
  go_upto_if 18 with fail
  go_cut [0] from 18 to 20 (fun v wx => v = .slice A m cap ∧ w = wx)
  case first =>
    rcases hm with ⟨h1, rfl⟩ | ⟨h1, rfl⟩
    · go_wp2_with fail
      go_meet
      case rel => exact ⟨rfl, rfl⟩
    · obtain ⟨b', off', rfl⟩ := HA60.out h1
      have h60 : (60 : Int) ≤ cap := by omega
      have h61 : 60 ≤ cap := hmc
      go_wp2_with fail
      go_meet
      case rel => exact ⟨rfl, rfl⟩
  case rest =>
    obtain ⟨rfl, rfl⟩ := hcut
    clear hm HA60 hn hl hcap
    go_wp2_with fail
    go_loop [3, 4] (fun s i => ∃ k c : Nat, k ≤ m ∧ i = .int .i64 k ∧ s = .int .i64 c ∧ c ≤ k ∧ Hid (c = ((ys.take k).filter modeB).length)) (fun _ i => m - (intOf i).toNat)
    case atStart => exact ⟨0, 0, Nat.zero_le _, rfl, rfl, Nat.le_refl _, rfl⟩
    case round =>
      obtain ⟨k, c, hk, rfl, rfl, hck, hcc⟩ := hrel
      by_cases hlt : k < m
      · obtain ⟨x, hx⟩ : ∃ x, ys[k]? = some x := ⟨_, List.getElem?_eq_getElem (by rw [Hys.out]; exact hlt)⟩
        obtain ⟨rfl, hb1⟩ := hAm.out (by omega)
        have hcx := cells3 Hc.out hx
        have hft := filter_take modeB ys k x hx
        cases hpx : modeB x with
        | true =>
          rw [hpx] at hft
          have hmo : 0 < x.mode := by simpa [modeB] using hpx
          have hfin : Hid (c + 1 = ((ys.take (k + 1)).filter modeB).length) := by show _ = _; rw [hft, List.length_append, ← hcc.out]; rfl
          clear hft hpx hx
          go_wp2_with fail
          exact ⟨⟨k + 1, c + 1, by omega, by go_num, by go_num, by omega, hfin.out⟩, by simp [intOf]; omega⟩
        | false =>
          rw [hpx] at hft
          have hmo : x.mode ≤ 0 := by simpa [modeB] using hpx
          have hfin : Hid (c = ((ys.take (k + 1)).filter modeB).length) := by show _ = _; rw [hft, List.length_append, ← hcc.out]; rfl
          clear hft hpx hx
          go_wp2_with fail
          exact ⟨⟨k + 1, c, by omega, by go_num, rfl, by omega, hfin.out⟩, by simp [intOf]; omega⟩
      · obtain rfl : k = m := by omega
        obtain ⟨F, hF⟩ : ∃ F, Hid (F = ys.filter modeB) := ⟨_, rfl⟩
        have hcF : Hid (c = F.length) := by show _ = _; rw [hcc.out, List.take_of_length_le (by rw [Hys.out]; omega), hF.out]
        have I0 : LeftInv w (w.alloc (.cells #[] 36)) F ys [] A cap w.heap.size 0 := by
          refine ⟨?_, by rw [Hys.out]; exact hmc, by rw [Hys.out]; exact hyl, by rw [hF.out]; rfl, mine_empty w, fun h0 b' hb' e => ?_⟩
          · rw [Hys.out]; exact HY.out.keeps ((Keeps.refl NoBlock _).alloc _) (fun _ _ h => h)
          · obtain ⟨rfl, hb1⟩ := hAm.out (by rw [← Hys.out]; exact h0)
            simp only [Value.ownBlock, Option.some.injEq] at hb'
            omega
        have HI0 := Lib.hid I0
        clear I0 hlt hcc
        go_wp2_with fail
        go_loopw [5, 6, 7] (fun r o i wr => LeftRel w F c r o i wr) (fun _ _ i _ => c - (intOf i).toNat)
        case atStart => exact ⟨ys, [], A, cap, _, _, Nat.zero_le _, rfl, by rw [Hys.out], rfl, HI0.out⟩
        case round =>
          obtain ⟨rs, os, A5, c5, g6, c6, hoc, rfl, rfl, rfl, HI⟩ := hrel
          clear HI0
          have hFl : c = os.length + (rs.filter modeB).length := by rw [hcF.out, HI.out.sum, List.length_append]
          have HFl := Lib.hid hFl
          clear hFl
          by_cases hlt : os.length < c
          · obtain ⟨j, x, h1, h2, h3, h4⟩ : ∃ (j : Nat) (x : Ev), idxI modeB rs = j ∧ rs[j]? = some x ∧ modeB x = true ∧ ∀ (t : Nat) (y : Ev), t < j → rs[t]? = some y → modeB y = false := by
              rcases idx_cases modeB rs with ⟨_, h⟩ | h
              · have := HFl.out
                rw [filter_none modeB rs h] at this
                simp at this; omega
              · exact h
            have hjr := (List.getElem?_eq_some_iff.1 h2).1
            have hr60 := HI.out.l60
            have hsum := Lib.hid (filter_erase modeB rs j x h2 h3 h4)
            have hw := Lib.hid (within_some A5 c5 j x rs wr HI.out.rd HI.out.cap (by omega) h1 h2)
            obtain ⟨nr, hnr⟩ : ∃ nr, Hid (rs.length = nr + 1) := ⟨rs.length - 1, by show _ = _; omega⟩
            have hne : Hid ((rs.eraseIdx j).length = nr) := by show _ = _; rw [List.length_eraseIdx_of_lt hjr, hnr.out]; rfl
            rw [hnr.out] at hw hr60 ⊢
            clear h1 h2 h3 h4 hjr
            obtain ⟨kind, thread, mode⟩ := x
            go_wp2_with fail
            refine hw.out.mono ?_
            rintro e w1 ⟨A9, c9, rfl, r9, k9, hc9, hf9⟩
            have R9 := Lib.hid r9
            have K9 := Lib.hid k9
            have C9 := Lib.hid hc9
            have F9 := Lib.hid hf9
            have I9 := Lib.hid (HI.out.mine.keeps k9)
            rw [hne.out]
            clear r9 k9 hc9 hf9 hw
            have hnb := Lib.hid (newsB (e := 36) (blk_new (w := w1.alloc (.cells #[.int .i64 kind, .int .i64 thread, .int .i64 mode] 36)) (o := .cells #[.int .i64 kind, .int .i64 thread, .int .i64 mode] 36) (k := w1.heap.size + 1) (by simp)))
            go_wp2_with (at_builtin; refine wpList_appN eE _ rfl _ _ rfl (.slice (some ⟨g6, 0, none⟩) os.length c6) os.length _ rfl (World.ownsRow.alloc (World.ownsRow.alloc I9.out.own _) _) ⟨w1.heap.size + 1, 0, none⟩ 1 1 [.int .i64 kind, .int .i64 thread, .int .i64 mode] rfl rfl hnb.out ?_ ?_ ?_ ?_)
            · simp [Value.oneCell']
            · simp only [maxLen]; omega
            · omega
            rintro v4 w4 ho4 hg4 hf4 g4 c4 rfl
            have I4 := Lib.hid (HI.out.step K9.out R9.out C9.out (by rw [hne.out]; omega) F9.out hsum.out (((Keeps.refl _ w1).alloc _).alloc _) ho4 hg4 hf4 (by omega))
            clear ho4 hg4 hf4 hnb
            go_wp2_with fail
            exact ⟨⟨rs.eraseIdx j, os ++ [Ev.mk kind thread mode], A9, c9, g4, c4, by simp; omega, by simp, by rw [hne.out], by simp, I4.out⟩, by simp [intOf]; omega⟩
          · obtain rfl : os.length = c := by omega
            have hrs0 : rs.filter modeB = [] := List.eq_nil_of_length_eq_zero (by have := HFl.out; omega)
            have hno : idxI modeB rs = -1 := by
              rcases idx_cases modeB rs with ⟨h, _⟩ | ⟨j, x, _, h2, h3, h4⟩
              · exact h
              · rw [filter_erase modeB rs j x h2 h3 h4] at hrs0; cases hrs0
            have hr60 := HI.out.l60
            have hos : Hid (os = ys.filter modeB) := by show _ = _; rw [← hF.out, HI.out.sum, hrs0, List.append_nil]
            have hw := Lib.hid (within_none _ rs wr HI.out.rd (by omega) hno)
            clear hrs0 hno hlt
            go_wp2_with fail
            refine hw.out.mono ?_
            rintro e w1 ⟨A9, c9, rfl, _, k9, _, _⟩
            obtain ⟨wq, hwq⟩ : ∃ wq, wq = w1.alloc (.cells #[.int .i64 0, .int .i64 0, .int .i64 0] 36) := ⟨_, rfl⟩
            have k9' : Keeps NoBlock wr wq := by rw [hwq]; exact k9.trans ((Keeps.refl _ _).alloc (.cells #[.int .i64 0, .int .i64 0, .int .i64 0] 36)) (fun _ _ h => h)
            have M9 := Lib.hid (HI.out.mine.keeps k9')
            have Hwq := Lib.hid hwq
            clear k9 k9' hw hwq
            go_wp2_with fail
            rw [← Hwq.out]
            go_loopw [14, 15] (fun a i wx => ∃ j q : Nat, j ≤ k ∧ i = .int .i64 j ∧ a = .int .i64 q ∧ q ≤ j ∧ Hid (q = ((ys.take j).filter modeB).length) ∧ Keeps NoBlock wq wx) (fun _ i _ => k - (intOf i).toNat)
            case atStart => exact ⟨0, 0, Nat.zero_le _, rfl, rfl, Nat.le_refl _, rfl, Keeps.refl _ _⟩
            case round =>
              obtain ⟨j, q, hj, rfl, rfl, hqj, hq, kx⟩ := hrel
              have hj60 : j ≤ 60 := by omega
              by_cases hlt : j < k
              · obtain ⟨x, hx⟩ : ∃ x, ys[j]? = some x := ⟨_, List.getElem?_eq_getElem (by rw [Hys.out]; exact hlt)⟩
                obtain ⟨rfl, hb1⟩ := hAm.out (by omega)
                have hcx := cells3 Hc.out hx
                have kw := M9.out.kp.trans kx (fun _ _ h => h)
                rw [← kw.cell hb1 (fun h => h), ← kw.cell hb1 (fun h => h), ← kw.cell hb1 (fun h => h)] at hcx
                have hft := filter_take modeB ys j x hx
                cases hpx : modeB x with
                | true =>
                  rw [hpx] at hft
                  have hmo : 0 < x.mode := by simpa [modeB] using hpx
                  have hfin : Hid (q + 1 = ((ys.take (j + 1)).filter modeB).length) := by show _ = _; rw [hft, List.length_append, ← hq.out]; rfl
                  have hat := filter_at modeB ys j x hx hpx
                  rw [← hq.out, ← hos.out] at hat
                  have hql : q < os.length := (List.getElem?_eq_some_iff.1 hat).1
                  have hco := ownE_cells rfl (M9.out.own.keeps kx (fun _ _ h => h)) hat
                  have hqq : ∀ w, (Op.equalIn 10000 36 (.agg #[.int .i64 x.kind, .int .i64 x.thread, .int .i64 x.mode]) (.agg #[.int .i64 x.kind, .int .i64 x.thread, .int .i64 x.mode])).run Try.prog w = .ok true w := fun w => by
                    have h := equalEv x x w
                    rw [decide_eq_true rfl] at h; exact h
                  have hgu := guardEv
                  have hd1 : decide ((os.length : Int) ≤ (q : Int)) = false := decide_eq_false (by omega)
                  have hd2 : decide (os.length ≤ q) = false := decide_eq_false (by omega)
                  have Kx := Lib.hid kx
                  clear hft hpx hx hat kw kx
                  go_upto_region 25 with fail
                  go_cut [95] from 81 to 94 (fun v wy => v = .bool false ∧ Hid (Keeps NoBlock wq wy))
                  case first =>
                    go_quiet (fail)
                    go_wp2_with fail
                    go_meet
                    case rel => exact ⟨rfl, Kx.out.drewN _⟩
                  case rest =>
                    obtain ⟨rfl, Ky⟩ := hcut
                    go_wp2_with fail
                    exact ⟨⟨j + 1, q + 1, by omega, by go_num, by go_num, by omega, hfin.out, Ky.out⟩, by simp [intOf]; omega⟩
                | false =>
                  rw [hpx] at hft
                  have hmo : x.mode ≤ 0 := by simpa [modeB] using hpx
                  have hfin : Hid (q = ((ys.take (j + 1)).filter modeB).length) := by show _ = _; rw [hft, List.length_append, ← hq.out]; rfl
                  have Kx := Lib.hid kx
                  clear hft hpx hx kw kx
                  go_wp2_with fail
                  exact ⟨⟨j + 1, q, by omega, by go_num, rfl, by omega, hfin.out, Kx.out⟩, by simp [intOf]; omega⟩
              · obtain rfl : j = k := by omega
                obtain rfl : q = os.length := by rw [hq.out, List.take_of_length_le (by rw [Hys.out]; omega), ← hos.out]
                have K9 := Lib.hid (M9.out.kp.trans kx (fun _ _ h => h))
                clear kx hq
                go_wp2_with fail
                refine (awake14_calls _).mono ?_
                rintro e w3 ⟨rfl, k3⟩
                have K3 := Lib.hid (K9.out.trans k3 (fun _ _ h => h))
                clear k3
                go_wp2_with fail
                go_ret
                exact ⟨rfl, K3.out.below (Nat.le_refl _) (fun _ h => h.elim)⟩

theorem left_row (w : World) (v : Value) (l : List Ev) (h : EvsAt w v l) : Calls Try.prog 10 #[v] w fun e w' => e = .returned (.bool true) ∧ Below w.heap.size w w' := left_calls v l w h
end Go.Proofs.Ytpchhlhjmkkoiaa
