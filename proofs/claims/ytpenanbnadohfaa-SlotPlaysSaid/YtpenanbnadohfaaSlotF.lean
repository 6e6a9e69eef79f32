/- SlotPlays's walk. -/
import Derived.Test.YtpenanbnadohfaaSlotC
import Derived.Test.YtpenanbnadohfaaArg
import Derived.Test.YtpenanbnadohfaaRef02
import Derived.Deep.DeepCutAuto
import Derived.Deep.CutBlock
import Derived.Deep.RegionWith
import Derived.RegionTactic
namespace Go.Proofs.Ytpenanbnadohfaa
open Go.RowKit

theorem elWords : Elem Try.prog 25 26 (.int .u64 0) 1 8 := .mk' Try.underlying25 (by kernel_rfl) rfl (by decide)
theorem elBools : Elem Try.prog 36 4 (.bool false) 1 1 := .mk' Try.underlying36 (by kernel_rfl) rfl (by decide)

abbrev encA := enc3 .i64 .i64 .u64
abbrev okA := wf3 .i64 .i64 .u64

theorem set_same {l : List Value} {k : Nat} {v : Value} (h : l[k]? = some v) : l.set k v = l := by
  apply List.ext_getElem?
  intro j
  by_cases e : k = j
  · subst e
    rw [List.getElem?_set_self (List.getElem?_eq_some_iff.1 h).1, h]
  · rw [List.getElem?_set_ne e]

def fU (x : Bool × Int) : Value := .bool x.1
def fT (x : Bool × Int) : Value := .int .u64 x.2

/-- The two lists that mirror the table. -/
structure Mirror (w : World) (kg ug n : Nat) (l : Slots) : Prop where
  taken : Own w 26 1 (.slice (some ⟨kg, 0, none⟩) n n) n (l.map fT)
  used : Own w 4 1 (.slice (some ⟨ug, 0, none⟩) n n) n (l.map fU)
  ne : kg ≠ ug
  len : l.length = n

theorem Mirror.keeps {w w' : World} {kg ug n : Nat} {l : Slots} {S : Nat → Prop} (h : Mirror w kg ug n l) (k : Keeps S w w') (h1 : ¬ S kg) (h2 : ¬ S ug) : Mirror w' kg ug n l :=
  ⟨h.taken.keeps k (fun b hb => by simp [Value.ownBlock] at hb; subst hb; exact h1), h.used.keeps k (fun b hb => by simp [Value.ownBlock] at hb; subst hb; exact h2), h.ne, h.len⟩

theorem Mirror.cellT {w : World} {kg ug n : Nat} {l : Slots} (h : Mirror w kg ug n l) {k : Nat} {x : Bool × Int} (hk : l[k]? = some x) : w.cell? ⟨kg, k, none⟩ = some (.int .u64 x.2) := by
  have hlt : k < l.length := (List.getElem?_eq_some_iff.1 hk).1
  rw [World.ownsRow.cellAt h.taken k (by rw [Nat.mul_one, ← h.len]; exact hlt), List.getElem?_map, hk]
  rfl
theorem Mirror.cellU {w : World} {kg ug n : Nat} {l : Slots} (h : Mirror w kg ug n l) {k : Nat} {x : Bool × Int} (hk : l[k]? = some x) : w.cell? ⟨ug, k, none⟩ = some (.bool x.1) := by
  have hlt : k < l.length := (List.getElem?_eq_some_iff.1 hk).1
  rw [World.ownsRow.cellAt h.used k (by rw [Nat.mul_one, ← h.len]; exact hlt), List.getElem?_map, hk]
  rfl
theorem Mirror.fzT {w : World} {kg ug n : Nat} {l : Slots} (h : Mirror w kg ug n l) (k : Nat) : w.frozen? ⟨kg, k, none⟩ = false := World.ownsRow.frozenAt h.taken k
theorem Mirror.fzU {w : World} {kg ug n : Nat} {l : Slots} (h : Mirror w kg ug n l) (k : Nat) : w.frozen? ⟨ug, k, none⟩ = false := World.ownsRow.frozenAt h.used k
theorem Mirror.lt {w : World} {kg ug n : Nat} {l : Slots} (h : Mirror w kg ug n l) : kg < w.heap.size ∧ ug < w.heap.size := ⟨h.taken.lt kg rfl, h.used.lt ug rfl⟩

theorem Mirror.setU {w : World} {kg ug n : Nat} {l : Slots} (h : Mirror w kg ug n l) {k : Nat} {x : Bool × Int} (hk : l[k]? = some x) (u : Bool) : Mirror (w.setCell ⟨ug, k, none⟩ (.bool u)) kg ug n (l.set k (u, x.2)) := by
  refine ⟨?_, ?_, h.ne, by simp [h.len]⟩
  · have := h.taken.keeps (w' := w.setCell ⟨ug, k, none⟩ (.bool u)) (S := fun b => b = ug) ((Keeps.refl (fun b => b = ug) w).setCell (.inl rfl) _) (fun b hb => by simp [Value.ownBlock] at hb; subst hb; exact h.ne)
    have e : (l.set k (u, x.2)).map fT = l.map fT := by
      rw [List.map_set]
      have : (l.map fT)[k]? = some (fT x) := by rw [List.getElem?_map, hk]; rfl
      exact set_same this
    rw [e]; exact this
  · have := (World.ownsRow.stored h.used k (.bool u)).1
    rw [List.map_set]; exact this

theorem Mirror.setT {w : World} {kg ug n : Nat} {l : Slots} (h : Mirror w kg ug n l) {k : Nat} {x : Bool × Int} (hk : l[k]? = some x) (t : Int) : Mirror (w.setCell ⟨kg, k, none⟩ (.int .u64 t)) kg ug n (l.set k (x.1, t)) := by
  refine ⟨?_, ?_, h.ne, by simp [h.len]⟩
  · have := (World.ownsRow.stored h.taken k (.int .u64 t)).1
    rw [List.map_set]; exact this
  · have := h.used.keeps (w' := w.setCell ⟨kg, k, none⟩ (.int .u64 t)) (S := fun b => b = kg) ((Keeps.refl (fun b => b = kg) w).setCell (.inl rfl) _) (fun b hb => by simp [Value.ownBlock] at hb; subst hb; exact h.ne.symm)
    have e : (l.set k (x.1, t)).map fU = l.map fU := by
      rw [List.map_set]
      have : (l.map fU)[k]? = some (fU x) := by rw [List.getElem?_map, hk]; rfl
      exact set_same this
    rw [e]; exact this

/-- Behind k acts. -/
def PlaysInv (w : World) (tb tg kg ug n k : Nat) (v : Value) (wr : World) : Prop :=
  ∃ (l : Slots) (hs : List Int) (g cap : Nat), v = .slice (some ⟨g, 0, none⟩) hs.length cap ∧ Table wr tb tg l ∧ Mirror wr kg ug n l ∧ Own wr 26 1 v hs.length (hs.map (Value.int .u64)) ∧ Keeps NoBlock w wr ∧
    (w.heap.size ≤ g ∧ g ≠ tb ∧ g ≠ tg ∧ g ≠ kg ∧ g ≠ ug) ∧ hs.length ≤ k ∧ (∀ h ∈ hs, 0 ≤ h ∧ h < 18446744073709551616) ∧ (∀ (j : Nat) x, l[j]? = some x → 0 ≤ x.2 ∧ x.2 ≤ k)

set_option maxRecDepth 100000 in
set_option maxHeartbeats 4000000 in
theorem plays_calls (s : Int) (A : Option Addr) (b off len cap : Nat) (xs : List (Int × Int × Int)) (w : World) (hA : FlatAt encA okA 3 w A b off len xs) (hl : len ≤ 1000000000000000) :
    Calls Try.prog 4 #[.int .i64 s, .slice A len cap] w fun e w' => e = .returned (.bool true) ∧ Below w.heap.size w w' := by
  go_enter Try.func4, Try.ntmps4
  go_wp2_with fail
  refine (new_calls s w).mono ?_
  rintro e w1 ⟨tb, tg, rfl, T1, hk1, hb, hg⟩
  obtain ⟨n, hn⟩ : ∃ n, Hid (n = newLen s) := ⟨_, rfl⟩
  rw [← hn.out] at T1
  have hn1 : n ≤ 1024 := by rw [hn.out]; unfold newLen; omega
  go_upto_if 29 with fail
  go_cut [6] from 30 to 30 (fun v wx => v = .int .i64 (max s 0) ∧ w1 = wx)
  case first => as_aux_lemma =>
    by_cases h0 : s < 0
    · go_wp2_with fail
      go_meet
      case rel => exact ⟨by rw [Int.max_eq_right (by omega)], rfl⟩
    · have h1 : 0 ≤ s := by omega
      go_wp2_with fail
      go_meet
      case rel => exact ⟨by rw [Int.max_eq_left (by omega)], rfl⟩
  case rest => as_aux_lemma =>
    obtain ⟨rfl, rfl⟩ := hcut
    obtain ⟨m, hm⟩ : ∃ m : Nat, max s 0 = m := ⟨(max s 0).toNat, by omega⟩
    have hnm : Hid ((n : Int) = min (m : Int) 1024) := by rw [← hm, hn.out]; show ((min (max s 0) 1024).toNat : Int) = _; omega
    rw [hm]
    clear hm
    go_upto_if 31 with fail
    go_cut [6] from 32 to 32 (fun v wx => v = .int .i64 n ∧ w1 = wx)
    case first => as_aux_lemma =>
      by_cases h0 : 1024 < m
      · go_wp2_with fail
        go_meet
        case rel => exact ⟨by rw [hnm.out]; congr 1; omega, rfl⟩
      · have h1 : m ≤ 1024 := by omega
        go_wp2_with fail
        go_meet
        case rel => exact ⟨by rw [hnm.out]; congr 1; omega, rfl⟩
    case rest => as_aux_lemma =>
      obtain ⟨rfl, rfl⟩ := hcut
      go_upto_region 7 with fail
      have hmk1 : ∀ w, (Instr.makeSlice 25 (.int .i64 (n : Int)) (.int .i64 (n : Int))).run Try.prog w = .ok (.slice (some ⟨w.heap.size, 0, none⟩) n n) (w.alloc (.cells (madeCells (Value.int .u64 0).cells (n * 1)) 26)) := run_mk elWords n (by omega) (by decide)
      have hmk2 : ∀ w, (Instr.makeSlice 36 (.int .i64 (n : Int)) (.int .i64 (n : Int))).run Try.prog w = .ok (.slice (some ⟨w.heap.size, 0, none⟩) n n) (w.alloc (.cells (madeCells (Value.bool false).cells (n * 1)) 4)) := run_mk elBools n (by omega) (by decide)
      rw [Nat.mul_one] at hmk1 hmk2
      go_cut [7, 8] from 32 to 35 (fun v7 v8 wx => ∃ kg ug, v7 = .slice (some ⟨kg, 0, none⟩) n n ∧ v8 = .slice (some ⟨ug, 0, none⟩) n n ∧ Own wx 26 1 (.slice (some ⟨kg, 0, none⟩) n n) n (List.replicate n (.int .u64 0)) ∧
        Own wx 4 1 (.slice (some ⟨ug, 0, none⟩) n n) n (List.replicate n (.bool false)) ∧ Keeps NoBlock w1 wx ∧ w1.heap.size ≤ kg ∧ w1.heap.size ≤ ug ∧ kg ≠ ug)
      case first => as_aux_lemma =>
        go_region
        · go_wp2_with fail
          go_meet
          case rel =>
            refine ⟨_, _, rfl, rfl, (own_made (.int .u64 0) n (by omega) rfl).keeps (S := NoBlock) (((Keeps.refl _ _).alloc _).drew) (fun _ _ h => h), ?_, (((Keeps.refl _ _).alloc _).alloc _).drew, Nat.le_refl _, by simp, by simp⟩
            have := own_made (w := w1.alloc (.cells (madeCells #[Value.int IntKind.u64 0] n) 26)) (e := 4) (.bool false) n (by omega) rfl
            have h2 := this.keeps (S := NoBlock) ((Keeps.refl _ _).drew) (fun _ _ h => h)
            simp only [World.size_alloc] at h2
            exact h2
        · go_wp2_with fail
          go_meet
          case rel =>
            refine ⟨_, _, rfl, rfl, ?_, (own_made (.bool false) n (by omega) rfl).keeps (S := NoBlock) (((Keeps.refl _ _).alloc _).drew) (fun _ _ h => h), (((Keeps.refl _ _).alloc _).alloc _).drew, by simp, Nat.le_refl _, by simp⟩
            have := own_made (w := w1.alloc (.cells (madeCells #[Value.bool false] n) 4)) (e := 26) (.int .u64 0) n (by omega) rfl
            have h2 := this.keeps (S := NoBlock) ((Keeps.refl _ _).drew) (fun _ _ h => h)
            simp only [World.size_alloc] at h2
            exact h2
      case rest => as_aux_lemma =>
        obtain ⟨kg, ug, rfl, rfl, ok, ou, hk2, hkg, hug, hne⟩ := hcut
        clear hmk1 hmk2
        have hl1 := T1.ltb
        have hl2 := T1.ltg
        have hs1 := hk1.size
        go_wp2_with fail
        go_loopw [9, 10] (fun v i wr => ∃ k : Nat, k ≤ 60 ∧ k ≤ len ∧ i = .int .i64 k ∧ PlaysInv w tb tg kg ug n k v wr) (fun _ i _ => 60 - (intOf i).toNat)
        case atStart =>
          have hkt := ok.lt kg rfl
          have hut := ou.lt ug rfl
          have M : Mirror wc kg ug n (List.replicate n (false, 0)) := ⟨by simpa [fT] using ok, by simpa [fU] using ou, hne, by simp⟩
          refine ⟨0, by omega, by omega, rfl, _, [], _, _, rfl, T1.keeps (S := NoBlock) (hk2.alloc _) (fun h => h) (fun h => h), M.keeps (S := NoBlock) ((Keeps.refl _ _).alloc _) (fun h => h) (fun h => h), World.ownsRow_lit wc #[] 0 (Nat.zero_le _) (by simp [maxLen]) rfl, (hk1.trans hk2 (fun _ _ h => h)).alloc _, ?_, Nat.zero_le _, fun h hh => by simp at hh, fun j x hx => ?_⟩
          · have := hk2.size; omega
          · rw [List.getElem?_replicate] at hx
            split at hx <;> simp at hx
            subst hx
            exact ⟨Int.le_refl _, Int.le_refl _⟩
        case round => as_aux_lemma =>
          obtain ⟨k, hk, hkl, rfl, l, hs, g, cap', rfl, T, M, hown, hkp, ⟨hg1, hg2, hg3, hg4, hg5⟩, hhl, hhs, hsm⟩ := hrel
          by_cases hlt : k < len ∧ k < 60
          · obtain ⟨hlt, hlt6⟩ := hlt
            obtain ⟨⟨what, N, hd⟩, hx⟩ : ∃ x, xs[k]? = some x := ⟨_, List.getElem?_eq_getElem (by rw [hA.length]; exact hlt)⟩
            obtain ⟨hw1, hw2, hw3⟩ := hA.ok _ (List.mem_of_getElem? hx)
            have hwb := bounds_i64 hw1
            have hNb := bounds_i64 hw2
            have hdb := bounds_u64 hw3
            have hbw : b < w.heap.size := World.block_lt_of_cell? w _ (hA.cell k _ 0 _ hx rfl)
            have c0 : wr.cell? ⟨b, off + k * 3, none⟩ = some (.int .i64 what) := by rw [hkp.cell hbw (fun h => h)]; exact hA.cell k _ 0 _ hx rfl
            have c1 : wr.cell? ⟨b, off + k * 3 + 1, none⟩ = some (.int .i64 N) := by rw [hkp.cell hbw (fun h => h)]; exact hA.cell k _ 1 _ hx rfl
            have c2 : wr.cell? ⟨b, off + k * 3 + 2, none⟩ = some (.int .u64 hd) := by rw [hkp.cell hbw (fun h => h)]; exact hA.cell k _ 2 _ hx rfl
            have HA := Lib.hid hA
            have hAe := hA.addr (by omega)
            subst hAe
            simp only [] at hwb hNb hdb
            have Hsm := Lib.hid hsm
            have Hhs := Lib.hid hhs
            have Hsmall : Hid (Small l) := fun j x hx => by have := hsm j x hx; omega
            have hln := M.len
            have Hln := Lib.hid hln
            have hTl := T.len
            clear hA hx hw1 hw2 hw3 hsm hhs hln
            have hk6 : (k : Int) < 60 := by omega
            have hF : ∀ j, j < w.heap.size → Foot tb tg j → NoBlock j := by rintro j hj (rfl | rfl) <;> omega
            have hapart : ¬ Foot tb tg kg ∧ ¬ Foot tb tg ug ∧ ¬ Foot tb tg g := ⟨by rintro (h | h) <;> omega, by rintro (h | h) <;> omega, by rintro (h | h) <;> omega⟩
            by_cases hwz : what = 0
            ·
              as_aux_lemma =>
              subst hwz
              go_wp2_with fail
              go_loop [11] (fun i => ∃ q : Nat, q ≤ n ∧ i = .int .i64 q ∧ Hid (∀ j, j < q → ∃ s, l[j]? = some (true, s))) (fun i => n - (intOf i).toNat)
              case atStart => exact ⟨0, Nat.zero_le _, rfl, fun j hj => by omega⟩
              case round =>
                obtain ⟨q, hq, rfl, hall⟩ := hrel
                by_cases hql : q < n
                · obtain ⟨⟨u, t⟩, hp⟩ : ∃ p, l[q]? = some p := ⟨_, List.getElem?_eq_getElem (by rw [Hln.out]; exact hql)⟩
                  have hcu := M.cellU hp
                  have hct := M.cellT hp
                  have htb := Hsm.out q _ hp
                  simp only [] at hcu hct htb
                  have Hp := Lib.hid hp
                  clear hp
                  cases u with
                  | true => as_aux_lemma =>
                    go_wp2_with fail
                    refine ⟨⟨q + 1, by omega, by go_num, fun j hj => ?_⟩, by simp [intOf]; omega⟩
                    by_cases e : j = q
                    · subst e; exact ⟨t, Hp.out⟩
                    · exact hall.out j (by omega)
                  | false => as_aux_lemma =>
                    have hqn : ((q : Int) == n) = false := by simp; omega
                    go_wp2_with fail
                    refine (take_calls tb tg l wr T Hsmall.out).mono ?_
                    rintro e w2 ⟨l2, hsays, T2, hk3⟩
                    obtain ⟨rfl, rfl⟩ := take_det hsays q t Hp.out hall.out
                    clear hsays
                    have M2 := M.keeps hk3 hapart.1 hapart.2.1
                    have hcu2 := M2.cellU Hp.out
                    have hct2 := M2.cellT Hp.out
                    have hfu := M2.fzU q
                    have hft := M2.fzT q
                    have hne2 := M2.ne
                    simp only [] at hcu2 hct2
                    have hown2 := hown.keeps hk3 (fun b hb => by simp [Value.ownBlock] at hb; subst hb; exact hapart.2.2)
                    have hlt2 := M2.lt
                    go_wp2_with (at_builtin; refine wpList_app1 elWords _ rfl _ _ rfl (.slice (some ⟨g, 0, none⟩) hs.length cap') _ _ rfl (hown2.keeps (((Keeps.refl (fun b => b = ug ∨ b = kg) w2).setCell (.inl (.inl rfl)) _).setCell (.inl (.inr rfl)) _) (fun b hb => by simp [Value.ownBlock] at hb; subst hb; rintro (h | h); exact hg5 h; exact hg4 h)) [.int .u64 ((t + 1) * 65536 + q + 1)] 26 _ rfl (by simp) rfl (by simp [Value.oneCell']) (by omega) (by decide) ?_; intro g3 cap3 w3 hown3 hk4 hfr3)
                    have hql3 : q < l.length := by rw [Hln.out]; exact hql
                    have M3 : Mirror w3 kg ug n (l.set q (true, t + 1)) := by
                      have h1 := (M2.setU Hp.out true).setT (k := q) (x := (true, t)) (by simp [hql3]) (t + 1)
                      rw [List.set_set] at h1
                      exact h1.keeps hk4 (fun h => by simp [Value.ownBlock] at h; exact hg4 h) (fun h => by simp [Value.ownBlock] at h; exact hg5 h)
                    have kk : Keeps (fun b => b = ug ∨ b = kg ∨ b = g) w2 w3 := (((Keeps.refl (fun b => b = ug ∨ b = kg ∨ b = g) w2).setCell (.inl (.inl rfl)) _).setCell (.inl (.inr (.inl rfl))) _).trans hk4 (fun j _ h => by simp [Value.ownBlock] at h; exact .inr (.inr h.symm))
                    have T3 := T2.keeps kk (by rintro (h | h | h) <;> omega) (by rintro (h | h | h) <;> omega)
                    have hkp3 : Keeps NoBlock w w3 := (hkp.trans hk3 hF).trans kk (by rintro j hj (h | h | h) <;> omega)
                    have hTl2 := T2.ltb
                    have hTl3 := T2.ltg
                    have hkps := hkp.size
                    have hks3 := hk3.size
                    have hinv : PlaysInv w tb tg kg ug n (k + 1) (.slice (some ⟨g3, 0, none⟩) (hs.length + 1) cap3) w3 := by
                      refine ⟨_, hs ++ [(t + 1) * 65536 + q + 1], g3, cap3, by simp, T3, M3, by simpa using hown3, hkp3, ?_, by simp; omega, ?_, small_set (k := k) Hsm.out hql3 (by simp only []; omega)⟩
                      · rcases hfr3 with h | h
                        · simp [Value.ownBlock] at h; subst h; exact ⟨hg1, hg2, hg3, hg4, hg5⟩
                        · simp at h; omega
                      · intro a ha
                        rcases List.mem_append.1 ha with ha | ha
                        · exact Hhs.out a ha
                        · simp only [List.mem_singleton] at ha; subst ha; omega
                    clear hown3 hfr3 kk hk4
                    go_wp2_with fail
                    exact ⟨⟨k + 1, by omega, by omega, by go_num, hinv⟩, by simp [intOf]; omega⟩
                · skip
                  as_aux_lemma =>
                  obtain rfl : q = n := by omega
                  have hqn : ((q : Int) == q) = true := by simp
                  go_wp2_with fail
                  refine (take_calls tb tg l wr T Hsmall.out).mono ?_
                  rintro e w2 ⟨l2, hsays, T2, hk3⟩
                  obtain ⟨rfl, rfl⟩ := take_full hsays (fun j x hx => by
                    obtain ⟨s, hs⟩ := hall.out j (by have := (List.getElem?_eq_some_iff.1 hx).1; rw [← Hln.out]; exact this)
                    rw [hs] at hx; simp at hx; rw [← hx])
                  clear hsays
                  have hinv : PlaysInv w tb tg kg ug q (k + 1) (.slice (some ⟨g, 0, none⟩) hs.length cap') w2 :=
                    ⟨l2, hs, g, cap', rfl, T2, M.keeps hk3 hapart.1 hapart.2.1, hown.keeps hk3 (fun b hb => by simp [Value.ownBlock] at hb; subst hb; exact hapart.2.2), hkp.trans hk3 hF, ⟨hg1, hg2, hg3, hg4, hg5⟩, by omega, Hhs.out, fun j x hx => by have := Hsm.out j x hx; omega⟩
                  go_wp2_with fail
                  exact ⟨⟨k + 1, by omega, by omega, by go_num, hinv⟩, by simp [intOf]; omega⟩
            · skip
              as_aux_lemma =>
              have hwb2 : (what == 0) = false := by simp [hwz]
              have hgl : g < wr.heap.size := hown.lt g rfl
              go_upto_region 26 with fail
              go_cut [131] from 121 to 130 (fun v wx => ∃ c : Bool, v = .bool c ∧ (c = true → 0 < hs.length ∧ 0 ≤ N) ∧ wr = wx)
              case first => as_aux_lemma =>
                by_cases hp : 0 < hs.length
                · go_wp2_with fail
                  go_meet
                  case rel => exact ⟨decide (0 ≤ N), rfl, fun h => ⟨hp, of_decide_eq_true h⟩, rfl⟩
                · have hp' : hs.length ≤ 0 := by omega
                  clear hp
                  go_wp2_with fail
                  go_meet
                  case rel => exact ⟨false, rfl, (fun h => nomatch h), rfl⟩
              case rest => as_aux_lemma =>
                obtain ⟨c, rfl, hc, rfl⟩ := hcut
                have Hc := Lib.hid hc
                clear hc
                go_upto_if 131 with fail
                go_cut [15] from 132 to 142 (fun v wx => ∃ h : Int, v = .int .u64 h ∧ 0 ≤ h ∧ h < 18446744073709551616 ∧ wr = wx)
                case first => as_aux_lemma =>
                  cases c with
                  | false =>
                    go_wp2_with fail
                    go_meet
                    case rel => exact ⟨hd, rfl, by omega, by omega, rfl⟩
                  | true =>
                    obtain ⟨hp, hN⟩ := Hc.out rfl
                    obtain ⟨ix, hix⟩ : ∃ ix : Nat, N % (hs.length : Int) = ix := ⟨(N % (hs.length : Int)).toNat, by have := Int.emod_nonneg N (b := (hs.length : Int)) (by omega); omega⟩
                    have hml : ix < hs.length := by have := Int.emod_lt_of_pos N (b := (hs.length : Int)) (by omega); omega
                    obtain ⟨y, hy⟩ : ∃ y, hs[ix]? = some y := ⟨_, List.getElem?_eq_getElem hml⟩
                    have hcy : wr.cell? ⟨g, ix, none⟩ = some (.int .u64 y) := by
                      rw [World.ownsRow.cellAt hown _ (by omega)]
                      simp [hy]
                    have hyb := Hhs.out y (List.mem_of_getElem? hy)
                    clear hy
                    go_wp2_with fail
                    go_meet
                    case rel => exact ⟨y, rfl, by omega, by omega, rfl⟩
                case rest => as_aux_lemma =>
                  obtain ⟨h, rfl, h0, h1, rfl⟩ := hcut
                  by_cases hf : ∃ k0 : Nat, Found l h k0
                  · skip
                    as_aux_lemma =>
                    obtain ⟨k0, t, hk0, hh⟩ := hf
                    have hk0l : k0 < l.length := (List.getElem?_eq_some_iff.1 hk0).1
                    have htb := Hsm.out k0 _ hk0
                    have hcu := M.cellU hk0
                    have hct := M.cellT hk0
                    simp only [] at htb hcu hct
                    have hm1 : h % 65536 = (k0 : Int) + 1 := by omega
                    have hq1 : h / 65536 = t := by omega
                    have hk0n : k0 < n := by rw [← Hln.out]; exact hk0l
                    have Hk0 := Lib.hid hk0
                    have Hh := Lib.hid hh
                    clear hk0 hh
                    go_wp2_with fail
                    refine (find_calls tb tg l wr h T Hsmall.out (by omega) (by omega)).mono ?_
                    rintro e w2 ⟨hfs, hk3⟩
                    obtain rfl : e = .returned (.tuple #[.int .i64 k0, .bool true]) := by
                      rcases hfs with ⟨k', h1, h2⟩ | ⟨h1, _⟩
                      · obtain rfl := found_unique hTl ⟨t, Hk0.out, Hh.out⟩ h1; exact h2
                      · exact absurd ⟨t, Hk0.out, Hh.out⟩ (h1 k0)
                    clear hfs
                    have T2 := T.keeps hk3 (fun h => h) (fun h => h)
                    go_wp2_with fail
                    refine (free_calls tb tg l w2 h T2 Hsmall.out (by omega) (by omega)).mono ?_
                    rintro e w3 ⟨l3, hfs, T3, hk4⟩
                    obtain ⟨rfl, rfl⟩ := free_det hfs hTl Hsmall.out k0 t Hk0.out Hh.out
                    clear hfs
                    have kk' : Keeps (Foot tb tg) wr w3 := (hk3.mono (fun _ _ h => h.elim)).trans hk4 (fun _ _ h => h)
                    have M3 := M.keeps kk' hapart.1 hapart.2.1
                    have hcu3 := M3.cellU Hk0.out
                    have hfu := M3.fzU k0
                    simp only [] at hcu3
                    have hown3 := hown.keeps kk' (fun b hb => by simp [Value.ownBlock] at hb; subst hb; exact hapart.2.2)
                    have hkp3 := hkp.trans kk' hF
                    have M4 := M3.setU Hk0.out false
                    have hinv : PlaysInv w tb tg kg ug n (k + 1) (.slice (some ⟨g, 0, none⟩) hs.length cap') (w3.setCell ⟨ug, k0, none⟩ (.bool false)) := by
                      have kq : Keeps (fun b => b = ug) w3 (w3.setCell ⟨ug, k0, none⟩ (.bool false)) := (Keeps.refl (fun b => b = ug) w3).setCell (.inl rfl) _
                      refine ⟨_, hs, g, cap', rfl, T3.keeps kq (by intro h; omega) (by intro h; omega), M4, hown3.keeps kq (fun b hb => by simp [Value.ownBlock] at hb; subst hb; exact hg5), hkp3.trans kq (by intro j hj h; omega), ⟨hg1, hg2, hg3, hg4, hg5⟩, by omega, Hhs.out, small_set (k := k) Hsm.out hk0l (by simp only []; omega)⟩
                    clear M4
                    go_wp2_with fail
                    exact ⟨⟨k + 1, by omega, by omega, by go_num, hinv⟩, by simp [intOf]; omega⟩
                  · skip
                    as_aux_lemma =>
                    have Hf : Hid (∀ k, ¬ Found l h k) := fun k hk => hf ⟨k, hk⟩
                    clear hf
                    obtain ⟨ai, hai⟩ : ∃ ai : Int, h % 65536 = ai + 1 := ⟨h % 65536 - 1, by omega⟩
                    have hab : -1 ≤ ai ∧ ai < 65535 := by omega
                    obtain ⟨d, hd'⟩ : ∃ d, h / 65536 = d := ⟨_, rfl⟩
                    have Hd0 : Hid (h = d * 65536 + (ai + 1)) := by show h = d * 65536 + (ai + 1); omega
                    go_upto_region 29 with fail
                    go_cut [17] from 143 to 168 (fun v wx => v = .bool false ∧ wr = wx)
                    case first =>
                      by_cases hq0 : 0 ≤ ai
                      · by_cases han : ai < n
                        · obtain ⟨⟨u, t⟩, hp⟩ : ∃ p, l[ai.toNat]? = some p := ⟨_, List.getElem?_eq_getElem (by rw [Hln.out]; omega)⟩
                          have hcu := M.cellU hp
                          have hct := M.cellT hp
                          have htb := Hsm.out ai.toNat _ hp
                          simp only [] at hcu hct htb
                          have Hp := Lib.hid hp
                          clear hp
                          cases u with
                          | false =>
                            go_wp2_with fail
                            go_meet
                            case rel => exact ⟨rfl, rfl⟩
                          | true =>
                            have hdt : (d == t) = false := by
                              have : d ≠ t := fun e => Hf.out ai.toNat ⟨t, Hp.out, by rw [Hd0.out, e]; omega⟩
                              simpa using this
                            go_wp2_with fail
                            go_meet
                            case rel => exact ⟨rfl, rfl⟩
                        · have han' : (n : Int) ≤ ai := by omega
                          clear han
                          go_wp2_with fail
                          go_meet
                          case rel => exact ⟨rfl, rfl⟩
                      · have hq0' : ai < 0 := by omega
                        clear hq0
                        go_wp2_with fail
                        go_meet
                        case rel => exact ⟨rfl, rfl⟩
                    case rest =>
                      obtain ⟨rfl, rfl⟩ := hcut
                      go_wp2_with fail
                      refine (find_calls tb tg l wr h T Hsmall.out (by omega) (by omega)).mono ?_
                      rintro e w2 ⟨hfs, hk3⟩
                      obtain rfl := find_none hfs Hf.out
                      clear hfs
                      have T2 := T.keeps hk3 (fun h => h) (fun h => h)
                      go_wp2_with fail
                      refine (free_calls tb tg l w2 h T2 Hsmall.out (by omega) (by omega)).mono ?_
                      rintro e w3 ⟨l3, hfs, T3, hk4⟩
                      obtain ⟨rfl, rfl⟩ : l3 = l ∧ e = .returned (.int .i64 3) := by
                        rcases hfs with ⟨j6, t6, hj6, hx6, _, _⟩ | ⟨_, h1, h2⟩
                        · exact absurd ⟨t6, hj6, hx6⟩ (Hf.out j6)
                        · exact ⟨h1, h2⟩
                      clear hfs
                      have kk' : Keeps (Foot tb tg) wr w3 := (hk3.mono (fun _ _ h => h.elim)).trans hk4 (fun _ _ h => h)
                      have hinv : PlaysInv w tb tg kg ug n (k + 1) (.slice (some ⟨g, 0, none⟩) hs.length cap') w3 :=
                        ⟨l3, hs, g, cap', rfl, T3, M.keeps kk' hapart.1 hapart.2.1, hown.keeps kk' (fun b hb => by simp [Value.ownBlock] at hb; subst hb; exact hapart.2.2), hkp.trans kk' hF, ⟨hg1, hg2, hg3, hg4, hg5⟩, by omega, Hhs.out, fun j x hx => by have := Hsm.out j x hx; omega⟩
                      go_wp2_with fail
                      exact ⟨⟨k + 1, by omega, by omega, by go_num, hinv⟩, by simp [intOf]; omega⟩
          · skip
            go_upto_region 10 with fail
            go_cut [44] from 37 to 43 (fun v wx => v = .bool false ∧ wr = wx)
            case first =>
              by_cases h1 : k < len
              · have h2 : 60 ≤ (k : Int) := by omega
                go_wp2_with fail
                go_meet
                case rel => exact ⟨by rw [decide_eq_false (by omega)], rfl⟩
              · have h2 : (len : Int) ≤ k := by omega
                clear h1
                go_wp2_with fail
                go_meet
                case rel => exact ⟨rfl, rfl⟩
            case rest =>
              obtain ⟨rfl, rfl⟩ := hcut
              have Hsm := Lib.hid hsm
              have Hsmall : Hid (Small l) := fun j x hx => by have := hsm j x hx; omega
              have Hln := Lib.hid M.len
              have hTl := T.len
              clear hsm hhs hown hhl hg1 hg2 hg3 hg4 hg5 hlt
              have hmt := M.lt
              have htb0 := T.ltb
              have htg0 := T.ltg
              go_wp2_with fail
              obtain ⟨wo, rfl⟩ : ∃ wo : World, wo = wr := ⟨_, rfl⟩
              go_loopw [21, 22] (fun v i wx => ∃ q : Nat, q ≤ n ∧ i = .int .i64 q ∧ ∃ ga ca, v = .slice (some ⟨ga, 0, none⟩) (usedTo l q).length ca ∧ Own wx 3 1 v (usedTo l q).length (ints (usedTo l q)) ∧ wo.heap.size ≤ ga ∧ Keeps NoBlock wo wx) (fun _ i _ => n - (intOf i).toNat)
              case atStart =>
                exact ⟨0, Nat.zero_le _, rfl, _, _, rfl, World.ownsRow_lit wo #[] 0 (Nat.zero_le _) (by simp [maxLen]) rfl, Nat.le_refl _, (Keeps.refl _ _).alloc _⟩
              case round =>
                obtain ⟨q, hq, rfl, ga, ca, hv, hown, hga, hkx⟩ := hrel
                subst hv
                have Tq := T.keeps hkx (fun h => h) (fun h => h)
                have Mq := M.keeps hkx (fun h => h) (fun h => h)
                have hul := usedTo_len l q
                by_cases hql : q < n
                · obtain ⟨⟨u, t⟩, hp⟩ : ∃ p, l[q]? = some p := ⟨_, List.getElem?_eq_getElem (by rw [Hln.out]; exact hql)⟩
                  have htb := Hsm.out q _ hp
                  simp only [] at htb
                  have hD : Hid ((l.getD q (false, 0)).1 = u) := by rw [List.getD_eq_getElem?_getD, hp]; rfl
                  have Hp := Lib.hid hp
                  clear hp
                  have Hown := Lib.hid hown
                  clear hown
                  obtain ⟨ul, hul2⟩ : ∃ ul, Hid (ul = usedTo l q) := ⟨_, rfl⟩
                  rw [← hul2.out] at Hown hul ⊢
                  have Hul := Lib.hid hul
                  go_wp2_with fail
                  refine (handleOf_calls tb tg l wr q Tq Hsmall.out).mono ?_
                  rintro e w2 ⟨hs2, hk2⟩
                  have hkx2 := hkx.trans hk2 (fun _ _ h => h)
                  have M2 := Mq.keeps hk2 (fun h => h) (fun h => h)
                  have hcu := M2.cellU Hp.out
                  have hct := M2.cellT Hp.out
                  simp only [] at hcu hct
                  have own2 := Hown.out.keeps hk2 (fun _ _ h => h)
                  cases u with
                  | false =>
                    obtain rfl : e = .returned (.tuple #[.int .u64 0, .bool false]) := by
                      rcases hs2 with ⟨k', t', h1, h2, _⟩ | ⟨_, h⟩
                      · obtain rfl : q = k' := by omega
                        rw [Hp.out] at h2; simp at h2
                      · exact h
                    clear hs2
                    go_wp2_with fail
                    refine ⟨⟨q + 1, by omega, by go_num, ga, ca, ?_, ?_, hga, hkx2⟩, by simp [intOf]; omega⟩
                    · rw [usedTo_succ, hD.out, ← hul2.out]; simp
                    · rw [usedTo_succ, hD.out, ← hul2.out]; simpa using own2
                  | true =>
                    obtain rfl : e = .returned (.tuple #[.int .u64 (t * 65536 + q + 1), .bool true]) := by
                      rcases hs2 with ⟨k', t', h1, h2, h⟩ | ⟨h, _⟩
                      · obtain rfl : q = k' := by omega
                        rw [Hp.out] at h2
                        simp only [Option.some.injEq, Prod.mk.injEq, true_and] at h2
                        subst h2; exact h
                      · exact absurd Hp.out (h q t rfl)
                    clear hs2
                    go_wp2_with (at_builtin; refine wpList_app1 elInts _ rfl _ _ rfl (.slice (some ⟨ga, 0, none⟩) ul.length ca) _ _ rfl own2 [.int .i64 (q : Int)] 3 _ rfl (by simp) rfl (by simp [Value.oneCell']) (by omega) (by decide) ?_; intro g3 cap3 w3 hown3 hk4 hfr3)
                    have e3 : Hid (usedTo l (q + 1) = ul ++ [(q : Int)]) := Lib.hid (by rw [hul2.out]; have := usedTo_succ l q; rw [hD.out] at this; simpa using this)
                    have hinv : Hid (Own w3 3 1 (.slice (some ⟨g3, 0, none⟩) (ul.length + 1) cap3) (usedTo l (q + 1)).length (ints (usedTo l (q + 1)))) := Lib.hid (by rw [e3.out]; simpa [ints] using hown3)
                    have hval : Hid ((ul.length + 1) = (usedTo l (q + 1)).length) := Lib.hid (by rw [e3.out]; simp)
                    have hkx3 : Keeps NoBlock wo w3 := hkx2.trans hk4 (fun j hj h => by simp [Value.ownBlock] at h; omega)
                    have hg3' : wo.heap.size ≤ g3 := by
                      rcases hfr3 with h | h
                      · simp [Value.ownBlock] at h; omega
                      · have := hkx2.size; omega
                    clear hown3 hfr3 hk4
                    go_wp2_with fail
                    exact ⟨⟨q + 1, by omega, by go_num, g3, cap3, by rw [hval.out], hinv.out, hg3', hkx3⟩, by simp [intOf]; omega⟩
                · obtain rfl : q = n := by omega
                  have hkpx := hkp.trans hkx (fun _ _ h => h)
                  have Hown := Lib.hid hown
                  clear hown
                  go_wp2_with fail
                  refine (awake_calls _).mono ?_
                  rintro e w9 ⟨rfl, hk9⟩
                  have T9 := Tq.keeps hk9 (fun h => h) (fun h => h)
                  go_wp2_with fail
                  refine (used_calls tb tg l w9 T9).mono ?_
                  rintro e w10 ⟨v, rfl, ⟨hownv, hnew⟩, hk10⟩
                  have own10 := (Hown.out.keeps hk9 (fun _ _ h => h)).keeps hk10 (fun _ _ h => h)
                  have hR1 : ReadsI .i64 w10 v (usedTo l l.length) := Own.readsI hownv
                  have hR2 := Own.readsI own10
                  have hul3 := usedTo_len l l.length
                  have heq : Hid (usedTo l l.length = usedTo l q) := by rw [Hln.out]; exact rfl
                  go_wp2_with fail
                  refine (ints_calls v _ _ _ w10 hR1 hR2 (by omega) (by omega)).mono ?_
                  rintro e w11 ⟨rfl, hk11⟩
                  rw [decide_eq_true heq.out]
                  go_wp2_with fail
                  go_ret
                  exact ⟨rfl, (((hkpx.trans hk9 (fun _ _ h => h)).trans hk10 (fun _ _ h => h)).trans hk11 (fun _ _ h => h)).below (Nat.le_refl _) (fun _ h => h.elim)⟩

open Go.ChangeShapes Go.WideShapes in
theorem acts_open {H : Type} {enc0 : TypeId × Value → H} {W : World} {base : Nat} {spare : Nat → Bool} {held : Bool} {a : Option Addr} {len cap : Nat} {d : DataW H} {ps : List MemPlace} {ts : List TypeId} {ds : List (DataW H)} {j : Nat}
    (hsz : (DataW.weightsEach Try.prog ts ds).all (· ≤ reachBytes) = true) (ht : ts[j]? = some 35) (hd : ds[j]? = some d) (h : DataW.Trod enc0 Try.prog W base spare held 35 (.slice a len cap) d ps) :
    ∃ b off xs, FlatAt encA okA 3 W a b off len xs ∧ len ≤ cap ∧ len * 24 ≤ 140737488351232 :=
  flatAt_open hsz ht hd Try.underlying35 Try.underlying38 (by kernel_rfl) (by kernel_rfl) rfl (by decide) (by kernel_rfl) (decodes3 Try.underlying3 Try.underlying3 Try.underlying26) h

theorem plays_any (w : World) (s : Int) (_hs : (Lit.int .i64 s).wf = true) (A : Option Addr) (b off len cap : Nat) (xs : List (Int × Int × Int)) (h : FlatAt encA okA 3 w A b off len xs) (hl : len * 24 ≤ 140737488351232) :
    Calls Try.prog 4 #[.int .i64 s, .slice A len cap] w fun e w' => e = .returned (.bool true) ∧ Below w.heap.size w w' :=
  plays_calls s A b off len cap xs w h (by omega)
end Go.Proofs.Ytpenanbnadohfaa
