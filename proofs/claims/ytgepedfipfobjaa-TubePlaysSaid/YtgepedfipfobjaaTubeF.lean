/- Package tube: what is in it. -/
import Derived.Test.YtgepedfipfobjaaTubeE
import Derived.Test.YtgepedfipfobjaaRef02b
import Derived.Test.YtgepedfipfobjaaRef02w
namespace Go.Proofs.Ytgepedfipfobjaa
open Go.RowKit
namespace Tb

def RdPost (k : IntKind) (w : World) (xs : List Int) (e : Ending) (w' : World) : Prop := ∃ A c, e = .returned (.slice A xs.length c) ∧ ReadsI k w' (.slice A xs.length c) xs ∧ (∀ b, (Value.slice A xs.length c).ownBlock = some b → w.heap.size ≤ b) ∧ Keeps NoBlock w w'

theorem ReadsI.clip {k : IntKind} {w : World} {A : Option Addr} {n c c' : Nat} {xs : List Int} (h : ReadsI k w (.slice A n c) xs) : ReadsI k w (.slice A n c') xs := by
  obtain ⟨A', b, off, cap1, e, h1, h2⟩ := h
  cases e
  exact ⟨_, b, off, c', rfl, h1, h2⟩

theorem Words_nil (w : World) : Calls Try.prog 23 #[.pointer none] w fun e w' => e = .returned (.slice none 0 0) ∧ w = w' := by
  go_enter Try.func23, Try.ntmps23
  go_wp2
  go_ret
  exact ⟨rfl, rfl⟩

theorem Words_calls {col : Nat → Nat} (t : Nat) (room : Int) (ws : List Int) (ps : List (Int × Int)) (gs : List Int) (w : World) (h : TubeAt col w t room ws ps gs) :
    Calls Try.prog 23 #[.pointer (some ⟨t, 0, none⟩)] w (RdPost .u64 w ws) := by
  obtain ⟨A1, c1, A2, c2, A3, c3, h⟩ := h
  have hc := cell_of_block h.head (o := 1) rfl
  have hl := h.len
  have Hh := Lib.hid h
  clear h
  go_enter Try.func23, Try.ntmps23
  go_wp2_with fail
  refine (cloneW_calls _ _ _ _ Hh.out.o1 (ints_one .u64 _) (by omega)).mono ?_
  rintro e w1 ⟨v, rfl, ho, hf, hk⟩
  obtain ⟨A, n, c, rfl, hn1, hA1, hn⟩ : ∃ A n c, v = .slice A n c ∧ n ≤ c ∧ (A = none → n = 0 ∧ c = 0) ∧ n = ws.length := by
    rcases Own.form ho with ⟨rfl, h0⟩ | ⟨g, c, rfl, _, h2, _⟩
    · exact ⟨none, 0, 0, rfl, Nat.le_refl _, (fun _ => ⟨rfl, rfl⟩), h0.symm⟩
    · exact ⟨_, _, _, rfl, h2, (fun h => by simp at h), rfl⟩
  have Hr := Lib.hid (Own.readsI ho)
  have Hf := Lib.hid hf
  have Hk := Lib.hid hk
  have Hn := Lib.hid hn
  clear ho hf hk hn
  go_wp2_with fail
  refine (clipW_calls _ _ _ hn1 hA1 _).mono ?_
  rintro e w2 ⟨rfl, rfl⟩
  go_wp2_with fail
  go_ret
  refine ⟨A, n, by rw [← Hn.out]; rfl, by rw [← Hn.out]; exact ReadsI.clip Hr.out, fun k hk => Hf.out k (by cases A <;> exact hk), Hk.out⟩
theorem Getters_nil (w : World) : Calls Try.prog 26 #[.pointer none] w fun e w' => e = .returned (.slice none 0 0) ∧ w = w' := by
  go_enter Try.func26, Try.ntmps26
  go_wp2
  go_ret
  exact ⟨rfl, rfl⟩

theorem Getters_calls {col : Nat → Nat} (t : Nat) (room : Int) (ws : List Int) (ps : List (Int × Int)) (gs : List Int) (w : World) (h : TubeAt col w t room ws ps gs) :
    Calls Try.prog 26 #[.pointer (some ⟨t, 0, none⟩)] w (RdPost .i64 w gs) := by
  obtain ⟨A1, c1, A2, c2, A3, c3, h⟩ := h
  have hc := cell_of_block h.head (o := 3) rfl
  have hl := h.len
  have Hh := Lib.hid h
  clear h
  go_enter Try.func26, Try.ntmps26
  go_wp2_with fail
  refine (cloneI_calls _ _ _ _ Hh.out.o3 (ints_one .i64 _) (by omega)).mono ?_
  rintro e w1 ⟨v, rfl, ho, hf, hk⟩
  obtain ⟨A, n, c, rfl, hn1, hA1, hn⟩ : ∃ A n c, v = .slice A n c ∧ n ≤ c ∧ (A = none → n = 0 ∧ c = 0) ∧ n = gs.length := by
    rcases Own.form ho with ⟨rfl, h0⟩ | ⟨g, c, rfl, _, h2, _⟩
    · exact ⟨none, 0, 0, rfl, Nat.le_refl _, (fun _ => ⟨rfl, rfl⟩), h0.symm⟩
    · exact ⟨_, _, _, rfl, h2, (fun h => by simp at h), rfl⟩
  have Hr := Lib.hid (Own.readsI ho)
  have Hf := Lib.hid hf
  have Hk := Lib.hid hk
  have Hn := Lib.hid hn
  clear ho hf hk hn
  go_wp2_with fail
  refine (clipI_calls _ _ _ hn1 hA1 _).mono ?_
  rintro e w2 ⟨rfl, rfl⟩
  go_wp2_with fail
  go_ret
  refine ⟨A, n, by rw [← Hn.out]; rfl, by rw [← Hn.out]; exact ReadsI.clip Hr.out, fun k hk => Hf.out k (by cases A <;> exact hk), Hk.out⟩

theorem putters_nil (w : World) : Calls Try.prog 25 #[.pointer none] w fun e w' => e = .returned (.slice none 0 0) ∧ w = w' := by
  go_enter Try.func25, Try.ntmps25
  go_wp2
  go_ret
  exact ⟨rfl, rfl⟩

theorem putters_calls {col : Nat → Nat} (t : Nat) (room : Int) (ws : List Int) (ps : List (Int × Int)) (gs : List Int) (w : World) (h : TubeAt col w t room ws ps gs) :
    Calls Try.prog 25 #[.pointer (some ⟨t, 0, none⟩)] w (RdPost .i64 w (ps.map (·.1))) := by
  obtain ⟨A1, c1, A2, c2, A3, c3, h⟩ := h
  obtain ⟨n, hn⟩ : ∃ n, Hid (ps.length = n) := ⟨_, rfl⟩
  have hl := h.len
  have Hh := Lib.hid h
  have hc := cell_of_block h.head (o := 2) rfl
  have hc' : w.cell? ⟨t, 2, none⟩ = some (.slice A2 n c2) := by rw [hc, ← hn.out]; rfl
  have hA2 : Hid (0 < n → ∃ g, A2 = some ⟨g, 0, none⟩) := fun h0 => by
    rcases Own.form h.o2 with ⟨_, h1⟩ | ⟨g, c, h1, _⟩
    · have := hn.out; omega
    · cases h1; exact ⟨g, rfl⟩
  have ho2 : Hid (Own w 78 2 (.slice A2 n c2) n (ps.flatMap encP)) := by have h2 := h.o2; rw [hn.out] at h2; exact h2
  rw [hn.out] at hl
  clear h hc
  go_enter Try.func25, Try.ntmps25
  go_wp2_with fail
  go_loopw [3, 13] (fun v i wr => ∃ k : Nat, k ≤ n ∧ i = .int .i64 k ∧ Own wr 3 1 v k (((ps.take k).map (·.1)).map (Value.int .i64)) ∧ (∀ b, v.ownBlock = some b → w.heap.size ≤ b) ∧ Keeps NoBlock w wr) (fun _ i _ => n - (intOf i).toNat)
  case atStart => exact ⟨0, Nat.zero_le _, rfl, World.ownsRow_nil _ _ _ _, (fun b hb => by simp [Value.ownBlock] at hb), Keeps.refl _ _⟩
  case round =>
    obtain ⟨k, hk, rfl, hown, hfr, hkp⟩ := hrel
    have Hfr := Lib.hid hfr
    have Hown := Lib.hid hown
    obtain ⟨A, c, rfl⟩ := Own.isSlice hown
    clear hfr hown
    by_cases hlt : k < n
    · obtain ⟨x, hx⟩ : ∃ x, ps[k]? = some x := ⟨_, List.getElem?_eq_getElem (by rw [hn.out]; exact hlt)⟩
      obtain ⟨g, rfl⟩ := hA2.out (by omega)
      obtain ⟨x0, x1⟩ := put_cells hn.out (ho2.out.keeps hkp (fun _ _ h => h)) hx
      have htk : ((ps.take (k + 1)).map (·.1)).map (Value.int .i64) = ((ps.take k).map (·.1)).map (Value.int .i64) ++ [.int .i64 x.1] := by
        rw [List.take_add_one, hx]; simp
      have Htk := Lib.hid htk
      have hlw := Lib.hid (Hown.out.lt)
      clear hx htk
      go_wp2_with (at_builtin; refine wpList_appN eI _ rfl _ _ rfl (.slice A k c) k _ rfl (World.ownsRow.alloc (World.ownsRow.alloc Hown.out _) _) ⟨wr.heap.size + 1, 0, none⟩ 1 1 [.int .i64 x.1] rfl rfl (newsB (e := 3) (blk_new (by simp))) ?_ ?_ ?_ ?_)
      · simp [Value.oneCell']
      · simp only [maxLen]; omega
      · omega
      · rintro v3 w3 ho3 hg3 hf3 g3 c3 rfl
        have hs3 := hg3.size
        have f3 := hf3 g3 rfl
        simp only [World.size_alloc] at hs3 f3
        have hws := hkp.size
        have kk : Keeps NoBlock w w3 := (((hkp.alloc _).alloc _).grown hg3 (fun j hj => .inr (Hfr.out j hj)))
        have hfr3 : ∀ b, (Value.slice (some ⟨g3, 0, none⟩) (k + 1) c3).ownBlock = some b → w.heap.size ≤ b := fun b hb => by
          simp only [Value.ownBlock, Option.some.injEq] at hb; subst hb
          rcases f3 with h | h
          · exact Hfr.out _ h
          · omega
        have Ho3 := Lib.hid ho3
        have Hfr3 := Lib.hid hfr3
        clear ho3 hg3 hf3 hfr3
        go_wp2_with fail
        exact ⟨⟨k + 1, by omega, by go_num, by rw [Htk.out]; simpa [List.map_take] using Ho3.out, Hfr3.out, kk⟩, by simp [intOf]; omega⟩
    · obtain rfl : k = n := by omega
      have Hr : Hid (ReadsI .i64 wr (.slice A k c) (ps.map (·.1))) := by
        have h2 := Hown.out
        rw [show ps.take k = ps by rw [← hn.out]; exact List.take_length] at h2
        have hlen : (ps.map (·.1)).length = k := by rw [List.length_map, hn.out]
        have h3 : Own wr 3 1 (.slice A k c) (ps.map (·.1)).length ((ps.map (·.1)).map (Value.int .i64)) := by rw [hlen]; exact h2
        exact Own.readsI h3
      go_wp2_with fail
      go_ret
      exact ⟨A, c, by rw [List.length_map, hn.out]; rfl, by rw [List.length_map, hn.out]; exact Hr.out, by rw [List.length_map, hn.out]; exact Hfr.out, hkp⟩
end Tb
end Go.Proofs.Ytgepedfipfobjaa
