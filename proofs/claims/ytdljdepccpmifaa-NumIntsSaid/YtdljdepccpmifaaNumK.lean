/- The statement NumOrder. -/
import Derived.Test.YtdljdepccpmifaaNumJ
namespace Go.Proofs.Ytdljdepccpmifaa
open Go.RowKit Ieee

def NYes (w : World) (e : Ending) (w' : World) : Prop := e = .returned (.bool true) ∧ Below w.heap.size w w'
theorem yes_of {w w' : World} {b : Bool} (h : b = true) (k : Keeps NoBlock w w') : NYes w (.returned (.bool b)) w' := ⟨by rw [h], k.below (Nat.le_refl _) (fun k h => h.elim)⟩

theorem int_ne {x y : Nat} (h : x ≠ y) : ((x : Int) == (y : Int)) = false := beq_eq_false_iff_ne.2 (fun e => h (by omega))

theorem order_none_walk (x y z : Nat) (hx : x < 18446744073709551616) (hy : y < 18446744073709551616) (hz : z < 18446744073709551616) (hn : nanB x = true ∨ (nanB x = false ∧ nanB y = true) ∨ (nanB x = false ∧ nanB y = false ∧ nanB z = true)) (w : World) : Calls Try.prog 9 #[.int .u64 (x : Int), .int .u64 (y : Int), .int .u64 (z : Int)] w (NYes w) := by
  have c1 := kind3 x
  have c2 := kind3 y
  have c3 := kind3 z
  have Hx := Lib.hid hx
  have Hy := Lib.hid hy
  have Hz := Lib.hid hz
  clear hx hy hz
  rcases hn with h | ⟨h, h'⟩ | ⟨h, h', h''⟩
  · rw [h] at c1
    clear h
    go_enter Try.func9, Try.ntmps9
    go_wp2_with (first | (go_at_call 26; refine (kind_calls _ (by first | exact Hx.out | exact Hy.out | exact Hz.out) _).mono ?_; rintro e w' ⟨rfl, rfl⟩) | (go_at_call 10; refine (awake_calls _).mono ?_; rintro e w1 ⟨rfl, k01⟩))
    go_ret
    exact yes_of rfl k01
  · rw [h] at c1
    rw [h'] at c2
    clear h h'
    go_enter Try.func9, Try.ntmps9
    go_wp2_with (first | (go_at_call 26; refine (kind_calls _ (by first | exact Hx.out | exact Hy.out | exact Hz.out) _).mono ?_; rintro e w' ⟨rfl, rfl⟩) | (go_at_call 10; refine (awake_calls _).mono ?_; rintro e w1 ⟨rfl, k01⟩))
    go_ret
    exact yes_of rfl k01
  · rw [h] at c1
    rw [h'] at c2
    rw [h''] at c3
    clear h h' h''
    go_enter Try.func9, Try.ntmps9
    go_wp2_with (first | (go_at_call 26; refine (kind_calls _ (by first | exact Hx.out | exact Hy.out | exact Hz.out) _).mono ?_; rintro e w' ⟨rfl, rfl⟩) | (go_at_call 10; refine (awake_calls _).mono ?_; rintro e w1 ⟨rfl, k01⟩))
    go_ret
    exact yes_of rfl k01

theorem order_walk1 (x y z : Nat) (hx : x < 18446744073709551616) (hy : y < 18446744073709551616) (hz : z < 18446744073709551616) (nx : nanB x = false) (ny : nanB y = false) (nz : nanB z = false) (lo hi : Nat) (S : Stand x y lo hi true false false) (w : World) : Calls Try.prog 9 #[.int .u64 (x : Int), .int .u64 (y : Int), .int .u64 (z : Int)] w (NYes w) := by
  have c1 := kind3 x
  have c2 := kind3 y
  have c3 := kind3 z
  rw [nx] at c1
  rw [ny] at c2
  rw [nz] at c3
  have l1 := S.l1
  have l2 := S.l2
  have Hlow := Lib.hid S.low
  have Hhigh := Lib.hid S.high
  have l3 := S.back
  have ch : Hid (lessB x y = true → lessB y z = true → lessB x z = true) := less_chain
  have Hx := Lib.hid hx
  have Hy := Lib.hid hy
  have Hz := Lib.hid hz
  have z1 := kind1 x
  have z2 := kind1 y
  have wh := Lib.hid (S.which.imp (fun h => And.intro h.1.symm h.2.symm) (fun h => And.intro h.1 (And.intro h.2.1.symm h.2.2.symm)))
  have e0 := eq_self x
  have e1 := eq_self y
  have hn : ¬ (x = y ∨ (rungOf x = 0 ∧ rungOf y = 0)) := fun h => by simpa using S.alike.2 h
  have hxy : x ≠ y := fun h => hn (.inl h)
  have ne := int_ne hxy
  have ne' := int_ne (Ne.symm hxy)
  clear S hx hy hz nx ny nz
  rcases wh.out with ⟨rfl, rfl⟩ | ⟨_, rfl, rfl⟩
  rotate_left
  · exact absurd (l1.symm.trans l3) (by decide)
  all_goals
    clear wh
    by_cases hz1 : rungOf x = 0
    · have hz2 : ¬ rungOf y = 0 := fun h => hn (.inr ⟨hz1, h⟩)
      rw [decide_eq_true hz1] at z1
      rw [decide_eq_false hz2] at z2
      clear hn hxy hz1 hz2
      cases l4 : lessB y z
      · go_enter Try.func9, Try.ntmps9
        go_wp2_with (first | (go_at_call 26; refine (kind_calls _ (by first | exact Hx.out | exact Hy.out | exact Hz.out) _).mono ?_; rintro e w' ⟨rfl, rfl⟩) | (go_at_call 20; refine (less_calls _ _ _).mono ?_; rintro e w' ⟨rfl, rfl⟩) | (go_at_call 16; refine (min_calls _ _ Hx.out Hy.out _).mono ?_; rintro e w' ⟨rfl, rfl⟩; rw [Hlow.out]) | (go_at_call 18; refine (max_calls _ _ Hx.out Hy.out _).mono ?_; rintro e w' ⟨rfl, rfl⟩; rw [Hhigh.out]) | (go_at_call 10; refine (awake_calls _).mono ?_; rintro e w1 ⟨rfl, k01⟩))
        go_ret
        exact yes_of rfl k01
      · have l5 := ch.out l1 l4
        go_enter Try.func9, Try.ntmps9
        go_wp2_with (first | (go_at_call 26; refine (kind_calls _ (by first | exact Hx.out | exact Hy.out | exact Hz.out) _).mono ?_; rintro e w' ⟨rfl, rfl⟩) | (go_at_call 20; refine (less_calls _ _ _).mono ?_; rintro e w' ⟨rfl, rfl⟩) | (go_at_call 16; refine (min_calls _ _ Hx.out Hy.out _).mono ?_; rintro e w' ⟨rfl, rfl⟩; rw [Hlow.out]) | (go_at_call 18; refine (max_calls _ _ Hx.out Hy.out _).mono ?_; rintro e w' ⟨rfl, rfl⟩; rw [Hhigh.out]) | (go_at_call 10; refine (awake_calls _).mono ?_; rintro e w1 ⟨rfl, k01⟩))
        go_ret
        exact yes_of rfl k01
    · rw [decide_eq_false hz1] at z1
      clear hn hxy hz1 z2
      cases l4 : lessB y z
      · go_enter Try.func9, Try.ntmps9
        go_wp2_with (first | (go_at_call 26; refine (kind_calls _ (by first | exact Hx.out | exact Hy.out | exact Hz.out) _).mono ?_; rintro e w' ⟨rfl, rfl⟩) | (go_at_call 20; refine (less_calls _ _ _).mono ?_; rintro e w' ⟨rfl, rfl⟩) | (go_at_call 16; refine (min_calls _ _ Hx.out Hy.out _).mono ?_; rintro e w' ⟨rfl, rfl⟩; rw [Hlow.out]) | (go_at_call 18; refine (max_calls _ _ Hx.out Hy.out _).mono ?_; rintro e w' ⟨rfl, rfl⟩; rw [Hhigh.out]) | (go_at_call 10; refine (awake_calls _).mono ?_; rintro e w1 ⟨rfl, k01⟩))
        go_ret
        exact yes_of rfl k01
      · have l5 := ch.out l1 l4
        go_enter Try.func9, Try.ntmps9
        go_wp2_with (first | (go_at_call 26; refine (kind_calls _ (by first | exact Hx.out | exact Hy.out | exact Hz.out) _).mono ?_; rintro e w' ⟨rfl, rfl⟩) | (go_at_call 20; refine (less_calls _ _ _).mono ?_; rintro e w' ⟨rfl, rfl⟩) | (go_at_call 16; refine (min_calls _ _ Hx.out Hy.out _).mono ?_; rintro e w' ⟨rfl, rfl⟩; rw [Hlow.out]) | (go_at_call 18; refine (max_calls _ _ Hx.out Hy.out _).mono ?_; rintro e w' ⟨rfl, rfl⟩; rw [Hhigh.out]) | (go_at_call 10; refine (awake_calls _).mono ?_; rintro e w1 ⟨rfl, k01⟩))
        go_ret
        exact yes_of rfl k01
theorem order_walk2 (x y z : Nat) (hx : x < 18446744073709551616) (hy : y < 18446744073709551616) (hz : z < 18446744073709551616) (nx : nanB x = false) (ny : nanB y = false) (nz : nanB z = false) (lo hi : Nat) (S : Stand x y lo hi false true false) (w : World) : Calls Try.prog 9 #[.int .u64 (x : Int), .int .u64 (y : Int), .int .u64 (z : Int)] w (NYes w) := by
  have c1 := kind3 x
  have c2 := kind3 y
  have c3 := kind3 z
  rw [nx] at c1
  rw [ny] at c2
  rw [nz] at c3
  have l1 := S.l1
  have l2 := S.l2
  have Hlow := Lib.hid S.low
  have Hhigh := Lib.hid S.high
  have l3 := S.back
  have ch : Hid (lessB x y = true → lessB y z = true → lessB x z = true) := less_chain
  have Hx := Lib.hid hx
  have Hy := Lib.hid hy
  have Hz := Lib.hid hz
  have z1 := kind1 x
  have z2 := kind1 y
  have wh := Lib.hid (S.which.imp (fun h => And.intro h.1.symm h.2.symm) (fun h => And.intro h.1 (And.intro h.2.1.symm h.2.2.symm)))
  have e0 := eq_self x
  have e1 := eq_self y
  have hn : ¬ (x = y ∨ (rungOf x = 0 ∧ rungOf y = 0)) := fun h => by simpa using S.alike.2 h
  have hxy : x ≠ y := fun h => hn (.inl h)
  have ne := int_ne hxy
  have ne' := int_ne (Ne.symm hxy)
  clear S hx hy hz nx ny nz
  rcases wh.out with ⟨rfl, rfl⟩ | ⟨_, rfl, rfl⟩
  · exact absurd (l2.symm.trans l3) (by decide)
  all_goals
    clear wh
    by_cases hz1 : rungOf x = 0
    · have hz2 : ¬ rungOf y = 0 := fun h => hn (.inr ⟨hz1, h⟩)
      rw [decide_eq_true hz1] at z1
      rw [decide_eq_false hz2] at z2
      clear hn hxy hz1 hz2
      go_enter Try.func9, Try.ntmps9
      go_wp2_with (first | (go_at_call 26; refine (kind_calls _ (by first | exact Hx.out | exact Hy.out | exact Hz.out) _).mono ?_; rintro e w' ⟨rfl, rfl⟩) | (go_at_call 20; refine (less_calls _ _ _).mono ?_; rintro e w' ⟨rfl, rfl⟩) | (go_at_call 16; refine (min_calls _ _ Hx.out Hy.out _).mono ?_; rintro e w' ⟨rfl, rfl⟩; rw [Hlow.out]) | (go_at_call 18; refine (max_calls _ _ Hx.out Hy.out _).mono ?_; rintro e w' ⟨rfl, rfl⟩; rw [Hhigh.out]) | (go_at_call 10; refine (awake_calls _).mono ?_; rintro e w1 ⟨rfl, k01⟩))
      go_ret
      exact yes_of rfl k01
    · rw [decide_eq_false hz1] at z1
      clear hn hxy hz1 z2
      go_enter Try.func9, Try.ntmps9
      go_wp2_with (first | (go_at_call 26; refine (kind_calls _ (by first | exact Hx.out | exact Hy.out | exact Hz.out) _).mono ?_; rintro e w' ⟨rfl, rfl⟩) | (go_at_call 20; refine (less_calls _ _ _).mono ?_; rintro e w' ⟨rfl, rfl⟩) | (go_at_call 16; refine (min_calls _ _ Hx.out Hy.out _).mono ?_; rintro e w' ⟨rfl, rfl⟩; rw [Hlow.out]) | (go_at_call 18; refine (max_calls _ _ Hx.out Hy.out _).mono ?_; rintro e w' ⟨rfl, rfl⟩; rw [Hhigh.out]) | (go_at_call 10; refine (awake_calls _).mono ?_; rintro e w1 ⟨rfl, k01⟩))
      go_ret
      exact yes_of rfl k01
theorem order_walk3 (x y z : Nat) (hx : x < 18446744073709551616) (hy : y < 18446744073709551616) (hz : z < 18446744073709551616) (nx : nanB x = false) (ny : nanB y = false) (nz : nanB z = false) (lo hi : Nat) (S : Stand x y lo hi false false true) (w : World) : Calls Try.prog 9 #[.int .u64 (x : Int), .int .u64 (y : Int), .int .u64 (z : Int)] w (NYes w) := by
  have c1 := kind3 x
  have c2 := kind3 y
  have c3 := kind3 z
  rw [nx] at c1
  rw [ny] at c2
  rw [nz] at c3
  have l1 := S.l1
  have l2 := S.l2
  have Hlow := Lib.hid S.low
  have Hhigh := Lib.hid S.high
  have l3 := S.back
  have ch : Hid (lessB x y = true → lessB y z = true → lessB x z = true) := less_chain
  have Hx := Lib.hid hx
  have Hy := Lib.hid hy
  have Hz := Lib.hid hz
  have z1 := kind1 x
  have z2 := kind1 y
  have wh := Lib.hid (S.which.imp (fun h => And.intro h.1.symm h.2.symm) (fun h => And.intro h.1 (And.intro h.2.1.symm h.2.2.symm)))
  have e0 := eq_self x
  have e1 := eq_self y
  have hs := S.alike.1 rfl
  clear S hx hy hz nx ny nz
  by_cases hxy : x = y
  · subst hxy
    have ex : x = lo ∧ x = hi := by rcases wh.out with h | ⟨_, h1, h2⟩; exact h; exact ⟨h1, h2⟩
    obtain ⟨rfl, rfl⟩ := ex
    clear wh hs z1 z2
    go_enter Try.func9, Try.ntmps9
    go_wp2_with (first | (go_at_call 26; refine (kind_calls _ (by first | exact Hx.out | exact Hy.out | exact Hz.out) _).mono ?_; rintro e w' ⟨rfl, rfl⟩) | (go_at_call 20; refine (less_calls _ _ _).mono ?_; rintro e w' ⟨rfl, rfl⟩) | (go_at_call 16; refine (min_calls _ _ Hx.out Hy.out _).mono ?_; rintro e w' ⟨rfl, rfl⟩; rw [Hlow.out]) | (go_at_call 18; refine (max_calls _ _ Hx.out Hy.out _).mono ?_; rintro e w' ⟨rfl, rfl⟩; rw [Hhigh.out]) | (go_at_call 10; refine (awake_calls _).mono ?_; rintro e w1 ⟨rfl, k01⟩))
    go_ret
    exact yes_of rfl k01
  · have hzz : rungOf x = 0 ∧ rungOf y = 0 := hs.resolve_left hxy
    have ne := int_ne hxy
    have ne' := int_ne (Ne.symm hxy)
    rw [decide_eq_true hzz.1] at z1
    rw [decide_eq_true hzz.2] at z2
    clear hzz hs
    rcases wh.out with ⟨rfl, rfl⟩ | ⟨_, rfl, rfl⟩
    all_goals
      clear wh hxy
      go_enter Try.func9, Try.ntmps9
      go_wp2_with (first | (go_at_call 26; refine (kind_calls _ (by first | exact Hx.out | exact Hy.out | exact Hz.out) _).mono ?_; rintro e w' ⟨rfl, rfl⟩) | (go_at_call 20; refine (less_calls _ _ _).mono ?_; rintro e w' ⟨rfl, rfl⟩) | (go_at_call 16; refine (min_calls _ _ Hx.out Hy.out _).mono ?_; rintro e w' ⟨rfl, rfl⟩; rw [Hlow.out]) | (go_at_call 18; refine (max_calls _ _ Hx.out Hy.out _).mono ?_; rintro e w' ⟨rfl, rfl⟩; rw [Hhigh.out]) | (go_at_call 10; refine (awake_calls _).mono ?_; rintro e w1 ⟨rfl, k01⟩))
      go_ret
      exact yes_of rfl k01

theorem order_walk (x y z : Nat) (hx : x < 18446744073709551616) (hy : y < 18446744073709551616) (hz : z < 18446744073709551616) (nx : nanB x = false) (ny : nanB y = false) (nz : nanB z = false) (w : World) : Calls Try.prog 9 #[.int .u64 (x : Int), .int .u64 (y : Int), .int .u64 (z : Int)] w (NYes w) := by
  obtain ⟨lo, hi, b1, b2, al, S⟩ := stand hx hy nx ny
  rcases S.one with ⟨rfl, rfl, rfl⟩ | ⟨rfl, rfl, rfl⟩ | ⟨rfl, rfl, rfl⟩
  · exact order_walk1 x y z hx hy hz nx ny nz lo hi S w
  · exact order_walk2 x y z hx hy hz nx ny nz lo hi S w
  · exact order_walk3 x y z hx hy hz nx ny nz lo hi S w

theorem order_row (w : World) (a : Int) (wa : (Lit.int .u64 a).wf = true) (b : Int) (wb : (Lit.int .u64 b).wf = true) (c : Int) (wc : (Lit.int .u64 c).wf = true) : Calls Try.prog 9 #[.int .u64 a, .int .u64 b, .int .u64 c] w fun e w' => e = .returned (.bool true) ∧ Below w.heap.size w w' := by
  obtain ⟨x, rfl, hx⟩ := word_of wa
  obtain ⟨y, rfl, hy⟩ := word_of wb
  obtain ⟨z, rfl, hz⟩ := word_of wc
  cases nx : nanB x
  · cases ny : nanB y
    · cases nz : nanB z
      · exact order_walk x y z hx hy hz nx ny nz w
      · exact order_none_walk x y z hx hy hz (.inr (.inr ⟨nx, ny, nz⟩)) w
    · exact order_none_walk x y z hx hy hz (.inr (.inl ⟨nx, ny⟩)) w
  · exact order_none_walk x y z hx hy hz (.inl nx) w
end Go.Proofs.Ytdljdepccpmifaa
