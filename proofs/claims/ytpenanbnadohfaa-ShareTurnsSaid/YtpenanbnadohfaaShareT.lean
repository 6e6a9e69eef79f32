/- ShareTurns's walk. -/
import Derived.Test.YtpenanbnadohfaaShareW
namespace Go.Proofs.Ytpenanbnadohfaa
open Go.RowKit Sh

set_option maxRecDepth 100000 in
set_option maxHeartbeats 4000000 in
theorem turns_calls (s : Int) (A : Option Addr) (b off len cap : Nat) (zs : List Int) (turn other : Int) (w : World) (hs : 0 ≤ s ∧ s < 256) (ht : -9223372036854775808 ≤ turn ∧ turn ≤ 9223372036854775807) (ht' : -9223372036854775808 ≤ other ∧ other ≤ 9223372036854775807) (hd : IntsAt .i8 w A b off len zs) (hl : len ≤ 1000000000000000) :
    Calls Try.prog 9 #[.int .u8 s, .slice A len cap, .int .i64 turn, .int .i64 other] w fun e w' => e = .returned (.bool true) ∧ Below w.heap.size w w' := by
  have Hd := Lib.hid hd
  clear hd
  go_enter Try.func9, Try.ntmps9
  go_wp2_with fail
  go_loopw [9, 10, 11] (fun v9 v10 i wr => ∃ (k gd cd gp cp : Nat), k ≤ 8 ∧ k ≤ len ∧ i = .int .i64 k ∧ v9 = .slice (some ⟨gd, 0, none⟩) k cd ∧ v10 = .slice (some ⟨gp, 0, none⟩) k cp ∧ Two w wr gd cd gp cp k (zs.take k) (List.replicate k 3)) (fun _ _ i _ => 8 - (intOf i).toNat)
  case atStart =>
    refine ⟨0, _, _, _, _, by omega, by omega, rfl, rfl, rfl, ⟨?_, ?_, ((Keeps.refl _ _).alloc _).alloc _, ⟨Nat.le_refl _, by omega, by omega⟩, by simp⟩⟩
    · exact World.ownsRow.alloc (World.ownsRow_lit w #[] 0 (Nat.zero_le _) (by simp [maxLen]) rfl) _
    · have := World.ownsRow_lit (base := 0) (e := 3) (size := 1) (w.alloc (.cells #[] 3)) #[] 0 (Nat.zero_le _) (by simp [maxLen]) rfl
      simpa using this
  case round =>
    obtain ⟨k, gd, cd, gp, cp, hk, hkl, rfl, rfl, rfl, T⟩ := hrel
    by_cases hlt : k < len ∧ k < 8
    · obtain ⟨h1, h3⟩ := hlt
      obtain rfl := Hd.out.addr (by omega)
      have c1 := Hd.out.cell k h1
      have hb1 : b < w.heap.size := World.block_lt_of_cell? w _ c1
      obtain ⟨x, hx⟩ : ∃ x, Hid (zs.getD k 0 = x) := ⟨_, rfl⟩
      have bx := bounds_i8 (Hd.out.wf k h1)
      rw [hx.out] at c1 bx
      rw [← T.keep.cell hb1 (fun h => h)] at c1
      go_upto_region 5 with fail
      have hwx : IntKind.i64.wrap x = x := IntWalk.i64_in _ (by omega)
      have o1 := T.own1
      have o2 := T.own2
      obtain ⟨n1, n2, n3⟩ := T.new
      have l1 := o1.lt gd rfl
      have l2 := o2.lt gp rfl
      have kw := T.keep
      clear hwx
      go_wp2_with (first
        | (at_builtin; refine wpList_app1 elInts' _ rfl (.tmp 31) (.tmp 37) rfl (.slice (some ⟨gd, 0, none⟩) k cd) _ _ rfl o1 [.int .i64 x] 3 _ rfl (by simp) rfl (by simp [Value.oneCell']) (by omega) (by decide) ?_; intro g1 c1' w1 ho1 kg1 e1)
        | (at_builtin; refine wpList_app1 elInts' _ rfl (.tmp 39) (.tmp 40) rfl (.slice (some ⟨gp, 0, none⟩) k cp) _ _ rfl (o2.keeps kg1 (fun q hq h => by simp [Value.ownBlock] at hq h; omega)) [.int .i64 3] 3 _ rfl (by simp) rfl (by simp [Value.oneCell']) (by omega) (by decide) ?_; intro g2 c2' w2 ho2 kg2 e2))
      have s1 := kg1.size
      have z1 := ho1.lt g1 rfl
      simp only [Value.ownBlock, Option.some.injEq] at e1 e2
      have own1' := ho1.keeps kg2 (fun q hq h => by simp [Value.ownBlock] at hq h; omega)
      have keep' : Keeps NoBlock w w2 := (kw.trans kg1 (fun j hj h => by simp [Value.ownBlock] at h; omega)).trans kg2 (fun j hj h => by simp [Value.ownBlock] at h; omega)
      have T' : Two w w2 g1 c1' g2 c2' (k + 1) (zs.take (k + 1)) (List.replicate (k + 1) 3) := by
        refine ⟨?_, ?_, keep', by omega, ?_⟩
        · rw [take_next hx.out (by rw [Hd.out.length]; exact h1)]; simpa using own1'
        · rw [List.replicate_succ']; simpa using ho2
        · have := Hd.out.length; simp; omega
      clear own1' keep' ho1 ho2 kg1 kg2
      go_wp2_with fail
      exact ⟨⟨k + 1, _, _, _, _, by omega, by omega, by go_num, rfl, rfl, T'⟩, by simp [intOf]; omega⟩
    · go_upto_region 3 with fail
      go_cut [28] from 21 to 27 (fun v wx => v = .bool false ∧ wr = wx)
      case first =>
        by_cases h1 : k < len
        · have h3 : 8 ≤ (k : Int) := by omega
          go_wp2_with fail
          go_meet
          case rel => exact ⟨by rw [decide_eq_false (by omega)], rfl⟩
        · have h3 : (len : Int) ≤ k := by omega
          clear h1
          go_wp2_with fail
          go_meet
          case rel => exact ⟨rfl, rfl⟩
      case rest =>
        obtain ⟨rfl, rfl⟩ := hcut
        obtain ⟨dl, hdl⟩ : ∃ dl, Hid (dl = zs.take k) := ⟨_, Lib.hid rfl⟩
        obtain ⟨pl, hpl⟩ : ∃ pl, Hid (pl = List.replicate k (3 : Int)) := ⟨_, Lib.hid rfl⟩
        rw [← hdl.out, ← hpl.out] at T
        have zl := Hd.out.length
        obtain ⟨ld, lp⟩ := T.len
        have hdb : Hid (∀ x ∈ dl, x ≤ 9223372036854775807) := fun x hx => by
          rw [hdl.out] at hx
          obtain ⟨j, hj, rfl⟩ := List.getElem_of_mem (List.mem_of_mem_take hx)
          have := bounds_i8 (Hd.out.wf j (by omega))
          simp [List.getD, hj] at this
          omega
        have hpv : Hid (∀ j, j < pl.length → 0 ≤ at0 pl j ∧ at0 pl j ≤ 7) := fun j hj => by
          rw [hpl.out] at hj ⊢
          simp only [List.length_replicate] at hj
          have : at0 (List.replicate k (3 : Int)) j = 3 := by simp [at0, hj]
          omega
        have Ld := Lib.hid ld
        have Lp := Lib.hid lp
        have r1 : ReadsI .i64 wr (.slice (some ⟨gd, 0, none⟩) k cd) dl := by have := T.own1; rw [← ld] at this ⊢; exact Own.readsI this
        have r2 : ReadsI .i64 wr (.slice (some ⟨gp, 0, none⟩) k cp) pl := by have := T.own2; rw [← lp] at this ⊢; exact Own.readsI this
        have hval : Hid (∀ m : Int, 0 ≤ m → m ≤ 64 → ShValid m dl pl) := fun m h0 h1 => ⟨by rw [Ld.out, Lp.out], by rw [Ld.out]; omega, h0, h1, hpv.out⟩
        have l1 : dl.length < 1000000000000000 := by omega
        have l2 : pl.length < 1000000000000000 := by omega
        have hkw := T.keep
        clear ld lp zl hlt T
        go_wp2_with fail
        refine (fair_calls wr _ _ dl pl (s % 64) turn r1 r2 l1 l2 hdb.out ht).mono ?_
        rintro e w2 hf2
        obtain ⟨va, oa, rfl, ⟨ha, _⟩, hk2, hra⟩ := hf2
        have Sa : Hid (Sh.Spec (s % 64) dl pl k (firstOf turn k) oa) := by
          rcases hra with ⟨_, h⟩ | ⟨h, _⟩
          · rw [Ld.out] at h; exact h
          · exact absurd (hval.out _ (by omega) (by omega)) h
        clear hra
        have q1 := r1.keeps hk2 (fun _ _ h => h)
        have q2 := r2.keeps hk2 (fun _ _ h => h)
        go_wp2_with fail
        refine (fair_calls w2 _ _ dl pl (s % 64) other q1 q2 l1 l2 hdb.out ht').mono ?_
        rintro e w3 hf3
        obtain ⟨vb, ob, rfl, ⟨hb, _⟩, hk3, hrb⟩ := hf3
        have Sb : Hid (Sh.Spec (s % 64) dl pl k (firstOf other k) ob) := by
          rcases hrb with ⟨_, h⟩ | ⟨h, _⟩
          · rw [Ld.out] at h; exact h
          · exact absurd (hval.out _ (by omega) (by omega)) h
        clear hrb
        have t1 := q1.keeps hk3 (fun _ _ h => h)
        have t2 := q2.keeps hk3 (fun _ _ h => h)
        go_wp2_with fail
        refine (fair_calls w3 _ _ dl pl (s % 64 + 1) turn t1 t2 l1 l2 hdb.out ht).mono ?_
        rintro e w4 hf4
        obtain ⟨vc, oc, rfl, ⟨hc, _⟩, hk4, hrc⟩ := hf4
        have Sc : Hid (Sh.Spec (s % 64 + 1) dl pl k (firstOf turn k) oc) := by
          rcases hrc with ⟨_, h⟩ | ⟨h, _⟩
          · rw [Ld.out] at h; exact h
          · exact absurd (hval.out _ (by omega) (by omega)) h
        clear hrc r1 r2 q1 q2 t1 t2
        have hkw4 : Keeps NoBlock w w4 := ((hkw.trans hk2 (fun _ _ h => h)).trans hk3 (fun _ _ h => h)).trans hk4 (fun _ _ h => h)
        have ra := ((Own.readsI ha).keeps hk3 (fun _ _ h => h)).keeps hk4 (fun _ _ h => h)
        have rb := (Own.readsI hb).keeps hk4 (fun _ _ h => h)
        have rc := Own.readsI hc
        obtain ⟨Aa, ba, fa, ca, rfl, hAa, hca⟩ := ra
        obtain ⟨Ab, bb, fb, cb, rfl, hAb, hcb⟩ := rb
        obtain ⟨Ac, bc, fc, cc, rfl, hAc, hcc⟩ := rc
        rw [Sa.out.len] at hAa ⊢
        rw [Sb.out.len] at hAb ⊢
        rw [Sc.out.len] at hAc ⊢
        have cellOf : ∀ (o : List Int) (A : Option Addr) (q f : Nat), o.length = k → (0 < k → A = some ⟨q, f, none⟩ ∧ q < w4.heap.size) → (∀ (j : Nat) (x : Int), o[j]? = some x → w4.cell? ⟨q, f + j, none⟩ = some (.int .i64 x)) →
            ∀ w', Keeps NoBlock w4 w' → ∀ j, j < k → w'.cell? ⟨q, f + j, none⟩ = some (.int .i64 (at0 o j)) := fun o A q f hl hA hc w' hk j hj => by
          rw [hk.cell (hA (by omega)).2 (fun h => h)]
          have : j < o.length := by rw [hl]; exact hj
          exact hc j _ (by simp [at0, this])
        have Ca := Lib.hid (cellOf oa Aa ba fa Sa.out.len hAa hca)
        have Cb := Lib.hid (cellOf ob Ab bb fb Sb.out.len hAb hcb)
        have Cc := Lib.hid (cellOf oc Ac bc fc Sc.out.len hAc hcc)
        have HAa := Lib.hid hAa
        have HAb := Lib.hid hAb
        have HAc := Lib.hid hAc
        clear cellOf hAa hAb hAc hca hcb hcc ha hb hc hk2 hk3 hk4 hkw
        have sa := Lib.hid (take_sum_bd (o := oa) (fun i hi => Sa.out.lo i (by rw [← Sa.out.len]; exact hi)))
        have sb := Lib.hid (take_sum_bd (o := ob) (fun i hi => Sb.out.lo i (by rw [← Sb.out.len]; exact hi)))
        have hkk : ((k : Int) != k) = false := by simp
        go_wp2_with fail
        have hma := Sa.out.sum
        have hmb := Sb.out.sum
        obtain ⟨ta, hta⟩ : ∃ ta, Hid (oa.sum = ta) := ⟨_, Lib.hid rfl⟩
        have htb : Hid (ob.sum = ta) := Lib.hid (by rw [← hta.out]; exact (Sa.out.sum_eq Sb.out).symm)
        rw [hta.out] at hma
        rw [htb.out] at hmb
        have la := Lib.hid Sa.out.len
        have lb := Lib.hid Sb.out.len
        have mono := Lib.hid (Sa.out.mono Sc.out (by omega))
        go_loopw [16, 17, 18] (fun v u i wx => ∃ q : Nat, q ≤ k ∧ i = .int .i64 q ∧ ∃ x y, Hid (x = (oa.take q).sum) ∧ Hid (y = (ob.take q).sum) ∧ v = .int .i64 x ∧ u = .int .i64 y ∧ Keeps NoBlock w4 wx) (fun _ _ i _ => k - (intOf i).toNat)
        case atStart => exact ⟨0, Nat.zero_le _, rfl, 0, 0, Lib.hid (by simp), Lib.hid (by simp), rfl, rfl, Keeps.refl _ _⟩
        case round =>
          obtain ⟨q, hq, rfl, x, y, hx, hy, rfl, rfl, hkx⟩ := hrel
          by_cases hql : q < k
          · obtain ⟨rfl, _⟩ := HAa.out (by omega)
            obtain ⟨rfl, _⟩ := HAb.out (by omega)
            obtain ⟨rfl, _⟩ := HAc.out (by omega)
            have c1 := Ca.out _ hkx q hql
            have c2 := Cb.out _ hkx q hql
            have c3 := Cc.out _ hkx q hql
            have m1 := mono.out q hql
            have b1 := sa.out q (by rw [la.out]; omega)
            have b2 := sa.out (q + 1) (by rw [la.out]; omega)
            have b3 := sb.out q (by rw [lb.out]; omega)
            have b4 := sb.out (q + 1) (by rw [lb.out]; omega)
            have x2 := take_sum (o := oa) (i := q) (by rw [la.out]; exact hql)
            have y2 := take_sum (o := ob) (i := q) (by rw [lb.out]; exact hql)
            rw [x2, ← hx.out, hta.out] at b2
            rw [← hx.out, hta.out] at b1
            rw [y2, ← hy.out, htb.out] at b4
            rw [← hy.out, htb.out] at b3
            obtain ⟨p, hp⟩ : ∃ p, Hid (at0 oa q = p) := ⟨_, Lib.hid rfl⟩
            obtain ⟨r, hr⟩ : ∃ r, Hid (at0 ob q = r) := ⟨_, Lib.hid rfl⟩
            obtain ⟨z, hz⟩ : ∃ z, Hid (at0 oc q = z) := ⟨_, Lib.hid rfl⟩
            have x3 : Hid (x + p = (oa.take (q + 1)).sum) := Lib.hid (by rw [x2, ← hx.out, hp.out])
            have y3 : Hid (y + r = (ob.take (q + 1)).sum) := Lib.hid (by rw [y2, ← hy.out, hr.out])
            rw [hp.out] at c1 m1 b2
            rw [hr.out] at c2 b4
            rw [hz.out] at c3 m1
            clear x2 y2
            have hw1 : IntKind.i64.wrap (x + p) = x + p := IntWalk.i64_in _ (by omega)
            have hw2 : IntKind.i64.wrap (y + r) = y + r := IntWalk.i64_in _ (by omega)
            go_upto_region 14 with fail
            go_quiet (fail)
            have c1' : (wr.drewN nq).cell? ⟨ba, fa + q, none⟩ = some (.int .i64 p) := c1
            have c3' : (wr.drewN nq).cell? ⟨bc, fc + q, none⟩ = some (.int .i64 z) := c3
            go_upto_region 15 with fail
            go_quiet (fail)
            go_wp2_with fail
            exact ⟨⟨q + 1, by omega, by go_num, _, _, x3, y3, rfl, rfl, hkx.drewN _⟩, by simp [intOf]; omega⟩
          · obtain rfl : k = q := by omega
            obtain rfl : ta = x := by rw [hx.out, ← hta.out, List.take_of_length_le (by rw [la.out]; exact Nat.le_refl _)]
            obtain rfl : ta = y := by rw [hy.out, ← htb.out, List.take_of_length_le (by rw [lb.out]; exact Nat.le_refl _)]
            have hee : (ta == ta) = true := by simp
            clear hx hy
            go_wp2_with fail
            refine (awake12_calls _).mono ?_
            rintro e w9 ⟨rfl, hk9⟩
            go_wp2_with fail
            go_ret
            exact ⟨rfl, ((hkw4.trans hkx (fun _ _ h => h)).trans hk9 (fun _ _ h => h)).below (Nat.le_refl _) (fun _ h => h.elim)⟩

theorem turns_any (w : World) (s : Int) (hs : (Lit.int .u8 s).wf = true) (A : Option Addr) (b off len cap : Nat) (zs : List Int) (hd : IntsAt .i8 w A b off len zs) (hl : len * 1 ≤ 140737488351232) (turn : Int) (ht : (Lit.int .i64 turn).wf = true) (other : Int) (ho : (Lit.int .i64 other).wf = true) :
    Calls Try.prog 9 #[.int .u8 s, .slice A len cap, .int .i64 turn, .int .i64 other] w fun e w' => e = .returned (.bool true) ∧ Below w.heap.size w w' := by
  have h1 := bounds_u8 hs
  have h2 := bounds_i64 ht
  have h3 := bounds_i64 ho
  exact turns_calls s A b off len cap zs turn other w (by omega) (by omega) (by omega) hd (by omega)
end Go.Proofs.Ytpenanbnadohfaa
