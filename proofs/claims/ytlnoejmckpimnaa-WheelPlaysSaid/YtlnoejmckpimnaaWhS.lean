/- slices.Sort at a row of the call's own. (The laying is the plain text of the kit's own laying at this seat's numbers.) -/
import Derived.Test.YtlnoejmckpimnaaProg
import Derived.Test.YtlnoejmckpimnaaMem
import Derived.Test.YtlnoejmckpimnaaLst
import Derived.Shelf.Sort.Plain
import Derived.Shelf.Slices.In.SortNone
import Derived.Sort.OwnSortedInts
namespace Go.Proofs.Ytlnoejmckpimnaa
open Go.RowKit Go.Shelf
namespace Wh
def sortLay_ren : Go.Shelf.Ren := ⟨fun | 189 => 46 | 125 => 62 | 257 => 61 | 128 => 77 | 129 => 78 | 294 => 68 | 295 => 69 | 296 => 70 | 297 => 71 | 298 => 72 | 299 => 73 | 216 => 74 | 300 => 75 | 301 => 76 | 328 => 83 | 329 => 84 | 330 => 85 | 331 => 86 | 332 => 87 | 215 => 88 | 343 => 90 | n => n, fun | 28 => 23 | 3 => 3 | 46 => 89 | 0 => 0 | 51 => 105 | 53 => 26 | 4 => 4 | 183 => 98 | 182 => 97 | 131 => 60 | 5 => 5 | 9 => 9 | 218 => 109 | 222 => 112 | 228 => 115 | 229 => 116 | n => n, fun | n => n⟩
theorem sortLay : Go.Proofs.Lays.n189 Try.prog sortLay_ren := {
  mixed := by kernel_rfl,
  f125 := Try.func62.trans (congrArg some (by kernel_rfl)),
  f128 := Try.func77.trans (congrArg some (by kernel_rfl)),
  f129 := Try.func78.trans (congrArg some (by kernel_rfl)),
  f189 := Try.func46.trans (congrArg some (by kernel_rfl)),
  f215 := Try.func88.trans (congrArg some (by kernel_rfl)),
  f216 := Try.func74.trans (congrArg some (by kernel_rfl)),
  f257 := Try.func61.trans (congrArg some (by kernel_rfl)),
  f294 := Try.func68.trans (congrArg some (by kernel_rfl)),
  f295 := Try.func69.trans (congrArg some (by kernel_rfl)),
  f296 := Try.func70.trans (congrArg some (by kernel_rfl)),
  f297 := Try.func71.trans (congrArg some (by kernel_rfl)),
  f298 := Try.func72.trans (congrArg some (by kernel_rfl)),
  f299 := Try.func73.trans (congrArg some (by kernel_rfl)),
  f300 := Try.func75.trans (congrArg some (by kernel_rfl)),
  f301 := Try.func76.trans (congrArg some (by kernel_rfl)),
  f328 := Try.func83.trans (congrArg some (by kernel_rfl)),
  f329 := Try.func84.trans (congrArg some (by kernel_rfl)),
  f330 := Try.func85.trans (congrArg some (by kernel_rfl)),
  f331 := Try.func86.trans (congrArg some (by kernel_rfl)),
  f332 := Try.func87.trans (congrArg some (by kernel_rfl)),
  f343 := Try.func90.trans (congrArg some (by kernel_rfl)),
  t0 := Try.underlying0,
  a0 := Try.isAgg0,
  z0 := Try.sizeOf0,
  v0 := Try.zeroValue0,
  t3 := Try.underlying3,
  a3 := Try.isAgg3,
  z3 := Try.sizeOf3,
  v3 := Try.zeroValue3,
  t4 := Try.underlying4,
  a4 := Try.isAgg4,
  z4 := Try.sizeOf4,
  v4 := Try.zeroValue4,
  t5 := Try.underlying5,
  a5 := Try.isAgg5,
  z5 := Try.sizeOf5,
  v5 := Try.zeroValue5,
  t9 := Try.underlying9,
  a9 := Try.isAgg9,
  z9 := Try.sizeOf9,
  v9 := Try.zeroValue9,
  t28 := Try.underlying23,
  a28 := Try.isAgg23,
  z28 := Try.sizeOf23,
  v28 := Try.zeroValue23,
  t46 := Try.underlying89,
  a46 := Try.isAgg89,
  z46 := Try.sizeOf89,
  v46 := Try.zeroValue89,
  t51 := Try.underlying105,
  a51 := Try.isAgg105,
  z51 := Try.sizeOf105,
  v51 := Try.zeroValue105,
  t53 := Try.underlying26,
  a53 := Try.isAgg26,
  z53 := Try.sizeOf26,
  v53 := Try.zeroValue26,
  t131 := Try.underlying60,
  a131 := Try.isAgg60,
  z131 := Try.sizeOf60,
  v131 := Try.zeroValue60,
  t182 := Try.underlying97,
  a182 := Try.isAgg97,
  z182 := Try.sizeOf97,
  v182 := Try.zeroValue97,
  t183 := Try.underlying98,
  a183 := Try.isAgg98,
  z183 := Try.sizeOf98,
  v183 := Try.zeroValue98,
  t218 := Try.underlying109,
  a218 := Try.isAgg109,
  z218 := Try.sizeOf109,
  v218 := Try.zeroValue109,
  t222 := Try.underlying112,
  a222 := Try.isAgg112,
  z222 := Try.sizeOf112,
  v222 := Try.zeroValue112,
  t228 := Try.underlying115,
  a228 := Try.isAgg115,
  z228 := Try.sizeOf115,
  v228 := Try.zeroValue115,
  t229 := Try.underlying116,
  a229 := Try.isAgg116,
  z229 := Try.sizeOf116,
  v229 := Try.zeroValue116 }

/-- The row in order. -/
def sorted (ks : List Int) : List Int := ks.mergeSort fun x y => decide (x ≤ y)

theorem sorted_len (ks : List Int) : (sorted ks).length = ks.length := List.length_mergeSort ks
theorem sorted_mem (ks : List Int) (x : Int) : x ∈ sorted ks ↔ x ∈ ks := List.mem_mergeSort

theorem sorted_lt {ks : List Int} (h : ks.Nodup) : (sorted ks).Pairwise (· < ·) := by
  have h1 : (sorted ks).Pairwise (fun x y => decide (x ≤ y) = true) := List.pairwise_mergeSort (fun a b c hab hbc => by simp at hab hbc ⊢; omega) (fun a b => by simp; omega) ks
  have h2 : (sorted ks).Nodup := (List.mergeSort_perm ks _).nodup_iff.2 h
  have h3 := h1.and h2
  exact h3.imp (fun {a b} hab => by have := hab.1; have := hab.2; simp at *; omega)

theorem sort_calls {w : World} {v : Value} {ks : List Int} (h : Own w 3 1 v ks.length (ks.map (Value.int .i64))) (hl : ks.length ≤ 1000) :
    Calls Try.prog 46 #[v] w fun e w' => e = .returned (.tuple #[]) ∧ Own w' 3 1 v ks.length ((sorted ks).map (Value.int .i64)) ∧ Keeps (fun b => v.ownBlock = some b) w w' := by
  rcases h.2 with ⟨rfl, h0⟩ | ⟨g, cap, cur, rfl, hb0, hg, hn, hcm, hsz, htk⟩
  · have hk : ks = [] := List.eq_nil_of_length_eq_zero h0
    subst hk
    refine (calls_of_every_depth fun D => AnyS.slices_Sort_int_none_in sortLay D none 0 w).mono ?_
    rintro e w' ⟨rfl, rfl⟩
    exact ⟨rfl, by rw [show sorted [] = [] from by unfold sorted; simp]; exact h, Keeps.refl _ _⟩
  · refine (Any.slices_Sort_int sortLay g 0 cap ks w (holds_of_blockI hg (by simpa using htk)) (lt_of_block hg) (by omega)).mono ?_
    rintro e w' ⟨rfl, n, os, rfl⟩
    refine ⟨rfl, ownsRow_sortedI (by exact sorted_len ks) hb0 hg hn hcm hsz, ?_⟩
    exact (Keeps.of_grown (grownBy_sortedI _)).mono (fun k _ hk => by rw [← hk]; rfl)
end Wh
end Go.Proofs.Ytlnoejmckpimnaa
