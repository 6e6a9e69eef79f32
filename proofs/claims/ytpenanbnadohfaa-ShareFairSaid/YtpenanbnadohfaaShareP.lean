/- How processors are shared out, as plain arithmetic on lists: what a fair sharing is, that there is one only, and how it moves with what is asked. -/
namespace Go.Proofs.Ytpenanbnadohfaa.Sh

abbrev at0 (l : List Int) (i : Nat) : Int := l.getD i 0

/-- A unit's place in the row of all units: priority, how many its space has already, and how far its space is from the first. -/
def before (p1 u1 : Int) (r1 : Nat) (p2 u2 : Int) (r2 : Nat) : Prop := p1 > p2 ∨ (p1 = p2 ∧ (u1 < u2 ∨ (u1 = u2 ∧ r1 < r2)))

instance (p1 u1 : Int) (r1 : Nat) (p2 u2 : Int) (r2 : Nat) : Decidable (before p1 u1 r1 p2 u2 r2) := by unfold before; infer_instance

def rank (n first i : Nat) : Nat := (i + n - first) % n

structure Spec (procs : Int) (d pr : List Int) (n first : Nat) (o : List Int) : Prop where
  len : o.length = n
  lo : ∀ i, i < n → 0 ≤ at0 o i
  hi : ∀ i, i < n → at0 o i ≤ max (at0 d i) 0
  sum : o.sum ≤ procs
  all : o.sum = procs ∨ ∀ i, i < n → at0 d i ≤ at0 o i
  key : ∀ i j, i < n → j < n → i ≠ j → 0 < at0 o i → at0 o j < at0 d j → before (at0 pr i) (at0 o i - 1) (rank n first i) (at0 pr j) (at0 o j) (rank n first j)

theorem exchange {m1 m2 : Int} {d e pr : List Int} {n first : Nat} {a b : List Int} (A : Spec m1 d pr n first a) (B : Spec m2 e pr n first b) {i j : Nat} (hi : i < n) (hj : j < n)
    (h1 : at0 b i < at0 a i) (h2 : at0 a j < at0 b j) (h3 : at0 b i < at0 e i) (h4 : at0 a j < at0 d j) : False := by
  have hij : i ≠ j := fun e => by subst e; omega
  have l1 := A.lo j hj
  have l2 := B.lo i hi
  have k1 := A.key i j hi hj hij (by omega) h4
  have k2 := B.key j i hj hi hij.symm (by omega) h3
  unfold before at k1 k2
  omega

theorem sum_le_of_all {a b : List Int} : ∀ (_ : a.length = b.length) (_ : ∀ i, i < a.length → at0 a i ≤ at0 b i), a.sum ≤ b.sum := by
  induction a generalizing b with
  | nil => intro h _; cases b with
    | nil => simp
    | cons => simp at h
  | cons x a ih =>
    intro h hle
    cases b with
    | nil => simp at h
    | cons y b =>
      have h0 := hle 0 (by simp)
      have := ih (b := b) (by simpa using h) (fun i hi => by have := hle (i + 1) (by simpa using hi); simpa [at0] using this)
      simp [at0] at h0
      simp only [List.sum_cons]
      omega

theorem sum_lt_of {a b : List Int} : ∀ (_ : a.length = b.length) (_ : ∀ i, i < a.length → at0 a i ≤ at0 b i) (k : Nat) (_ : k < a.length) (_ : at0 a k < at0 b k), a.sum < b.sum := by
  induction a generalizing b with
  | nil => intro _ _ k hk; simp at hk
  | cons x a ih =>
    intro h hle k hk hlt
    cases b with
    | nil => simp at h
    | cons y b =>
      have h0 := hle 0 (by simp)
      simp [at0] at h0
      have hle' : ∀ i, i < a.length → at0 a i ≤ at0 b i := fun i hi => by have := hle (i + 1) (by simpa using hi); simpa [at0] using this
      simp only [List.sum_cons]
      cases k with
      | zero =>
        have := sum_le_of_all (a := a) (b := b) (by simpa using h) hle'
        simp [at0] at hlt
        omega
      | succ k =>
        have := ih (b := b) (by simpa using h) hle' k (by simpa using hk) (by simpa [at0] using hlt)
        omega

/-- Who has more somewhere, and no more in all, has less somewhere. -/
theorem other {a b : List Int} (hl : a.length = b.length) (hs : a.sum ≤ b.sum) {i : Nat} (hi : i < a.length) (h : at0 b i < at0 a i) : ∃ j, j < a.length ∧ at0 a j < at0 b j := by
  apply Classical.byContradiction
  intro hn
  have hall : ∀ j, j < b.length → at0 b j ≤ at0 a j := fun j hj => by
    apply Classical.byContradiction
    intro hc
    exact hn ⟨j, by omega, by omega⟩
  have := sum_lt_of (a := b) (b := a) hl.symm hall i (by omega) h
  omega

theorem Spec.sum_eq {m : Int} {d pr : List Int} {n first first' : Nat} {a b : List Int} (A : Spec m d pr n first a) (B : Spec m d pr n first' b) : a.sum = b.sum := by
  have hl : a.length = b.length := A.len.trans B.len.symm
  rcases A.all with ha | ha <;> rcases B.all with hb | hb
  · omega
  · have := sum_le_of_all hl (fun i hi => by have := A.hi i (by rw [← A.len]; exact hi); have h2 := hb i (by rw [← A.len]; exact hi); have h3 := B.lo i (by rw [← A.len]; exact hi); omega)
    have := B.sum
    omega
  · have := sum_le_of_all hl.symm (fun i hi => by have := B.hi i (by rw [← B.len]; exact hi); have h2 := ha i (by rw [← B.len]; exact hi); have h3 := A.lo i (by rw [← B.len]; exact hi); omega)
    have := A.sum
    omega
  · have h1 := sum_le_of_all hl (fun i hi => by have := A.hi i (by rw [← A.len]; exact hi); have h2 := hb i (by rw [← A.len]; exact hi); have h3 := B.lo i (by rw [← A.len]; exact hi); omega)
    have h2 := sum_le_of_all hl.symm (fun i hi => by have := B.hi i (by rw [← B.len]; exact hi); have h2 := ha i (by rw [← B.len]; exact hi); have h3 := A.lo i (by rw [← B.len]; exact hi); omega)
    omega

/-- More processors, or the same: nobody has less. -/
theorem Spec.mono {m m' : Int} {d pr : List Int} {n first : Nat} {a b : List Int} (A : Spec m d pr n first a) (B : Spec m' d pr n first b) (hm : m ≤ m') : ∀ i, i < n → at0 a i ≤ at0 b i := by
  intro i hi
  apply Classical.byContradiction
  intro hc
  have hlt : at0 b i < at0 a i := by omega
  have hid := A.hi i hi
  have hbl := B.lo i hi
  have hs : a.sum ≤ b.sum := by
    rcases B.all with hb | hb
    · have := A.sum; omega
    · have := hb i hi; omega
  obtain ⟨j, hj, hj2⟩ := other (A.len.trans B.len.symm) hs (by rw [A.len]; exact hi) hlt
  rw [A.len] at hj
  have hjd := B.hi j hj
  have hjl := A.lo j hj
  exact exchange A B hi hj hlt hj2 (by omega) (by omega)

theorem Spec.unique {m : Int} {d pr : List Int} {n first : Nat} {a b : List Int} (A : Spec m d pr n first a) (B : Spec m d pr n first b) : a = b := by
  apply List.ext_getElem (A.len.trans B.len.symm)
  intro i h1 h2
  have h3 : i < n := by rw [← A.len]; exact h1
  have := A.mono B (Int.le_refl _) i h3
  have := B.mono A (Int.le_refl _) i h3
  simp [at0, h1, h2] at *
  omega

/-- Who wants more gets no less, and nobody else more by that. -/
theorem Spec.more {m : Int} {d e pr : List Int} {n first k : Nat} {a b : List Int} (A : Spec m d pr n first a) (B : Spec m e pr n first b) (hk : at0 d k ≤ at0 e k) (he : ∀ i, i ≠ k → at0 e i = at0 d i) :
    (k < n → at0 a k ≤ at0 b k) ∧ ∀ i, i < n → i ≠ k → at0 b i ≤ at0 a i := by
  have hl := A.len.trans B.len.symm
  have hde : ∀ i, at0 d i ≤ at0 e i := fun i => by
    by_cases h : i = k
    · subst h; exact hk
    · rw [he i h]; exact Int.le_refl _
  constructor
  · intro hkn
    apply Classical.byContradiction
    intro hc
    have hlt : at0 b k < at0 a k := by omega
    have h1 := A.hi k hkn
    have h2 := B.lo k hkn
    have hs : a.sum ≤ b.sum := by
      rcases B.all with hb | hb
      · have := A.sum; omega
      · have := hb k hkn; omega
    obtain ⟨j, hj, hj2⟩ := other hl hs (by rw [A.len]; exact hkn) hlt
    rw [A.len] at hj
    have hjk : j ≠ k := fun e => by subst e; omega
    have h3 := B.hi j hj
    have h4 := A.lo j hj
    rw [he j hjk] at h3
    exact exchange A B hkn hj hlt hj2 (by omega) (by omega)
  · intro i hi hik
    apply Classical.byContradiction
    intro hc
    have hlt : at0 a i < at0 b i := by omega
    have h1 := B.hi i hi
    rw [he i hik] at h1
    have h2 := A.lo i hi
    have hs : b.sum ≤ a.sum := by
      rcases A.all with ha | ha
      · have := B.sum; omega
      · have := ha i hi; omega
    obtain ⟨j, hj, hj2⟩ := other hl.symm hs (by rw [B.len]; exact hi) hlt
    rw [B.len] at hj
    have h3 := A.hi j hj
    have h4 := B.lo j hj
    have h5 := hde j
    exact exchange A B hj hi hj2 hlt (by omega) (by omega)

theorem sum_set : ∀ (l : List Int) (i : Nat) (v : Int), i < l.length → (l.set i v).sum = l.sum - at0 l i + v
  | [], i, v, h => by simp at h
  | x :: l, 0, v, _ => by simp [at0]; omega
  | x :: l, i + 1, v, h => by
    have := sum_set l i v (by simpa using h)
    simp [at0] at this ⊢
    omega

theorem at0_set {l : List Int} {i j : Nat} {v : Int} (h : i < l.length) : at0 (l.set i v) j = if i = j then v else at0 l j := by
  simp only [at0, List.getD_eq_getElem?_getD]
  by_cases e : i = j
  · subst e; rw [if_pos rfl, List.getElem?_set_self h]; rfl
  · rw [if_neg e, List.getElem?_set_ne e]

/-- In the middle of sharing. -/
structure Deal (procs : Int) (d pr : List Int) (n first : Nat) (o : List Int) (left : Int) : Prop where
  len : o.length = n
  lo : ∀ i, i < n → 0 ≤ at0 o i
  hi : ∀ i, i < n → at0 o i ≤ max (at0 d i) 0
  sum : o.sum + left = procs
  left0 : 0 ≤ left
  key : ∀ i j, i < n → j < n → i ≠ j → 0 < at0 o i → at0 o j < at0 d j → before (at0 pr i) (at0 o i - 1) (rank n first i) (at0 pr j) (at0 o j) (rank n first j)

theorem sum_zero (n : Nat) : (List.replicate n (0 : Int)).sum = 0 := by
  induction n with
  | zero => rfl
  | succ n ih => rw [List.replicate_succ, List.sum_cons, ih]; rfl

theorem at0_zero (n i : Nat) : at0 (List.replicate n 0) i = 0 := by
  simp only [at0, List.getD_eq_getElem?_getD, List.getElem?_replicate]
  split <;> rfl

theorem Deal.start {procs : Int} {d pr : List Int} {n first : Nat} (h : 0 ≤ procs) : Deal procs d pr n first (List.replicate n 0) procs :=
  ⟨by simp, fun i _ => by rw [at0_zero]; exact Int.le_refl _, fun i _ => by rw [at0_zero]; omega, by rw [sum_zero]; omega, h, fun i j _ _ _ h1 _ => by rw [at0_zero] at h1; omega⟩

theorem Deal.give {procs left : Int} {d pr o : List Int} {n first i : Nat} (D : Deal procs d pr n first o left) (hl : 0 < left) (hi : i < n) (hw : at0 o i < at0 d i)
    (hmin : ∀ j, j < n → j ≠ i → at0 o j < at0 d j → before (at0 pr i) (at0 o i) (rank n first i) (at0 pr j) (at0 o j) (rank n first j)) : Deal procs d pr n first (o.set i (at0 o i + 1)) (left - 1) := by
  have hio : i < o.length := by rw [D.len]; exact hi
  have h0 := D.lo i hi
  refine ⟨by simp [D.len], fun j hj => ?_, fun j hj => ?_, ?_, by omega, fun a b ha hb hab hpa hwb => ?_⟩
  · rw [at0_set hio]; split
    · omega
    · exact D.lo j hj
  · rw [at0_set hio]; split
    · rename_i e; subst e; omega
    · exact D.hi j hj
  · rw [sum_set _ _ _ hio]; have := D.sum; omega
  · rw [at0_set hio] at hpa hwb ⊢
    rw [at0_set hio]
    by_cases e1 : i = a
    · subst e1
      rw [if_neg hab] at hwb ⊢
      rw [if_pos rfl]
      have := hmin b hb (Ne.symm hab) hwb
      unfold before at this ⊢
      omega
    · rw [if_neg e1] at hpa ⊢
      by_cases e2 : i = b
      · subst e2
        rw [if_pos rfl] at hwb ⊢
        have := D.key a i ha hi hab hpa hw
        unfold before at this ⊢
        omega
      · rw [if_neg e2] at hwb ⊢
        exact D.key a b ha hb hab hpa hwb

theorem Deal.spec {procs left : Int} {d pr o : List Int} {n first : Nat} (D : Deal procs d pr n first o left) (h : 0 < left → ∀ i, i < n → at0 d i ≤ at0 o i) : Spec procs d pr n first o := by
  have h1 := D.sum
  have h2 := D.left0
  refine ⟨D.len, D.lo, D.hi, by omega, ?_, D.key⟩
  by_cases hl : 0 < left
  · exact .inr (h hl)
  · exact .inl (by omega)

theorem rank_lt {n first i : Nat} (hn : 0 < n) : rank n first i < n := Nat.mod_lt _ hn

theorem rank_of {n first i k : Nat} (hf : first < n) (hk : k < n) (h : i = (first + k) % n) : rank n first i = k := by
  unfold rank
  subst h
  by_cases hc : first + k < n
  · rw [Nat.mod_eq_of_lt hc, show first + k + n - first = k + n by omega, Nat.add_mod_right, Nat.mod_eq_of_lt hk]
  · have e : (first + k) % n = first + k - n := by rw [Nat.mod_eq_sub_mod (by omega), Nat.mod_eq_of_lt (by omega)]
    rw [e, show first + k - n + n - first = k by omega, Nat.mod_eq_of_lt hk]

theorem rank_inj {n first i j : Nat} (hf : first < n) (hi : i < n) (hj : j < n) (h : rank n first i = rank n first j) : i = j := by
  unfold rank at h
  have e : ∀ x, x < n → (x + n - first) % n = if x < first then x + n - first else x - first := by
    intro x hx
    split
    · rw [Nat.mod_eq_of_lt (by omega)]
    · rw [show x + n - first = (x - first) + n by omega, Nat.add_mod_right, Nat.mod_eq_of_lt (by omega)]
  rw [e i hi, e j hj] at h
  split at h <;> split at h <;> omega

/-- What each has in round c of priority p, those of rank below k having had their turn. -/
def E (d pr : List Int) (n first : Nat) (p c : Int) (k j : Nat) : Int :=
  if at0 pr j > p then max (at0 d j) 0 else if at0 pr j = p then (if rank n first j < k then min (c + 1) (max (at0 d j) 0) else min c (max (at0 d j) 0)) else 0

def Phase (d pr : List Int) (n first : Nat) (o : List Int) (left p c : Int) (k : Nat) : Prop := 0 < left → ∀ j, j < n → at0 o j = E d pr n first p c k j

theorem Phase.give {procs left p c : Int} {d pr o : List Int} {n first i k : Nat} (D : Deal procs d pr n first o left) (P : Phase d pr n first o left p c k) (hc : 0 ≤ c) (hl : 0 < left) (hf : first < n) (hi : i < n) (hr : rank n first i = k) (hp : at0 pr i = p) (hw : at0 o i < at0 d i) :
    Deal procs d pr n first (o.set i (at0 o i + 1)) (left - 1) ∧ Phase d pr n first (o.set i (at0 o i + 1)) (left - 1) p c (k + 1) := by
  have P' := P hl
  have hE := P' i hi
  have hio : i < o.length := by rw [D.len]; exact hi
  unfold E at hE
  rw [if_neg (by omega), if_pos hp, if_neg (by omega)] at hE
  refine ⟨D.give hl hi hw (fun j hj hji hwj => ?_), fun _ j hj => ?_⟩
  · have hj' := P' j hj
    have hne : rank n first j ≠ k := fun e => hji (rank_inj hf hj hi (e.trans hr.symm))
    unfold E at hj'
    unfold before
    rw [hr]
    split at hj'
    · omega
    · split at hj'
      · split at hj' <;> omega
      · omega
  · have hj' := P' j hj
    rw [at0_set hio]
    unfold E at hj' ⊢
    by_cases e : i = j
    · subst e
      rw [if_pos rfl, if_neg (by omega), if_pos hp, if_pos (by omega)]
      omega
    · have hne : rank n first j ≠ k := fun h => e (rank_inj hf hi hj (hr.trans h.symm))
      rw [if_neg e, hj']
      have : (rank n first j < k) = (rank n first j < k + 1) := by rw [eq_iff_iff]; omega
      simp only [this]

theorem Phase.skip {left p c : Int} {d pr o : List Int} {n first i k : Nat} (P : Phase d pr n first o left p c k) (hc : 0 ≤ c) (hf : first < n) (hi : i < n) (hr : rank n first i = k) (hw : 0 < left → at0 pr i = p → at0 d i ≤ at0 o i) :
    Phase d pr n first o left p c (k + 1) := by
  intro hl j hj
  have hj' := P hl j hj
  unfold E at hj' ⊢
  by_cases e : i = j
  · subst e
    by_cases hp : at0 pr i = p
    · have := hw hl hp
      rw [if_neg (by omega), if_pos hp, if_neg (by omega)] at hj'
      rw [if_neg (by omega), if_pos hp, if_pos (by omega)]
      omega
    · rw [hj', if_neg hp, if_neg hp]
  · have hne : rank n first j ≠ k := fun h => e (rank_inj hf hi hj (hr.trans h.symm))
    rw [hj']
    have : (rank n first j < k) = (rank n first j < k + 1) := by rw [eq_iff_iff]; omega
    simp only [this]

theorem Phase.round {left p c : Int} {d pr o : List Int} {n first : Nat} (P : Phase d pr n first o left p c n) (hn : 0 < n) : Phase d pr n first o left p (c + 1) 0 := by
  intro hl j hj
  have hj' := P hl j hj
  have := rank_lt (n := n) (first := first) (i := j) hn
  unfold E at hj' ⊢
  rw [hj']
  simp only [if_pos this, Nat.not_lt_zero, if_false]

theorem Phase.next {procs left p c : Int} {d pr o : List Int} {n first : Nat} (D : Deal procs d pr n first o left) (P : Phase d pr n first o left p c 0) (hw : 0 < left → ∀ j, j < n → at0 pr j = p → at0 d j ≤ at0 o j) : Phase d pr n first o left (p - 1) 0 0 := by
  intro hl j hj
  have hj' := P hl j hj
  have h1 := D.hi j hj
  have h2 := D.lo j hj
  unfold E at hj' ⊢
  by_cases a : at0 pr j > p
  · rw [if_pos a] at hj'
    rw [if_pos (by omega), hj']
  · by_cases b : at0 pr j = p
    · have := hw hl j hj b
      rw [if_pos (by omega)]
      omega
    · rw [if_neg a, if_neg b] at hj'
      rw [if_neg (by omega)]
      simp only [Nat.not_lt_zero, if_false]
      split <;> omega

theorem Phase.start {left : Int} {d pr : List Int} {n first : Nat} (h : ∀ j, j < n → at0 pr j ≤ 7) : Phase d pr n first (List.replicate n 0) left 7 0 0 := by
  intro _ j hj
  have := h j hj
  rw [at0_zero]
  unfold E
  rw [if_neg (by omega)]
  simp only [Nat.not_lt_zero, if_false]
  split <;> omega

theorem Phase.last {procs left : Int} {d pr o : List Int} {n first : Nat} (D : Deal procs d pr n first o left) (P : Phase d pr n first o left (-1) 0 0) (h : ∀ j, j < n → 0 ≤ at0 pr j) : Spec procs d pr n first o :=
  D.spec (fun hl j hj => by
    have hj' := P hl j hj
    have := h j hj
    unfold E at hj'
    rw [if_pos (by omega)] at hj'
    omega)

theorem take_sum {o : List Int} {i : Nat} (h : i < o.length) : (o.take (i + 1)).sum = (o.take i).sum + at0 o i := by
  rw [List.take_succ_eq_append_getElem h, List.sum_append]
  simp [at0, h]

theorem take_sum_bd {o : List Int} (h0 : ∀ i, i < o.length → 0 ≤ at0 o i) : ∀ i, i ≤ o.length → 0 ≤ (o.take i).sum ∧ (o.take i).sum ≤ o.sum := by
  have mono : ∀ d i, i + d = o.length → (o.take i).sum ≤ o.sum := by
    intro d
    induction d with
    | zero => intro i hi; rw [List.take_of_length_le (by omega)]; exact Int.le_refl _
    | succ d ih =>
      intro i hi
      have h1 := ih (i + 1) (by omega)
      have h2 := h0 i (by omega)
      rw [take_sum (by omega)] at h1
      omega
  have pos : ∀ i, i ≤ o.length → 0 ≤ (o.take i).sum := by
    intro i
    induction i with
    | zero => intro _; simp
    | succ i ih =>
      intro hi
      have h1 := ih (by omega)
      have h2 := h0 i (by omega)
      rw [take_sum (by omega)]
      omega
  exact fun i hi => ⟨pos i hi, mono (o.length - i) i (by omega)⟩

theorem at0_take {l : List Int} {n i : Nat} (h : i < n) : at0 (l.take n) i = at0 l i := by
  simp only [at0, List.getD_eq_getElem?_getD, List.getElem?_take]
  rw [if_pos h]

theorem at0_map {l : List Int} {i : Nat} (f : Int → Int) (h : i < l.length) : at0 (l.map f) i = f (at0 l i) := by
  simp [at0, h]

/-- The best candidate among those of rank below k. -/
def BestInv (d pr o : List Int) (n first k : Nat) (best : Int) : Prop :=
  (best = -1 ∧ ∀ j, j < n → rank n first j < k → at0 d j ≤ at0 o j) ∨
  ∃ b : Nat, best = b ∧ b < n ∧ rank n first b < k ∧ at0 o b < at0 d b ∧ ∀ j, j < n → rank n first j < k → j ≠ b → at0 o j < at0 d j → before (at0 pr b) (at0 o b) (rank n first b) (at0 pr j) (at0 o j) (rank n first j)

theorem BestInv.start (d pr o : List Int) (n first : Nat) : BestInv d pr o n first 0 (-1) := .inl ⟨rfl, fun j _ h => by omega⟩

theorem BestInv.skip {d pr o : List Int} {n first k i : Nat} {best : Int} (B : BestInv d pr o n first k best) (hf : first < n) (hi : i < n) (hr : rank n first i = k) (hw : at0 d i ≤ at0 o i) : BestInv d pr o n first (k + 1) best := by
  have same : ∀ j, j < n → rank n first j < k + 1 → at0 o j < at0 d j → rank n first j < k := fun j hj h1 h2 => by
    by_cases e : rank n first j = k
    · have := rank_inj hf hj hi (e.trans hr.symm); subst this; omega
    · omega
  rcases B with ⟨h1, h2⟩ | ⟨b, h1, h2, h3, h4, h5⟩
  · refine .inl ⟨h1, fun j hj hrj => ?_⟩
    apply Classical.byContradiction
    intro hc
    have := h2 j hj (same j hj hrj (by omega))
    omega
  · exact .inr ⟨b, h1, h2, by omega, h4, fun j hj hrj hjb hwj => h5 j hj (same j hj hrj hwj) hjb hwj⟩

theorem BestInv.first' {d pr o : List Int} {n first k i : Nat} (B : BestInv d pr o n first k (-1)) (hf : first < n) (hi : i < n) (hr : rank n first i = k) (hw : at0 o i < at0 d i) : BestInv d pr o n first (k + 1) i := by
  rcases B with ⟨_, h2⟩ | ⟨b, h1, _⟩
  · refine .inr ⟨i, rfl, hi, by omega, hw, fun j hj hrj hji hwj => ?_⟩
    have hne : rank n first j ≠ k := fun e => hji (rank_inj hf hj hi (e.trans hr.symm))
    have := h2 j hj (by omega)
    omega
  · omega

theorem BestInv.better {d pr o : List Int} {n first k i b : Nat} (B : BestInv d pr o n first k b) (hf : first < n) (hi : i < n) (hr : rank n first i = k) (hw : at0 o i < at0 d i) (hb : at0 pr i > at0 pr b ∨ (at0 pr i = at0 pr b ∧ at0 o i < at0 o b)) : BestInv d pr o n first (k + 1) i := by
  rcases B with ⟨h1, _⟩ | ⟨b', h1, h2, h3, h4, h5⟩
  · omega
  · obtain rfl : b = b' := by omega
    refine .inr ⟨i, rfl, hi, by omega, hw, fun j hj hrj hji hwj => ?_⟩
    have hne : rank n first j ≠ k := fun e => hji (rank_inj hf hj hi (e.trans hr.symm))
    by_cases e : j = b
    · subst e; unfold before; omega
    · have := h5 j hj (by omega) e hwj
      unfold before at this ⊢
      omega

theorem BestInv.keep {d pr o : List Int} {n first k i b : Nat} (B : BestInv d pr o n first k b) (hf : first < n) (hi : i < n) (hr : rank n first i = k) (hb : ¬ (at0 pr i > at0 pr b ∨ (at0 pr i = at0 pr b ∧ at0 o i < at0 o b))) : BestInv d pr o n first (k + 1) b := by
  rcases B with ⟨h1, _⟩ | ⟨b', h1, h2, h3, h4, h5⟩
  · omega
  · obtain rfl : b = b' := by omega
    refine .inr ⟨b, rfl, h2, by omega, h4, fun j hj hrj hjb hwj => ?_⟩
    by_cases e : rank n first j = k
    · have := rank_inj hf hj hi (e.trans hr.symm)
      subst this
      unfold before
      omega
    · exact h5 j hj (by omega) hjb hwj

end Go.Proofs.Ytpenanbnadohfaa.Sh
