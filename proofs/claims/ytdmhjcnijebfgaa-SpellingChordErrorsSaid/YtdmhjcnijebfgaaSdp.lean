/- Plain law, no program in sight: the least cost of lists with one of each, from the end on and from the front; the first best of all. -/
namespace Go.Proofs.Ytdmhjcnijebfgaa
set_option linter.unusedVariables false
/-- The index of the first least among c 0 .. c (n - 1). -/
def bestI (c : Nat → Int) : Nat → Nat
  | 0 => 0
  | k + 1 => if c k < c (bestI c k) then k else bestI c k
theorem bestI_lt (c : Nat → Int) : ∀ n, 0 < n → bestI c n < n := by
  intro n
  induction n with
  | zero => intro h; omega
  | succ k ih =>
    intro _
    unfold bestI
    split
    · omega
    · rcases Nat.eq_zero_or_pos k with h | h
      · subst h; exact Nat.zero_lt_one
      · have := ih h; omega
theorem bestI_le (c : Nat → Int) : ∀ n j, j < n → c (bestI c n) ≤ c j := by
  intro n
  induction n with
  | zero => intro j h; omega
  | succ k ih =>
    intro j h
    unfold bestI
    by_cases hj : j < k
    · have := ih j hj
      split <;> omega
    · obtain rfl : j = k := by omega
      split <;> omega
theorem bestI_first (c : Nat → Int) : ∀ n j, j < bestI c n → c (bestI c n) < c j := by
  intro n
  induction n with
  | zero => intro j h; exact absurd h (Nat.not_lt_zero _)
  | succ k ih =>
    intro j h
    unfold bestI at h ⊢
    split
    · rename_i hlt
      rw [if_pos hlt] at h
      have := bestI_le c k j h
      omega
    · rename_i hlt
      rw [if_neg hlt] at h
      exact ih j h
theorem bestI_congr {c c' : Nat → Int} : ∀ n, (∀ j, j < n → c j = c' j) → bestI c n = bestI c' n := by
  intro n
  induction n with
  | zero => intro _; rfl
  | succ k ih =>
    intro h
    have h1 := ih fun j hj => h j (by omega)
    unfold bestI
    rw [← h1]
    rcases Nat.eq_zero_or_pos k with hk | hk
    · subst hk
      have : bestI c 0 = 0 := rfl
      rw [this]
      simp
    · have := bestI_lt c k hk
      rw [h k (by omega), h (bestI c k) (by omega)]

variable {α : Type}
/-- x is the first of L at which h is least. -/
def IsFM (h : α → Int) (x : α) (L : List α) : Prop := ∃ pre post, L = pre ++ x :: post ∧ (∀ y ∈ pre, h x < h y) ∧ ∀ y ∈ post, h x ≤ h y
theorem IsFM.uniq {h : α → Int} {x y : α} {L : List α} (hx : IsFM h x L) (hy : IsFM h y L) : x = y := by
  obtain ⟨p1, q1, e1, a1, b1⟩ := hx
  obtain ⟨p2, q2, e2, a2, b2⟩ := hy
  rw [e1] at e2
  rcases Nat.lt_trichotomy p1.length p2.length with hl | hl | hl
  · exfalso
    have h1 : (p1 ++ x :: q1)[p1.length]? = some x := by simp
    rw [e2, List.getElem?_append_left hl] at h1
    have m1 := a2 x (List.mem_of_getElem? h1)
    have h2 : (p1 ++ x :: q1)[p2.length]? = some y := by rw [e2]; simp
    rw [List.getElem?_append_right (by omega), show p2.length - p1.length = (p2.length - p1.length - 1) + 1 from by omega, List.getElem?_cons_succ] at h2
    have m2 := b1 y (List.mem_of_getElem? h2)
    omega
  · have := List.append_inj e2 hl
    injection this.2
  · exfalso
    have h1 : (p1 ++ x :: q1)[p2.length]? = some y := by rw [e2]; simp
    rw [List.getElem?_append_left hl] at h1
    have m1 := a1 y (List.mem_of_getElem? h1)
    have h2 : (p2 ++ y :: q2)[p1.length]? = some x := by rw [← e2]; simp
    rw [List.getElem?_append_right (by omega), show p1.length - p2.length = (p1.length - p2.length - 1) + 1 from by omega, List.getElem?_cons_succ] at h2
    have m2 := b2 x (List.mem_of_getElem? h2)
    omega
theorem IsFM.mem {h : α → Int} {x : α} {L : List α} (hx : IsFM h x L) : x ∈ L := by
  obtain ⟨p1, q1, e1, a1, b1⟩ := hx; rw [e1]; simp
theorem IsFM.le {h : α → Int} {x y : α} {L : List α} (hx : IsFM h x L) (hy : y ∈ L) : h x ≤ h y := by
  obtain ⟨p1, q1, e1, a1, b1⟩ := hx
  rw [e1] at hy
  rcases List.mem_append.1 hy with hy | hy
  · have := a1 y hy; omega
  · rcases List.mem_cons.1 hy with hy | hy
    · subst hy; exact Int.le_refl _
    · exact b1 y hy
/-- The first best by index. -/
theorem isFM_bestI [Inhabited α] (h : α → Int) (L : List α) (c : Nat → Int) (hL : 0 < L.length) (hc : ∀ j, j < L.length → c j = h (L.getD j default)) : IsFM h (L.getD (bestI c L.length) default) L := by
  have hlt := bestI_lt c L.length hL
  refine ⟨L.take (bestI c L.length), L.drop (bestI c L.length + 1), ?_, ?_, ?_⟩
  · have : L.getD (bestI c L.length) default = L[bestI c L.length] := by simp [hlt]
    rw [this]
    have h2 := List.take_append_drop (bestI c L.length) L
    rw [List.drop_eq_getElem_cons hlt] at h2
    exact h2.symm
  · intro y hy
    obtain ⟨j, hj, rfl⟩ := List.getElem_of_mem hy
    rw [List.length_take] at hj
    have hjb : j < bestI c L.length := by omega
    have := bestI_first c L.length j hjb
    rw [hc _ hlt, hc j (by omega)] at this
    rw [List.getElem_take]
    have e : L.getD j default = L[j] := by simp [show j < L.length by omega]
    rw [e] at this
    exact this
  · intro y hy
    obtain ⟨j, hj, rfl⟩ := List.getElem_of_mem hy
    rw [List.length_drop] at hj
    have := bestI_le c L.length (bestI c L.length + 1 + j) (by omega)
    rw [hc _ hlt, hc _ (by omega)] at this
    rw [List.getElem_drop]
    have e : L.getD (bestI c L.length + 1 + j) default = L[bestI c L.length + 1 + j] := by simp [show bestI c L.length + 1 + j < L.length by omega]
    rw [e] at this
    exact this

/-- All lists with one of each, in the order of the first difference. -/
def prod : List (List α) → List (List α)
  | [] => [[]]
  | l :: E => l.flatMap fun q => (prod E).map (q :: ·)
theorem prod_len : ∀ (E : List (List α)) (x : List α), x ∈ prod E → x.length = E.length := by
  intro E
  induction E with
  | nil => intro x hx; simp [prod] at hx; simp [hx]
  | cons l E ih =>
    intro x hx
    simp only [prod, List.mem_flatMap, List.mem_map] at hx
    obtain ⟨q, _, y, hy, rfl⟩ := hx
    simp [ih y hy]
theorem isFM_flat {h : List α → Int} {m : α → Int} {q : α} {x : List α} {l : List α} {E : List (List α)} (hq : IsFM m q l) (hx : IsFM (fun y => h (q :: y)) x (prod E)) (hm : ∀ p ∈ l, ∀ y ∈ prod E, m p ≤ h (p :: y)) (he : m q = h (q :: x)) : IsFM h (q :: x) (prod (l :: E)) := by
  obtain ⟨p1, q1, rfl, a1, b1⟩ := hq
  obtain ⟨p2, q2, e2, a2, b2⟩ := hx
  have hm' := hm
  refine ⟨p1.flatMap (fun q => (prod E).map (q :: ·)) ++ p2.map (q :: ·), q2.map (q :: ·) ++ q1.flatMap (fun q => (prod E).map (q :: ·)), ?_, ?_, ?_⟩
  · simp only [prod, List.flatMap_append, List.flatMap_cons]
    rw [e2]
    simp
  · intro y hy
    rcases List.mem_append.1 hy with hy | hy
    · simp only [List.mem_flatMap, List.mem_map] at hy
      obtain ⟨p, hp, z, hz, rfl⟩ := hy
      have := a1 p hp
      have := hm p (by simp [hp]) z hz
      omega
    · obtain ⟨z, hz, rfl⟩ := List.mem_map.1 hy
      exact a2 z hz
  · intro y hy
    rcases List.mem_append.1 hy with hy | hy
    · obtain ⟨z, hz, rfl⟩ := List.mem_map.1 hy
      exact b2 z hz
    · simp only [List.mem_flatMap, List.mem_map] at hy
      obtain ⟨p, hp, z, hz, rfl⟩ := hy
      have := b1 p hp
      have := hm p (by simp [hp]) z hz
      omega

variable [Inhabited α] (c : α → Int) (d : α → α → Int)
/-- The first of l at which h is least. -/
def fm (h : α → Int) (l : List α) : α := l.getD (bestI (fun i => h (l.getD i default)) l.length) default
theorem fm_is (h : α → Int) (l : List α) (hl : 0 < l.length) : IsFM h (fm h l) l := isFM_bestI h l _ hl fun _ _ => rfl
/-- The least cost of q and of one of each list behind it. -/
def rst : List (List α) → α → Int
  | [], q => c q
  | l :: E, q => c q + (rst E (fm (fun x => rst E x + d q x) l) + d q (fm (fun x => rst E x + d q x) l))
/-- What a list costs behind q, with q. -/
def chn : α → List α → Int
  | q, [] => c q
  | q, x :: L => c q + (chn x L + d q x)
/-- The best behind q. -/
def grd : α → List (List α) → List α
  | _, [] => []
  | q, l :: E => fm (fun x => rst c d E x + d q x) l :: grd (fm (fun x => rst c d E x + d q x) l) E
/-- The best of all. -/
def bst : List (List α) → List α
  | [] => []
  | l :: E => fm (fun x => rst c d E x) l :: grd c d (fm (fun x => rst c d E x) l) E
/-- What a list costs. -/
def cst : List α → Int
  | [] => 0
  | q :: L => chn c d q L
theorem rst_le : ∀ (E : List (List α)) (q : α), (∀ l ∈ E, l ≠ []) → ∀ y ∈ prod E, rst c d E q ≤ chn c d q y := by
  intro E
  induction E with
  | nil => intro q _ y hy; simp [prod] at hy; subst hy; exact Int.le_refl _
  | cons l E ih =>
    intro q hE y hy
    simp only [prod, List.mem_flatMap, List.mem_map] at hy
    obtain ⟨p, hp, z, hz, rfl⟩ := hy
    have h1 := ih p (fun l hl => hE l (List.mem_cons_of_mem _ hl)) z hz
    have h2 := (fm_is (fun x => rst c d E x + d q x) l (List.length_pos_iff.2 (hE l (by simp)))).le hp
    show c q + _ ≤ c q + _
    omega
theorem grd_cost : ∀ (E : List (List α)) (q : α), chn c d q (grd c d q E) = rst c d E q := by
  intro E
  induction E with
  | nil => intro q; rfl
  | cons l E ih =>
    intro q
    show c q + (chn c d _ (grd c d _ E) + d q _) = c q + _
    rw [ih]
theorem grd_first : ∀ (E : List (List α)) (q : α), (∀ l ∈ E, l ≠ []) → IsFM (chn c d q) (grd c d q E) (prod E) := by
  intro E
  induction E with
  | nil => intro q _; exact ⟨[], [], rfl, by simp, by simp⟩
  | cons l E ih =>
    intro q hE
    have hE' : ∀ l ∈ E, l ≠ [] := fun l hl => hE l (List.mem_cons_of_mem _ hl)
    refine isFM_flat (m := fun x => c q + (rst c d E x + d q x)) ?_ ?_ ?_ ?_
    · obtain ⟨p1, q1, e1, a1, b1⟩ := fm_is (fun x => rst c d E x + d q x) l (List.length_pos_iff.2 (hE l (by simp)))
      exact ⟨p1, q1, e1, fun y hy => by have := a1 y hy; dsimp only at this ⊢; omega, fun y hy => by have := b1 y hy; dsimp only at this ⊢; omega⟩
    · obtain ⟨p1, q1, e1, a1, b1⟩ := ih (fm (fun x => rst c d E x + d q x) l) hE'
      exact ⟨p1, q1, e1, fun y hy => by have := a1 y hy; simp only [chn] at this ⊢; omega, fun y hy => by have := b1 y hy; simp only [chn] at this ⊢; omega⟩
    · intro p hp y hy
      have := rst_le c d E p hE' y hy
      simp only [chn]
      omega
    · simp only [chn]
      rw [grd_cost]
theorem bst_first (E : List (List α)) (hE : ∀ l ∈ E, l ≠ []) : IsFM (cst c d) (bst c d E) (prod E) := by
  cases E with
  | nil => exact ⟨[], [], rfl, by simp, by simp⟩
  | cons l E =>
    have hE' : ∀ l ∈ E, l ≠ [] := fun l hl => hE l (List.mem_cons_of_mem _ hl)
    refine isFM_flat (m := fun x => rst c d E x) (fm_is _ l (List.length_pos_iff.2 (hE l (by simp)))) ?_ ?_ ?_
    · exact grd_first c d E _ hE'
    · intro p hp y hy
      exact rst_le c d E p hE' y hy
    · show _ = chn c d _ _
      rw [grd_cost]
theorem chn_snoc : ∀ (L : List α) (q x : α), chn c d q (L ++ [x]) = chn c d q L + (d ((q :: L).getLastD default) x + c x) := by
  intro L
  induction L with
  | nil => intro q x; show c q + (c x + d q x) = c q + (d q x + c x); omega
  | cons p L ih =>
    intro q x
    show c q + (chn c d p (L ++ [x]) + d q p) = c q + (chn c d p L + d q p) + _
    rw [ih]
    have : (q :: p :: L).getLastD default = (p :: L).getLastD default := by simp [List.getLastD]
    rw [this]
    omega
theorem cst_snoc (L : List α) (x : α) : cst c d (L ++ [x]) = cst c d L + ((if L = [] then 0 else d (L.getLastD default) x) + c x) := by
  cases L with
  | nil => show c x = 0 + (_ + c x); simp
  | cons q L => show chn c d q (L ++ [x]) = chn c d q L + _; rw [chn_snoc, if_neg (by simp)]
theorem prod_snoc {α : Type} (E : List (List α)) (l : List α) : prod (E ++ [l]) = (prod E).flatMap fun y => l.map fun x => y ++ [x] := by
  induction E with
  | nil =>
    show l.flatMap (fun q => [[q]]) = List.map (fun x => [x]) l ++ []
    rw [List.append_nil]
    induction l with
    | nil => rfl
    | cons q l ih => rw [List.flatMap_cons, ih]; rfl
  | cons e E ih =>
    show e.flatMap (fun q => (prod (E ++ [l])).map (q :: ·)) = (e.flatMap fun q => (prod E).map (q :: ·)).flatMap _
    rw [ih, List.flatMap_assoc]
    congr 1
    funext q
    rw [List.flatMap_map, List.map_flatMap]
    congr 1
    funext y
    rw [List.map_map]
    rfl
theorem getD_memL {β : Type} (l : List β) (z : β) {i : Nat} (hi : i < l.length) : l.getD i z ∈ l := by
  rw [List.getD_eq_getElem?_getD, List.getElem?_eq_getElem hi]; exact List.getElem_mem hi
theorem get_getD {β : Type} (l : List β) (z : β) {i : Nat} (hi : i < l.length) : l[i] = l.getD i z := by
  rw [List.getD_eq_getElem?_getD, List.getElem?_eq_getElem hi]; rfl
theorem map_getD {β γ : Type} (l : List β) (f : β → γ) (z : β) (y : γ) {i : Nat} (hi : i < l.length) : (l.map f).getD i y = f (l.getD i z) := by
  rw [List.getD_eq_getElem?_getD, List.getD_eq_getElem?_getD, List.getElem?_map, List.getElem?_eq_getElem hi]; rfl
/-- The least of M and f 0 .. f (n - 1). -/
def mnB (M : Int) (f : Nat → Int) : Nat → Int
  | 0 => M
  | k + 1 => min (mnB M f k) (f k)
theorem mnB_le (M : Int) (f : Nat → Int) : ∀ n k, k < n → mnB M f n ≤ f k := by
  intro n
  induction n with
  | zero => intro k h; omega
  | succ n ih =>
    intro k h
    unfold mnB
    by_cases hk : k < n
    · have := ih k hk; omega
    · obtain rfl : k = n := by omega
      omega
theorem mnB_leM (M : Int) (f : Nat → Int) : ∀ n, mnB M f n ≤ M := by
  intro n
  induction n with
  | zero => exact Int.le_refl _
  | succ n ih => unfold mnB; omega
theorem mnB_or (M : Int) (f : Nat → Int) : ∀ n, mnB M f n = M ∨ ∃ k, k < n ∧ mnB M f n = f k := by
  intro n
  induction n with
  | zero => exact .inl rfl
  | succ n ih =>
    unfold mnB
    by_cases h : mnB M f n ≤ f n
    · rw [Int.min_eq_left h]
      rcases ih with h1 | ⟨k, hk, h1⟩
      · exact .inl h1
      · exact .inr ⟨k, by omega, h1⟩
    · rw [Int.min_eq_right (by omega)]
      exact .inr ⟨n, by omega, rfl⟩
theorem mnB_at (M : Int) (f : Nat → Int) (n : Nat) (hn : 0 < n) (hf : ∀ k, k < n → f k ≤ M) : ∃ k, k < n ∧ mnB M f n = f k := by
  rcases mnB_or M f n with h | h
  · refine ⟨0, hn, ?_⟩
    have h1 := mnB_le M f n 0 hn
    have h2 := hf 0 hn
    omega
  · exact h
/-- What the cheapest way to x costs. -/
def nextC (M : Int) (last : List α) (costs : List Int) (x : α) : Int := mnB M (fun k => costs.getD k 0 + d (last.getD k default) x) last.length + c x
/-- The costs of the cheapest ways to each of the list k. -/
def fc (M : Int) (E : List (List α)) : Nat → List Int
  | 0 => (E.getD 0 []).map c
  | k + 1 => (E.getD (k + 1) []).map (nextC c d M (E.getD k []) (fc M E k))
theorem fc_len (M : Int) (E : List (List α)) (k : Nat) : (fc c d M E k).length = (E.getD k []).length := by
  cases k <;> simp [fc]
theorem take_ne {β : Type} {E : List (List β)} {k : Nat} (hk : k < E.length) : E.take (k + 1) = E.take k ++ [E.getD k []] := by
  rw [List.take_succ_eq_append_getElem hk]; simp [hk]
theorem prod_ne {β : Type} : ∀ (E : List (List β)), (∀ l ∈ E, l ≠ []) → ∃ y, y ∈ prod E := by
  intro E
  induction E with
  | nil => intro _; exact ⟨[], by simp [prod]⟩
  | cons l E ih =>
    intro hE
    obtain ⟨y, hy⟩ := ih fun l hl => hE l (List.mem_cons_of_mem _ hl)
    obtain ⟨q, l', hl⟩ := List.exists_cons_of_ne_nil (hE l (by simp))
    exact ⟨q :: y, by simp only [prod, List.mem_flatMap, List.mem_map]; exact ⟨q, by rw [hl]; simp, y, hy, rfl⟩⟩
theorem fc_spec (M K : Int) (E : List (List α)) (hE : ∀ l ∈ E, l ≠ []) (hc : ∀ l ∈ E, ∀ x ∈ l, c x ≤ K) (hd : ∀ x y, (∃ l ∈ E, x ∈ l) → (∃ l ∈ E, y ∈ l) → d x y ≤ K) (hK : 0 ≤ K) :
    ∀ k, k < E.length → (2 * (k : Int) + 2) * K ≤ M → ∀ j, j < (E.getD k []).length →
      ((fc c d M E k).getD j 0 ≤ (2 * (k : Int) + 1) * K ∧ (∃ y ∈ prod (E.take k), cst c d (y ++ [(E.getD k []).getD j default]) = (fc c d M E k).getD j 0) ∧ ∀ y ∈ prod (E.take k), (fc c d M E k).getD j 0 ≤ cst c d (y ++ [(E.getD k []).getD j default])) := by
  intro k
  induction k with
  | zero =>
    intro hk hM j hj
    have e0 : E.getD 0 [] = E[0] := by simp [hk]
    have e1 : (fc c d M E 0).getD j 0 = c ((E.getD 0 []).getD j default) := by
      exact map_getD _ _ _ _ hj
    have hm : (E.getD 0 []).getD j default ∈ E.getD 0 [] := getD_memL _ _ hj
    have hE0 : E.getD 0 [] ∈ E := by rw [e0]; exact List.getElem_mem hk
    rw [e1]
    refine ⟨?_, ⟨[], by simp [prod], rfl⟩, ?_⟩
    · have := hc _ hE0 _ hm
      have h2 : (2 * ((0 : Nat) : Int) + 1) * K = K := by simp
      rw [h2]; exact this
    · intro y hy
      rw [List.take_zero] at hy
      simp [prod] at hy
      subst hy
      exact Int.le_refl _
  | succ k ih =>
    intro hk hM j hj
    have hkl : k < E.length := by omega
    have hexp : (2 * ((k + 1 : Nat) : Int) + 2) * K = (2 * (k : Int) + 2) * K + 2 * K := by
      rw [show (2 * ((k + 1 : Nat) : Int) + 2) = (2 * (k : Int) + 2) + 2 from by omega, Int.add_mul]
    have hexp1 : (2 * ((k + 1 : Nat) : Int) + 1) * K = (2 * (k : Int) + 1) * K + 2 * K := by
      rw [show (2 * ((k + 1 : Nat) : Int) + 1) = (2 * (k : Int) + 1) + 2 from by omega, Int.add_mul]
    have hexp2 : (2 * (k : Int) + 2) * K = (2 * (k : Int) + 1) * K + K := by
      rw [show (2 * (k : Int) + 2) = (2 * (k : Int) + 1) + 1 from by omega, Int.add_mul, Int.one_mul]
    have IH := ih hkl (by omega)
    have hEk : E.getD k [] ∈ E := getD_memL _ _ hkl
    have hEk1 : E.getD (k + 1) [] ∈ E := getD_memL _ _ hk
    have hx : (E.getD (k + 1) []).getD j default ∈ E.getD (k + 1) [] := getD_memL _ _ hj
    have e1 : (fc c d M E (k + 1)).getD j 0 = nextC c d M (E.getD k []) (fc c d M E k) ((E.getD (k + 1) []).getD j default) := by
      exact map_getD _ _ _ _ hj
    generalize (E.getD (k + 1) []).getD j default = x at *
    rw [e1]
    have hpos : 0 < (E.getD k []).length := List.length_pos_iff.2 (hE _ hEk)
    have hmem : ∀ i, i < (E.getD k []).length → (E.getD k []).getD i default ∈ E.getD k [] := fun i hi => getD_memL _ _ hi
    have hdx := fun i (hi : i < (E.getD k []).length) => hd ((E.getD k []).getD i default) x ⟨_, hEk, hmem i hi⟩ ⟨_, hEk1, hx⟩
    have hcx := hc _ hEk1 _ hx
    have hstep : ∀ y ∈ prod (E.take k), ∀ p, cst c d ((y ++ [p]) ++ [x]) = cst c d (y ++ [p]) + (d p x + c x) := fun y _ p => by
      rw [cst_snoc, if_neg (by simp), List.getLastD_concat]
    obtain ⟨i, hi, hat⟩ := mnB_at M (fun i => (fc c d M E k).getD i 0 + d ((E.getD k []).getD i default) x) (E.getD k []).length hpos (fun i hi => by
      have h1 := (IH i hi).1
      have h2 := hdx i hi
      omega)
    refine ⟨?_, ?_, ?_⟩
    · unfold nextC
      rw [hat]
      have h1 := (IH i hi).1
      have h2 := hdx i hi
      omega
    · obtain ⟨_, ⟨y, hy, hcy⟩, _⟩ := IH i hi
      refine ⟨y ++ [(E.getD k []).getD i default], ?_, ?_⟩
      · rw [take_ne hkl, prod_snoc]
        exact List.mem_flatMap.2 ⟨y, hy, List.mem_map.2 ⟨_, hmem i hi, rfl⟩⟩
      · rw [hstep y hy, hcy]
        unfold nextC
        rw [hat]
        omega
    · intro y hy
      rw [take_ne hkl, prod_snoc] at hy
      obtain ⟨z, hz, hy⟩ := List.mem_flatMap.1 hy
      obtain ⟨p, hp, rfl⟩ := List.mem_map.1 hy
      obtain ⟨i, hi, rfl⟩ := List.getElem_of_mem hp
      have e3 : (E.getD k [])[i] = (E.getD k []).getD i default := get_getD _ _ hi
      rw [hstep z hz, e3]
      have h1 := (IH i hi).2.2 z hz
      have h2 := mnB_le M (fun i => (fc c d M E k).getD i 0 + d ((E.getD k []).getD i default) x) _ i hi
      unfold nextC
      omega
/-- The least of the last costs is what the best of all costs. -/
theorem fc_least (M K m : Int) (E : List (List α)) (k : Nat) (hkE : E.length = k + 1) (hE : ∀ l ∈ E, l ≠ []) (hc : ∀ l ∈ E, ∀ x ∈ l, c x ≤ K) (hd : ∀ x y, (∃ l ∈ E, x ∈ l) → (∃ l ∈ E, y ∈ l) → d x y ≤ K) (hK : 0 ≤ K)
    (hM : (2 * (k : Int) + 2) * K ≤ M) (hm : ∃ j, j < (E.getD k []).length ∧ m = (fc c d M E k).getD j 0) (hle : ∀ j, j < (E.getD k []).length → m ≤ (fc c d M E k).getD j 0) : m = cst c d (bst c d E) := by
  have hb := bst_first c d E hE
  have hall := fc_spec c d M K E hE hc hd hK k (by omega) hM
  have hEt : E = E.take k ++ [E.getD k []] := by
    rw [← take_ne (by omega), List.take_of_length_le (by omega)]
  obtain ⟨j, hj, hmj⟩ := hm
  obtain ⟨_, ⟨y, hy, hcy⟩, _⟩ := hall j hj
  have hmem : ∀ i, i < (E.getD k []).length → (E.getD k []).getD i default ∈ E.getD k [] := fun i hi => getD_memL _ _ hi
  have h1 : y ++ [(E.getD k []).getD j default] ∈ prod E := by
    rw [hEt, prod_snoc, ← hEt]
    exact List.mem_flatMap.2 ⟨y, hy, List.mem_map.2 ⟨_, hmem j hj, rfl⟩⟩
  have h2 := hb.le h1
  have h3 := hb.mem
  rw [hEt, prod_snoc, ← hEt] at h3
  obtain ⟨z, hz, h3⟩ := List.mem_flatMap.1 h3
  obtain ⟨p, hp, h3⟩ := List.mem_map.1 h3
  obtain ⟨i, hi, rfl⟩ := List.getElem_of_mem hp
  have e3 : (E.getD k [])[i] = (E.getD k []).getD i default := get_getD _ _ hi
  have h4 := (hall i hi).2.2 z hz
  have h5 := hle i hi
  rw [e3] at h3
  rw [h3] at h4
  omega
end Go.Proofs.Ytdmhjcnijebfgaa
