/- What Spell keeps in memory: the rest costs, row by row, and the pitches that it hands out; next with Spell's own closures. -/
import Derived.Test.YtdmhjcnijebfgaaSch
namespace Go.Proofs.Ytdmhjcnijebfgaa
open Go.RowKit
set_option linter.unusedVariables false

abbrev INTS : TypeId := 22
/-- Nothing that was there is turned but block X. -/
structure Kept (X : Nat) (w w' : World) : Prop where
  os : w'.os = w.os
  tape : w'.tape = w.tape
  output : w'.output = w.output
  size : w.heap.size ≤ w'.heap.size
  block : ∀ k, k < w.heap.size → k ≠ X → w'.heap[k]? = w.heap[k]?
theorem Kept.refl (X : Nat) (w : World) : Kept X w w := ⟨rfl, rfl, rfl, Nat.le_refl _, fun _ _ _ => rfl⟩
theorem Kept.trans {X : Nat} {w w' w'' : World} (h : Kept X w w') (k : Kept X w' w'') : Kept X w w'' :=
  ⟨k.os.trans h.os, k.tape.trans h.tape, k.output.trans h.output, Nat.le_trans h.size k.size, fun i hi h1 => (k.block i (Nat.lt_of_lt_of_le hi h.size) h1).trans (h.block i hi h1)⟩
theorem Kept.then {X : Nat} {w w' w'' : World} (h : Kept X w w') (k : Below w'.heap.size w' w'') : Kept X w w'' :=
  ⟨k.os.trans h.os, k.tape.trans h.tape, k.output.trans h.output, Nat.le_trans h.size k.size, fun i hi h1 => (k.block i (Nat.lt_of_lt_of_le hi h.size)).trans (h.block i hi h1)⟩
theorem Kept.below {X B : Nat} {w w' : World} (h : Kept X w w') (hB : B ≤ w.heap.size) (hX : B ≤ X) : Below B w w' :=
  ⟨h.os, h.tape, h.output, h.size, fun k hk => h.block k (by omega) (by omega)⟩
theorem setCell_far (w : World) (b i k : Nat) (u : Value) (h : k ≠ b) : (w.setCell ⟨b, i, none⟩ u).heap[k]? = w.heap[k]? := by
  show (w.heap.modify b _)[k]? = _
  rw [Array.getElem?_modify, if_neg (fun e => h e.symm)]
theorem Kept.set {X : Nat} {w w' : World} (h : Kept X w w') (i : Nat) (u : Value) : Kept X w (w'.setCell ⟨X, i, none⟩ u) :=
  ⟨h.os, h.tape, h.output, by show w.heap.size ≤ (w'.heap.modify X _).size; rw [Array.size_modify]; exact h.size, fun k hk h1 => (setCell_far _ _ _ _ _ h1).trans (h.block k hk h1)⟩
theorem Kept.drew {X : Nat} {w w' : World} (h : Kept X w w') : Kept X w w'.drew := ⟨h.os, h.tape, h.output, h.size, h.block⟩
theorem heap_setCell {w : World} {b : Nat} {cs : Array Value} {t : TypeId} {fr : Nat × Nat} (h : w.heap[b]? = some (.cells cs t fr)) (i : Nat) (u : Value) : (w.setCell ⟨b, i, none⟩ u).heap[b]? = some (.cells (cs.setIfInBounds i u) t fr) := by
  show (w.heap.modify b _)[b]? = _
  rw [Array.getElem?_modify, if_pos rfl, h]
  rfl
theorem own_none_or {w : World} {base size n : Nat} {e : TypeId} {v : Value} {xs : List Value} (h : w.ownsRow base e size v n xs) {k : Nat} (hk : v.ownBlock = some k) : k < w.heap.size ∧ ∃ cur, w.heap[k]? = some (.cells cur e (0, 0)) := by
  rcases h.2 with ⟨rfl, _⟩ | ⟨g, cap, cur, rfl, _, hg, _⟩
  · simp [Value.ownBlock] at hk
  · have : g = k := by simpa [Value.ownBlock] using hk
    subst this
    exact ⟨(Array.getElem?_eq_some_iff.1 hg).1, cur, hg⟩
theorem row_touch {base : Nat} {e : TypeId} {size : Nat} {w w' : World} {v : Value} {n : Nat} {xs : List Value} (h : w.ownsRow base e size v n xs) (hk : ∀ k, v.ownBlock = some k → k < w.heap.size → w'.heap[k]? = w.heap[k]?) : w'.ownsRow base e size v n xs := by
  refine ⟨h.1, ?_⟩
  rcases h.2 with hn | ⟨g, cap, cur, rfl, hb, hgg, rest⟩
  · exact .inl hn
  · refine .inr ⟨g, cap, cur, rfl, hb, ?_, rest⟩
    rw [hk g rfl (Array.getElem?_eq_some_iff.1 hgg).1]
    exact hgg
theorem SlT.kept {e t : TypeId} {X : Nat} {w w' : World} {v : Value} {n : Nat} {xs : List Value} {cs : Array Value} {fr : Nat × Nat} (h : SlT e w v n xs) (hk : Kept X w w') (hX : w.heap[X]? = some (.cells cs t fr)) (hne : e ≠ t) : SlT e w' v n xs :=
  h.keep fun b cs' fr' hh => (hk.block b (heap_lt hh) (by
    rintro rfl
    rw [hX] at hh
    injection hh with hh
    injection hh with _ h2 _
    exact hne h2.symm)).trans hh

/-- One row of the rest costs while it grows: row i of the block Rb, since the world Wi. -/
structure RowI (Rb i : Nat) (cs : Array Value) (Wi w : World) (v : Value) (xs : List Int) : Prop where
  kept : Kept Rb Wi w
  blk : w.heap[Rb]? = some (.cells (cs.setIfInBounds i v) INTS (0, 0))
  own : w.ownsRow Wi.heap.size INT 1 v xs.length (ints xs)
  lt : Rb < Wi.heap.size
theorem RowI.start {Rb i : Nat} {cs : Array Value} {Wi : World} (h : Wi.heap[Rb]? = some (.cells cs INTS (0, 0))) (hi : cs[i]? = some (.slice none 0 0)) : RowI Rb i cs Wi Wi (.slice none 0 0) [] :=
  ⟨Kept.refl _ _, by
    rw [h]
    congr 2
    apply Array.ext
    · simp
    · intro k h1 h2
      rw [Array.getElem_setIfInBounds (by simpa using h1)]
      split
      · rename_i e
        subst e
        rw [Array.getElem?_eq_getElem h1] at hi
        injection hi
      · rfl, World.ownsRow_nil _ _ _ _, heap_lt h⟩
theorem RowI.later {Rb i : Nat} {cs : Array Value} {Wi w w' : World} {v : Value} {xs : List Int} (h : RowI Rb i cs Wi w v xs) (hb : Below w.heap.size w w') : RowI Rb i cs Wi w' v xs :=
  ⟨h.kept.then hb, (hb.block Rb (heap_lt h.blk)).trans h.blk, own_below h.own hb, h.lt⟩
theorem RowI.cell {Rb i : Nat} {cs : Array Value} {Wi w : World} {v : Value} {xs : List Int} (h : RowI Rb i cs Wi w v xs) (hi : i < cs.size) : w.cell? ⟨Rb, i, none⟩ = some v := by
  rw [cell_of_row w Rb i _ _ _ h.blk, Array.getElem?_setIfInBounds_self_of_lt hi]
theorem RowI.push {Rb i : Nat} {cs : Array Value} {Wi w w' : World} {v v' : Value} {xs : List Int} {y : Int} (h : RowI Rb i cs Wi w v xs) (hg : w.grownBy w' v.ownBlock) (hown : w'.ownsRow Wi.heap.size INT 1 v' (xs.length + 1) (ints xs ++ [.int .i64 y])) :
    RowI Rb i cs Wi (w'.setCell ⟨Rb, i, none⟩ v') v' (xs ++ [y]) := by
  have hRb := heap_lt h.blk
  have hne : some Rb ≠ v.ownBlock := own_ty h.own h.blk (by decide)
  have hb1 := (hg.block Rb hRb hne).trans h.blk
  refine ⟨Kept.set ⟨hg.os.trans h.kept.os, hg.tape.trans h.kept.tape, hg.output.trans h.kept.output, Nat.le_trans h.kept.size hg.size, fun k hk h1 => (hg.block k (Nat.lt_of_lt_of_le hk h.kept.size) (fun e => ?_)).trans (h.kept.block k hk h1)⟩ _ _, ?_, ?_, h.lt⟩
  · have := (h.own.lt k e.symm).1; omega
  · rw [heap_setCell hb1]
    congr 2
    apply Array.ext <;> simp
  · have e : (xs ++ [y]).length = xs.length + 1 := by simp
    rw [e]
    have e2 : ints (xs ++ [y]) = ints xs ++ [.int .i64 y] := by simp
    rw [e2]
    exact row_touch hown fun k hk hlt => setCell_far _ _ _ _ _ (by
      rintro rfl
      obtain ⟨_, cur, hc⟩ := own_none_or hown hk
      rw [hb1] at hc
      injection hc with hc
      injection hc with _ h2 _
      exact absurd h2 (by decide))
/-- 'rest[i] = append(rest[i], cost)': the append. -/
theorem wpList_pushR {ops : Array Oper} {rest : List Oper} {o : Oper} {a : Act} {Q : Exit → Act → World → Prop} (hgd : o.guard = none) (s x : Operand)
    (ho : o.op = .call { callee := .builtin .append, args := #[s, x], argTypes := #[22, 22] })
    {Rb i : Nat} {cs : Array Value} {Wi w : World} {v : Value} {xs : List Int} (y : Int) (h : RowI Rb i cs Wi w v xs) (hi : i < cs.size) (hs : a.eval s = v) (hx : a.eval x = .slice (some ⟨w.heap.size, 0, none⟩) 1 1) (hl : xs.length ≤ 60000)
    (next : ∀ A c w', w'.cell? ⟨Rb, i, none⟩ = some v → w'.frozen? ⟨Rb, i, none⟩ = false → RowI Rb i cs Wi (w'.setCell ⟨Rb, i, none⟩ (.slice A (xs.length + 1) c)) (.slice A (xs.length + 1) c) (xs ++ [y]) → wpList Try.prog ops Q rest (a.put o.dst (.slice A (xs.length + 1) c)) w') : wpList Try.prog ops Q (o :: rest) a (w.alloc (.cells #[.int .i64 y] INT)) := by
  obtain ⟨i0, hi0, hz, hz1, hz2⟩ := info_parts infoInt
  have hb : Below w.heap.size w (w.alloc (.cells #[.int .i64 y] INT)) := (Below.refl _ w).alloc (Nat.le_refl _) _
  have h1 := h.later hb
  refine wpList_append_lies _ hgd s x 22 ho Wi.heap.size INT i0 _ 1 8 Try.underlying22 hi0 hz hz1 hz2 rfl (by decide) v xs.length (ints xs) hs h1.own ⟨w.heap.size, 0, none⟩ 1 1 [.int .i64 y] hx rfl (new_cells w [.int .i64 y] INT) (by intro u hu; rw [List.mem_singleton.1 hu]; rfl) (by decide)
    (by unfold maxLen; omega) (by omega) h1.kept.size _ rfl ?_
  intro g cap w' hown hgrow _ _
  have hRb := heap_lt h1.blk
  have hblk := (hgrow.block Rb hRb (own_ty h1.own h1.blk (by decide))).trans h1.blk
  refine next _ _ w' ?_ ?_ (h1.push hgrow hown)
  · rw [cell_of_row w' Rb i _ _ _ hblk, Array.getElem?_setIfInBounds_self_of_lt hi]
  · simp [World.frozen?, hblk]

/-- The pitches that are handed out while they grow: a slice in the box Ob, since the world W. -/
structure OutI (Ob : Nat) (W w : World) (v : Value) (D : List Pit) : Prop where
  kept : Kept Ob W w
  blk : w.heap[Ob]? = some (.cells #[v] PITS (0, 0))
  own : w.ownsRow W.heap.size PIT 3 v D.length (pitsC D)
  lt : Ob < W.heap.size
theorem OutI.start (w : World) : OutI w.heap.size (w.alloc (.cells #[.slice none 0 0] PITS)) (w.alloc (.cells #[.slice none 0 0] PITS)) (.slice none 0 0) [] :=
  ⟨Kept.refl _ _, heap_alloc_last w _, World.ownsRow_nil _ _ _ _, by rw [World.size_alloc]; exact Nat.lt_succ_self _⟩
theorem OutI.later {Ob : Nat} {W w w' : World} {v : Value} {D : List Pit} (h : OutI Ob W w v D) (hb : Below w.heap.size w w') : OutI Ob W w' v D :=
  ⟨h.kept.then hb, (hb.block Ob (heap_lt h.blk)).trans h.blk, own_below h.own hb, h.lt⟩
theorem OutI.drew {Ob : Nat} {W w : World} {v : Value} {D : List Pit} (h : OutI Ob W w v D) : OutI Ob W w.drew v D := ⟨h.kept.drew, h.blk, h.own, h.lt⟩
theorem OutI.cell {Ob : Nat} {W w : World} {v : Value} {D : List Pit} (h : OutI Ob W w v D) : w.cell? ⟨Ob, 0, none⟩ = some v := by
  rw [cell_of_row w Ob 0 _ _ _ h.blk]; rfl
theorem OutI.push {Ob : Nat} {W w w' : World} {v v' : Value} {D : List Pit} {p : Pit} (h : OutI Ob W w v D) (hg : w.grownBy w' v.ownBlock) (hown : w'.ownsRow W.heap.size PIT 3 v' (D.length + 1) (pitsC D ++ pitC p)) :
    OutI Ob W (w'.setCell ⟨Ob, 0, none⟩ v') v' (D ++ [p]) := by
  have hRb := heap_lt h.blk
  have hne : some Ob ≠ v.ownBlock := own_ty h.own h.blk (by decide)
  have hb1 := (hg.block Ob hRb hne).trans h.blk
  refine ⟨Kept.set ⟨hg.os.trans h.kept.os, hg.tape.trans h.kept.tape, hg.output.trans h.kept.output, Nat.le_trans h.kept.size hg.size, fun k hk h1 => (hg.block k (Nat.lt_of_lt_of_le hk h.kept.size) (fun e => ?_)).trans (h.kept.block k hk h1)⟩ _ _, ?_, ?_, h.lt⟩
  · have := (h.own.lt k e.symm).1; omega
  · rw [heap_setCell hb1]
    rfl
  · have e : (D ++ [p]).length = D.length + 1 := by simp
    rw [e, pitsC_snoc]
    exact row_touch hown fun k hk hlt => setCell_far _ _ _ _ _ (by
      rintro rfl
      obtain ⟨_, cur, hc⟩ := own_none_or hown hk
      rw [hb1] at hc
      injection hc with hc
      injection hc with _ h2 _
      exact absurd h2 (by decide))
/-- 'out = append(out, p)' in a region that draws its order: the append. -/
theorem step_pushO {ops : Array Oper} {o : Oper} {a : Act} {K : Act → World → Prop} {Q : Exit → Act → World → Prop} {G : Prop} (hgd : o.guard = none) (s x : Operand)
    (ho : o.op = .call { callee := .builtin .append, args := #[s, x], argTypes := #[24, 24] })
    {Ob : Nat} {W w : World} {v : Value} {D : List Pit} (c0 c1 c2 : Int) (h : OutI Ob W w v D) (hs : a.eval s = v) (hx : a.eval x = .slice (some ⟨w.heap.size, 0, none⟩) 1 1) (hl : D.length ≤ 60000)
    (next : ∀ A c w', w'.cell? ⟨Ob, 0, none⟩ = some v → w'.frozen? ⟨Ob, 0, none⟩ = false → OutI Ob W (w'.setCell ⟨Ob, 0, none⟩ (.slice A (D.length + 1) c)) (.slice A (D.length + 1) c) (D ++ [(c0, c1, c2)]) → K (a.put o.dst (.slice A (D.length + 1) c)) w') :
    if Region.wanted o (yielded ops a.tmps) = true then Oper.wp Try.prog o a (w.alloc (.cells #[.int .i64 c0, .int .i64 c1, .int .i64 c2] PIT)) K Q else G := by
  obtain ⟨i0, hi0, hz, hz1, hz2⟩ := info_parts infoPit
  have hb : Below w.heap.size w (w.alloc (.cells #[.int .i64 c0, .int .i64 c1, .int .i64 c2] PIT)) := (Below.refl _ w).alloc (Nat.le_refl _) _
  have h1 := h.later hb
  refine step_append_lies _ hgd s x 24 ho W.heap.size PIT i0 _ 3 24 Try.underlying24 hi0 hz hz1 hz2 rfl (by decide) v D.length (pitsC D) hs h1.own ⟨w.heap.size, 0, none⟩ 1 1 [.int .i64 c0, .int .i64 c1, .int .i64 c2] hx rfl (new_cells w [.int .i64 c0, .int .i64 c1, .int .i64 c2] PIT) (by simp [Value.oneCell']) (by decide)
    (by unfold maxLen; omega) (by omega) h1.kept.size _ rfl ?_
  intro g cap w' hown hgrow _ _
  have hRb := heap_lt h1.blk
  have hblk := (hgrow.block Ob hRb (own_ty h1.own h1.blk (by decide))).trans h1.blk
  refine next _ _ w' ?_ ?_ (h1.push hgrow hown)
  · rw [cell_of_row w' Ob 0 _ _ _ hblk]; rfl
  · simp [World.frozen?, hblk]

/-! ### The best, one pitch at a time -/
theorem bst_len (f : Int) (E : List (List Pit)) (hE : ∀ l ∈ E, l ≠ []) : (bst (cQ f) dQ E).length = E.length := prod_len E _ (bst_first (cQ f) dQ E hE).mem
theorem bst_ok (f : Int) (E : List (List Pit)) (hE : ∀ l ∈ E, l ≠ [] ∧ ∀ p ∈ l, okQ p) : ∀ p ∈ bst (cQ f) dQ E, okQ p := by
  have hm := (bst_first (cQ f) dQ E (fun l hl => (hE l hl).1)).mem
  generalize bst (cQ f) dQ E = y at hm
  revert y
  induction E with
  | nil => intro y hy p hp; simp [prod] at hy; subst hy; cases hp
  | cons l E ih =>
    intro y hy p hp
    simp only [prod, List.mem_flatMap, List.mem_map] at hy
    obtain ⟨q, hq, z, hz, rfl⟩ := hy
    rcases List.mem_cons.1 hp with rfl | hp
    · exact (hE l (by simp)).2 _ hq
    · exact ih (fun l' h' => hE l' (List.mem_cons_of_mem _ h')) z hz p hp
/-- What the second closure adds: nothing at the first pitch, behind it the distance from the pitch before. -/
def behind (L : List Pit) (q : Pit) : Int := match L.getLast? with | none => 0 | some p => dQ p q
theorem grd_take (f : Int) : ∀ (E : List (List Pit)) (q : Pit) (k : Nat), k < E.length →
    (grd (cQ f) dQ q E).take (k + 1) = (grd (cQ f) dQ q E).take k ++ [fm (fun x => rst (cQ f) dQ (E.drop (k + 1)) x + behind (q :: (grd (cQ f) dQ q E).take k) x) (E.getD k [])] := by
  intro E
  induction E with
  | nil => intro q k h; exact absurd h (Nat.not_lt_zero _)
  | cons l E ih =>
    intro q k h
    cases k with
    | zero => rfl
    | succ k =>
      have h' : k < E.length := by simpa using h
      show _ :: (grd (cQ f) dQ _ E).take (k + 1) = _ :: (grd (cQ f) dQ _ E).take k ++ _
      rw [ih _ k h']
      rfl
theorem bst_take (f : Int) (E : List (List Pit)) (k : Nat) (h : k < E.length) :
    (bst (cQ f) dQ E).take (k + 1) = (bst (cQ f) dQ E).take k ++ [fm (fun x => rst (cQ f) dQ (E.drop (k + 1)) x + behind ((bst (cQ f) dQ E).take k) x) (E.getD k [])] := by
  cases E with
  | nil => exact absurd h (Nat.not_lt_zero _)
  | cons l E =>
    cases k with
    | zero =>
      have e : (fun x => rst (cQ f) dQ ((l :: E).drop (0 + 1)) x + behind ((bst (cQ f) dQ (l :: E)).take 0) x) = fun x => rst (cQ f) dQ E x := by
        funext x
        show rst (cQ f) dQ E x + 0 = _
        rw [Int.add_zero]
      rw [e]
      rfl
    | succ k =>
      have h' : k < E.length := by simpa using h
      show _ :: (grd (cQ f) dQ _ E).take (k + 1) = _ :: (grd (cQ f) dQ _ E).take k ++ _
      rw [grd_take f E _ k h']
      rfl

/-! ### Bounds of the rest costs -/
theorem rst_bd (f : Int) (hf : -7 ≤ f) (hf' : f ≤ 7) : ∀ (E : List (List Pit)) (q : Pit), (∀ l ∈ E, l ≠ [] ∧ ∀ p ∈ l, okQ p) → okQ q → 0 ≤ rst (cQ f) dQ E q ∧ rst (cQ f) dQ E q ≤ 100 * ((E.length : Int) + 1) := by
  intro E
  induction E with
  | nil => intro q _ hq; have := out_bd hf hf' hq; show 0 ≤ 3 * outQ f q ∧ 3 * outQ f q ≤ _; simp; omega
  | cons l E ih =>
    intro q hE hq
    have hl := hE l (by simp)
    have hm := (fm_is (fun x => rst (cQ f) dQ E x + dQ q x) l (List.length_pos_iff.2 hl.1)).mem
    have hx := hl.2 _ hm
    have h1 := ih _ (fun l' h' => hE l' (List.mem_cons_of_mem _ h')) hx
    have h2 := out_bd hf hf' hq
    have h3 := d_bd hq hx
    show 0 ≤ 3 * outQ f q + (rst _ _ E _ + dQ q _) ∧ 3 * outQ f q + (rst _ _ E _ + dQ q _) ≤ _
    rw [List.length_cons]
    omega
/-- The rest costs of one row. -/
def restL (f : Int) (E : List (List Pit)) (L : List Pit) : List Int := L.map (rst (cQ f) dQ E)
theorem restL_len (f : Int) (E : List (List Pit)) (L : List Pit) : (restL f E L).length = L.length := by simp [restL]
theorem restL_at (f : Int) (E : List (List Pit)) (L : List Pit) {k : Nat} (hk : k < L.length) : (restL f E L).getD k 0 = rst (cQ f) dQ E (L.getD k default) := map_getD _ _ _ _ hk

theorem call31 (args : Array Value) (w : World) : Sem.run Try.prog (callFunc 31 args) w = .ok (.enter 31 args) w := by kernel_rfl
theorem call33 (args : Array Value) (w : World) : Sem.run Try.prog (callFunc 33 args) w = .ok (.enter 33 args) w := by kernel_rfl
theorem next_spell1 (A B : Option Addr) (c c' : Nat) (f : Int) (L : List Pit) (E : List (List Pit)) (b : Nat) (p : Pit) (w : World) (hf : -7 ≤ f) (hf' : f ≤ 7) (hA : Rd w w.heap.size A (pitsC L)) (hB : Rd w w.heap.size B (ints (restL f E L)))
    (h0 : 0 < L.length) (hn : L.length ≤ 1000) (hL : ∀ q ∈ L, okQ q) (hE : ∀ l ∈ E, l ≠ [] ∧ ∀ p ∈ l, okQ p) (hEn : E.length ≤ 10000) (hp : okQ p) (hlt : b < w.heap.size)
    (c0 : w.cell? ⟨b, 0, none⟩ = some (.int .i64 p.1)) (c1 : w.cell? ⟨b, 1, none⟩ = some (.int .i64 p.2.1)) (c2 : w.cell? ⟨b, 2, none⟩ = some (.int .i64 p.2.2)) :
    Calls Try.prog 30 #[.slice A L.length c, .slice B L.length c', .func (.func 31) #[] #[.pointer (some ⟨b, 0, none⟩)]] w fun e w' =>
      e = .returned (.tuple #[.int .i64 (bestI (fun i => rst (cQ f) dQ E (L.getD i default) + dQ p (L.getD i default)) L.length : Nat), .int .i64 (rst (cQ f) dQ E (fm (fun x => rst (cQ f) dQ E x + dQ p x) L) + dQ p (fm (fun x => rst (cQ f) dQ E x + dQ p x) L))]) ∧ Below w.heap.size w w' := by
  have h := next_any A B c c' L (restL f E L) 31 #[.pointer (some ⟨b, 0, none⟩)] (dQ p) (fun i => rst (cQ f) dQ E (L.getD i default) + dQ p (L.getD i default)) w hA hB (restL_len _ _ _) hn
    (fun r hr => by
      obtain ⟨q, hq, rfl⟩ := List.mem_map.1 hr
      have := rst_bd f hf hf' E q hE (hL q hq)
      omega)
    (fun i hi => by rw [restL_at _ _ _ hi]) (fun q hq => by have := d_bd hp (hL q hq); omega) call31
    (fun q hq w1 hb => spell1_any b p.1 p.2.1 p.2.2 q.1 q.2.1 q.2.2 w1 hp (hL q hq) (Nat.lt_of_lt_of_le hlt hb.size) ((hb.cell (p := ⟨b, 0, none⟩) hlt).trans c0) ((hb.cell (p := ⟨b, 1, none⟩) hlt).trans c1) ((hb.cell (p := ⟨b, 2, none⟩) hlt).trans c2))
  rw [restL_len, sumI_pos _ h0] at h
  exact h
/-- The index of the first best of a list, its value. -/
def bIdx (g : Pit → Int) (L : List Pit) : Nat := bestI (fun i => g (L.getD i default)) L.length
def bSum (g : Pit → Int) (L : List Pit) : Int := sumI (fun i => g (L.getD i default)) L.length
theorem bIdx_lt (g : Pit → Int) (L : List Pit) (h : 0 < L.length) : bIdx g L < L.length := bestI_lt _ _ h
theorem bIdx_fm (g : Pit → Int) (L : List Pit) : L.getD (bIdx g L) default = fm g L := rfl
theorem next_spell2 (A B : Option Addr) (c c' : Nat) (f : Int) (L : List Pit) (E : List (List Pit)) (bi bo : Nat) (D : List Pit) (A0 : Option Addr) (c0 : Nat) (w : World) (hf : -7 ≤ f) (hf' : f ≤ 7) (hA : Rd w w.heap.size A (pitsC L)) (hB : Rd w w.heap.size B (ints (restL f E L)))
    (h0 : 0 < L.length) (hn : L.length ≤ 1000) (hL : ∀ q ∈ L, okQ q) (hE : ∀ l ∈ E, l ≠ [] ∧ ∀ p ∈ l, okQ p) (hEn : E.length ≤ 10000) (hD : ∀ q ∈ D, okQ q) (hDn : D.length ≤ 10000) (hlt : bi < w.heap.size) (hlo : bo < w.heap.size)
    (ci : w.cell? ⟨bi, 0, none⟩ = some (.int .i64 (D.length : Int))) (co : w.cell? ⟨bo, 0, none⟩ = some (.slice A0 D.length c0)) (hr : Rd w w.heap.size A0 (pitsC D)) :
    Calls Try.prog 30 #[.slice A L.length c, .slice B L.length c', .func (.func 33) #[] #[.pointer (some ⟨bi, 0, none⟩), .pointer (some ⟨bo, 0, none⟩)]] w fun e w' =>
      e = .returned (.tuple #[.int .i64 (bIdx (fun q => rst (cQ f) dQ E q + behind D q) L : Nat), .int .i64 (bSum (fun q => rst (cQ f) dQ E q + behind D q) L)]) ∧ Below w.heap.size w w' := by
  have hbd : ∀ q ∈ L, 0 ≤ behind D q ∧ behind D q ≤ 1000000 := fun q hq => by
    unfold behind
    cases hl : D.getLast? with
    | none => show (0 : Int) ≤ 0 ∧ (0 : Int) ≤ 1000000; decide
    | some p =>
      have := d_bd (hD p (List.mem_of_getLast? hl)) (hL q hq)
      dsimp only
      omega
  have h := next_any A B c c' L (restL f E L) 33 #[.pointer (some ⟨bi, 0, none⟩), .pointer (some ⟨bo, 0, none⟩)] (behind D) (fun i => rst (cQ f) dQ E (L.getD i default) + behind D (L.getD i default)) w hA hB (restL_len _ _ _) hn
    (fun r hr => by
      obtain ⟨q, hq, rfl⟩ := List.mem_map.1 hr
      have := rst_bd f hf hf' E q hE (hL q hq)
      omega)
    (fun i hi => by rw [restL_at _ _ _ hi]) hbd call33
    (fun q hq w1 hb => by
      have ci1 := (hb.cell (p := ⟨bi, 0, none⟩) hlt).trans ci
      have co1 := (hb.cell (p := ⟨bo, 0, none⟩) hlo).trans co
      have hl1 := Nat.lt_of_lt_of_le hlt hb.size
      have hl2 := Nat.lt_of_lt_of_le hlo hb.size
      rcases Nat.eq_zero_or_pos D.length with hz | hz
      · have hDn : D = [] := List.eq_nil_of_length_eq_zero hz
        subst hDn
        exact spell2_zero bi bo q.1 q.2.1 q.2.2 w1 hl1 ci1
      · obtain ⟨b, off, rfl, hlb, p0, p1, p2⟩ := rdP (rd_below hr hb) (k := D.length - 1) (by omega)
        have hlast : D.getLast? = some (D.getD (D.length - 1) default) := by
          rw [List.getLast?_eq_getElem?, List.getD_eq_getElem?_getD, List.getElem?_eq_getElem (by omega)]; rfl
        have hmem := getD_memL D (default : Pit) (i := D.length - 1) (by omega)
        have hbq : behind D q = dQ (D.getD (D.length - 1) default) q := by unfold behind; rw [hlast]
        rw [hbq]
        exact spell2_pos bi bo b off D.length c0 D.length _ _ _ q.1 q.2.1 q.2.2 w1 (hD _ hmem) (hL q hq) hz (Nat.le_refl _) (by omega) hl1 hl2 hlb ci1 co1 p0 p1 p2)
  rw [restL_len] at h
  exact h
end Go.Proofs.Ytdmhjcnijebfgaa
