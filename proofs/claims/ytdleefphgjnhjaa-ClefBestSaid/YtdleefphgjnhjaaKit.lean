/- General lemmas, no program in sight: worlds that are, below a block, as they were ('Later'), so that a region that draws its order is walked once; slices that read as lists. -/
import Derived.WalkKit
import Derived.WalkLawsBesides
import Derived.WalkSpells
import Derived.BigQuiet
import Derived.Handy
import Derived.Lib.Hide
import Derived.Maps.AppendAt
import Derived.Deep.AppendLies
import Derived.Deep.Draws
import Derived.Deep.WholeRow
namespace Go.Proofs.Ytdleefphgjnhjaa
open Go.RowKit
set_option linter.unusedVariables false

/-- A world that is, below block B, as w0 was. -/
structure Later (B : Nat) (w0 : World) where
  w : World
  h : Below B w0 w

instance later_nonempty (B : Nat) (w0 : World) : Nonempty (Later B w0) := ⟨⟨w0, Below.refl _ _⟩⟩

theorem later_calls {P : Program} {f : FuncId} {args : Array Value} {B : Nat} {w0 : World} {s : Later B w0} {v : Value} (hB : B ≤ w0.heap.size)
    (h : Calls P f args s.w fun e w' => e = .returned v ∧ Below s.w.heap.size s.w w') :
    Calls P f args s.w fun e w' => e = .returned v ∧ ∃ s' : Later B w0, w' = s'.w :=
  h.mono fun _ w' ⟨he, hb⟩ => ⟨he, ⟨w', s.h.trans (hb.mono (Nat.le_trans hB s.h.size))⟩, rfl⟩

theorem later_cell {B : Nat} {w0 : World} {a : Addr} {v : Value} (h : w0.cell? a = some v) (hb : a.block < B) (s : Later B w0) : s.w.cell? a = some v := (s.h.cell hb).trans h

/-- A region that draws its order, whose operations only read and whose callees leave what was there alone: one walk in the text's order. -/
theorem wp_region_later {P : Program} {id : Nat} {Q : Exit → Act → World → Prop} {a : Act} {w : World} {l : List Oper} (hm : P.follows .mixedOrders = true) (hB : Region.lexB .any l.toArray = true)
    (h : wpQuiet P l.toArray (fun w' => ∃ s : Later w.heap.size w, w' = s.w) (fun a' => ∀ w', Below w.heap.size w w' → Q .normal a' w') l a) : (Code.region id l.toArray true).wp P Q a w :=
  wp_region_quiet (C := fun w' => ∃ s : Later w.heap.size w, w' = s.w) hm hB ⟨⟨_, (Below.refl _ _).drew⟩, rfl⟩ (by
    have : (fun a' => ∀ w', (∃ s : Later w.heap.size w, w' = s.w) → Q .normal a' w') = (fun a' => ∀ w', Below w.heap.size w w' → Q .normal a' w') := by
      funext a'
      exact propext ⟨fun h w' hb => h w' ⟨⟨w', hb⟩, rfl⟩, fun h w' ⟨s, hs⟩ => h w' (hs ▸ s.h)⟩
    rw [this]
    simpa using h)

/-- The cells of a boxed struct of three fields, in its own world and in every later one. -/
theorem later_box3 (w : World) (x y z : Value) (T : TypeId) :
    (∀ s : Later (w.alloc (.cells #[x, y, z] T)).heap.size (w.alloc (.cells #[x, y, z] T)), s.w.cell? ⟨w.heap.size, 0, none⟩ = some x) ∧
    (∀ s : Later (w.alloc (.cells #[x, y, z] T)).heap.size (w.alloc (.cells #[x, y, z] T)), s.w.cell? ⟨w.heap.size, 1, none⟩ = some y) ∧
    (∀ s : Later (w.alloc (.cells #[x, y, z] T)).heap.size (w.alloc (.cells #[x, y, z] T)), s.w.cell? ⟨w.heap.size, 2, none⟩ = some z) :=
  ⟨fun s => later_cell (by simp) (by simp) s, fun s => later_cell (by simp) (by simp) s, fun s => later_cell (by simp) (by simp) s⟩

theorem bcell {W w1 : World} (hb : Below W.heap.size W w1) : (∀ b o, b < W.heap.size → w1.cell? ⟨b, o, none⟩ = W.cell? ⟨b, o, none⟩) ∧ (∀ b o, b < W.heap.size → w1.frozen? ⟨b, o, none⟩ = W.frozen? ⟨b, o, none⟩) :=
  ⟨fun b o h => hb.cell (p := ⟨b, o, none⟩) h, fun b o h => hb.frozen (p := ⟨b, o, none⟩) h⟩

theorem next0 {W w1 w2 : World} (hb : Below W.heap.size W w1) (hb2 : Below w1.heap.size w1 w2) : Below W.heap.size W w2 := hb.trans (hb2.mono hb.size)
theorem next1 {W w1 w2 : World} {o : Obj} (hb : Below W.heap.size W w1) (hb2 : Below (w1.alloc o).heap.size (w1.alloc o) w2) : Below W.heap.size W w2 :=
  next0 (hb.alloc hb.size o) hb2
theorem next2 {W w1 w2 : World} {o o' : Obj} (hb : Below W.heap.size W w1) (hb2 : Below ((w1.alloc o).alloc o').heap.size ((w1.alloc o).alloc o') w2) : Below W.heap.size W w2 :=
  next1 (hb.alloc hb.size o) hb2

theorem base1 {w w1 : World} {o : Obj} (hb : Below (w.alloc o).heap.size (w.alloc o) w1) : Below w.heap.size w w1 := next1 (Below.refl _ _) hb
theorem base2 {w w1 : World} {o o' : Obj} (hb : Below ((w.alloc o).alloc o').heap.size ((w.alloc o).alloc o') w1) : Below w.heap.size w w1 := next2 (Below.refl _ _) hb
theorem base3 {w w1 : World} {o o' o'' : Obj} (hb : Below (((w.alloc o).alloc o').alloc o'').heap.size (((w.alloc o).alloc o').alloc o'') w1) : Below w.heap.size w w1 := base2 (base1 hb)

theorem below_dn {B : Nat} {a w : World} (h : Below B a w) (n : Nat) : Below B a (w.drewN n) := ⟨h.os, h.tape, h.output, h.size, h.block⟩

theorem wpList_at {P : Program} {ops : Array Oper} {rest : List Oper} {o : Oper} {a : Act} {w w' : World} {Q : Exit → Act → World → Prop} (op : Op) (v : Value) (hg : o.guard = none) (ho : o.op = op)
    (hrun : (execOp a.eval o).run P w = .ok (.value v) w') (h : wpList P ops Q rest (a.put o.dst v) w') : wpList P ops Q (o :: rest) a w :=
  wpList_plain hg fun K hK => by
    unfold Oper.wp
    rw [hrun]
    exact hK _ _ h

theorem wpList_val {P : Program} {ops : Array Oper} {rest : List Oper} {o : Oper} {a : Act} {w : World} {Q : Exit → Act → World → Prop} (v : Value) (hg : o.guard = none)
    (hrun : (execOp a.eval o).run P w = .ok (.value v) w) (h : wpList P ops Q rest (a.put o.dst v) w) : wpList P ops Q (o :: rest) a w := wpList_at o.op v hg rfl hrun h

theorem results_cell1 {fn : Func} {p : Tmp} {ty : TypeId} (h : fn.results = #[.cell p ty]) {tmps : Array Value} {P : Program} {w : World} {a : Addr} {v : Value} (ha : tmps.getD p undef = .pointer (some a))
    (hl : (loadVar ty a).run P w = .ok v w) : (results fn tmps).run P w = .ok v w := by
  simp only [results, h]
  have ha' : tmps[p]?.getD undef = .pointer (some a) := by simpa using ha
  simp [ha', asAddr, hl]

theorem wpList_store_new {P : Program} {ops : Array Oper} {rest : List Oper} {o : Oper} {a : Act} {w : World} {Q : Exit → Act → World → Prop} (t : TypeId) (x y : Operand) (c c' : Array Value) (hg : o.guard = none) (ho : o.op = .store t x y)
    (hx : a.eval x = .pointer (some ⟨w.heap.size, 0, none⟩)) (hy : a.eval y = .agg c')
    (hi : (P.info? t).map (·.size) = some c'.size) (hs : c.size = c'.size) (h1 : c'.all (·.oneCell') = true) (h : wpList P ops Q rest (a.put o.dst undef) (w.alloc (.cells c' t))) : wpList P ops Q (o :: rest) a (w.alloc (.cells c t)) :=
  wpList_plain hg fun K hK => by
    unfold Oper.wp execOp
    simp only [ho, hx, hy, Sem.run_bind, run_storeAt_new w t c c' hi hs h1, Sem.run_pure, Result.andThen_ok]
    exact hK _ _ h

/-! ### A slice that the call itself grows, and slices that are read -/

/-- The slice value v, of n elements with the cells xs, grown since the world W; below W's heap nothing has turned. -/
structure Acc (E : TypeId) (size : Nat) (W w : World) (v : Value) (n : Nat) (xs : List Value) : Prop where
  own : w.ownsRow W.heap.size E size v n xs
  below : Below W.heap.size W w

theorem acc_nil (E : TypeId) (size : Nat) (W : World) : Acc E size W W (.slice none 0 0) 0 [] := ⟨World.ownsRow_nil _ _ _ _, Below.refl _ _⟩

theorem acc_alloc {E : TypeId} {size : Nat} {W w : World} {v : Value} {n : Nat} {xs : List Value} (h : Acc E size W w v n xs) (o : Obj) : Acc E size W (w.alloc o) v n xs :=
  ⟨h.own.alloc o, h.below.alloc h.below.size o⟩

theorem own_below {base : Nat} {e : TypeId} {size : Nat} {w w' : World} {v : Value} {n : Nat} {xs : List Value} (h : w.ownsRow base e size v n xs) (hb : Below w.heap.size w w') : w'.ownsRow base e size v n xs := by
  obtain ⟨h1, h2⟩ := h
  refine ⟨h1, ?_⟩
  rcases h2 with h2 | ⟨g, cap, cur, hv, hg, hh, r⟩
  · exact Or.inl h2
  · have hlt : g < w.heap.size := by
      rcases Nat.lt_or_ge g w.heap.size with h | h
      · exact h
      · rw [Array.getElem?_eq_none h] at hh; cases hh
    exact Or.inr ⟨g, cap, cur, hv, hg, (hb.block g hlt).trans hh, r⟩

theorem acc_below {E : TypeId} {size : Nat} {W w w' : World} {v : Value} {n : Nat} {xs : List Value} (h : Acc E size W w v n xs) (hb : Below w.heap.size w w') : Acc E size W w' v n xs :=
  ⟨own_below h.own hb, h.below.trans (hb.mono h.below.size)⟩

theorem new_cells (w : World) (us : List Value) (E : TypeId) : ∀ j u, us[j]? = some u → (w.alloc (.cells us.toArray E)).cell? ((⟨w.heap.size, 0, none⟩ : Addr).add j) = some u := by
  intro j u hj
  have hadd : (⟨w.heap.size, 0, none⟩ : Addr).add j = ⟨w.heap.size, j, none⟩ := by unfold Addr.add; split <;> simp_all
  rw [hadd, cell_of_row _ _ j us.toArray E (0, 0) (heap_alloc_last w _)]
  simpa using hj

/-- 'out = append(out, x)': one element more. -/
theorem wpList_push {P : Program} {ops : Array Oper} {rest : List Oper} {o : Oper} {a : Act} {Q : Exit → Act → World → Prop} (hgd : o.guard = none) (s x : Operand) (T : TypeId)
    (ho : o.op = .call { callee := .builtin .append, args := #[s, x], argTypes := #[T, T] })
    (E : TypeId) (size bytes : Nat) (z : Value) (hT : P.underlying T = some (.slice E)) (hinfo : (P.info? E).map (fun i => (i.zero, i.size, i.bytes)) = some (some z, size, bytes)) (hzs : z.cells.size = size) (hsz : 0 < size)
    {W w : World} {v : Value} {n : Nat} {xs : List Value} (us : List Value) (hacc : Acc E size W w v n xs) (hs : a.eval s = v) (hx : a.eval x = .slice (some ⟨w.heap.size, 0, none⟩) 1 1)
    (hus : us.length = size) (h1 : ∀ u ∈ us, u.oneCell' = true) (h63 : n + 1 ≤ 65536) (hby : bytes ≤ 65536)
    (h : ∀ v' w', Acc E size W w' v' (n + 1) (xs ++ us) → wpList P ops Q rest (a.put o.dst v') w') : wpList P ops Q (o :: rest) a (w.alloc (.cells us.toArray E)) := by
  obtain ⟨i, hi, hz, hz1, hz2⟩ := info_parts hinfo
  refine wpList_append_own _ hgd s x T ho W.heap.size E i z size bytes hT hi hz hz1 hz2 hzs hsz v n xs hs (hacc.own.alloc _) ⟨w.heap.size, 0, none⟩ 1 1 us hx (by simpa using hus) (new_cells w us E) h1
    (by unfold maxLen; omega) (Nat.le_trans (Nat.mul_le_mul h63 hby) (by omega)) (by have := hacc.below.size; simp; omega) ?_
  intro v' w' hown hgrow _
  refine h v' w' ⟨hown, (acc_alloc hacc _).below.grown hgrow (acc_alloc hacc _).below.size ?_⟩
  intro k hk
  exact (hacc.own.lt k hk).1

/-- The slice with this address reads as the cells xs, all in blocks below B. -/
def Rd (w : World) (B : Nat) (A : Option Addr) (xs : List Value) : Prop :=
  xs = [] ∨ ∃ b off, A = some ⟨b, off, none⟩ ∧ b < B ∧ ∀ j u, xs[j]? = some u → w.cell? ⟨b, off + j, none⟩ = some u

theorem rd_nil (w : World) (B : Nat) (A : Option Addr) : Rd w B A [] := Or.inl rfl
theorem rd_pos {w : World} {B : Nat} {A : Option Addr} {xs : List Value} (h : Rd w B A xs) (hn : 0 < xs.length) :
    ∃ b off, A = some ⟨b, off, none⟩ ∧ b < B ∧ ∀ j u, xs[j]? = some u → w.cell? ⟨b, off + j, none⟩ = some u := by
  rcases h with rfl | h
  · simp at hn
  · exact h
theorem rd_keep {w w' : World} {B : Nat} {A : Option Addr} {xs : List Value} (h : Rd w B A xs) (hb : Below B w w') : Rd w' B A xs := by
  rcases h with h | ⟨b, off, hA, hB, hc⟩
  · exact .inl h
  · exact .inr ⟨b, off, hA, hB, fun j u hu => (hb.cell (p := ⟨b, off + j, none⟩) hB).trans (hc j u hu)⟩
theorem rd_more {w : World} {B B' : Nat} {A : Option Addr} {xs : List Value} (h : Rd w B A xs) (hB : B ≤ B') : Rd w B' A xs := by
  rcases h with h | ⟨b, off, hA, hb, hc⟩
  · exact .inl h
  · exact .inr ⟨b, off, hA, Nat.lt_of_lt_of_le hb hB, hc⟩
/-- What a slice reads as in a later world. -/
theorem rd_below {w w' : World} {A : Option Addr} {xs : List Value} (h : Rd w w.heap.size A xs) (hb : Below w.heap.size w w') : Rd w' w'.heap.size A xs := rd_more (rd_keep h hb) hb.size

theorem rd_new (w : World) (us : List Value) (E : TypeId) : Rd (w.alloc (.cells us.toArray E)) (w.heap.size + 1) (some ⟨w.heap.size, 0, none⟩) us :=
  .inr ⟨w.heap.size, 0, rfl, Nat.lt_succ_self _, fun j u hu => by
    have := new_cells w us E j u hu
    have hadd : (⟨w.heap.size, 0, none⟩ : Addr).add j = ⟨w.heap.size, 0 + j, none⟩ := by unfold Addr.add; split <;> simp_all
    rwa [hadd] at this⟩

theorem acc_form {E : TypeId} {size : Nat} {W w : World} {v : Value} {n : Nat} {xs : List Value} (h : Acc E size W w v n xs) :
    ∃ A c, v = .slice A n c ∧ n ≤ c ∧ c ≤ maxLen ∧ Rd w w.heap.size A xs := by
  obtain ⟨h1, h2⟩ := h.own
  rcases h2 with ⟨rfl, rfl⟩ | ⟨g, cap, cur, rfl, hg, hh, hc, hm, _, ht⟩
  · exact ⟨none, 0, rfl, Nat.le_refl _, Nat.zero_le _, .inl (List.eq_nil_of_length_eq_zero (by simpa using h1))⟩
  · refine ⟨some ⟨g, 0, none⟩, cap, rfl, hc, hm, .inr ⟨g, 0, rfl, ?_, fun j u hu => ?_⟩⟩
    · rcases Nat.lt_or_ge g w.heap.size with h | h
      · exact h
      · rw [Array.getElem?_eq_none h] at hh; cases hh
    · have := h.own.cells (g := g) rfl j u hu
      have hadd : (⟨g, 0, none⟩ : Addr).add j = ⟨g, 0 + j, none⟩ := by unfold Addr.add; split <;> simp_all
      rwa [hadd] at this

theorem ret_eq {a b : Value} (h : a = b) : Ending.returned a = .returned b := by rw [h]

end Go.Proofs.Ytdleefphgjnhjaa
