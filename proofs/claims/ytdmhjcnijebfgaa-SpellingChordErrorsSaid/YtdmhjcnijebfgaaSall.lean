/- All of the reference: contract. -/
import Derived.Test.YtdmhjcnijebfgaaSref9
import Derived.Deep.RegionLaw
namespace Go.Proofs.Ytdmhjcnijebfgaa
open Go.RowKit
set_option linter.unusedVariables false

/-- 'append([]Pitch{}, src...)' in a region that draws its order. -/
theorem step_appA {ops : Array Oper} {o : Oper} {a : Act} {K : Act → World → Prop} {Q : Exit → Act → World → Prop} {G : Prop} (hgd : o.guard = none) (s x : Operand)
    (ho : o.op = .call { callee := .builtin .append, args := #[s, x], argTypes := #[24, 24] })
    {wr w : World} {h : Nat} (hb : Below wr.heap.size wr w) (hh : w.heap[h]? = some (.cells #[] PIT (0, 0))) (hge : wr.heap.size ≤ h) {b off c : Nat} {L : List Pit} (hrd : Rd wr wr.heap.size (some ⟨b, off, none⟩) (pitsC L)) (hpos : 0 < L.length) (hl : L.length ≤ 1000)
    (hs : a.eval s = .slice (some ⟨h, 0, none⟩) 0 0) (hx : a.eval x = .slice (some ⟨b, off, none⟩) L.length c)
    (next : ∀ A c w', AccP wr w' (.slice A L.length c) L → (∀ k, k < w.heap.size → k ≠ h → w'.heap[k]? = w.heap[k]?) → K (a.put o.dst (.slice A L.length c)) w') :
    if Region.wanted o (yielded ops a.tmps) = true then Oper.wp Try.prog o a w K Q else G := by
  obtain ⟨i0, hi0, hz, hz1, hz2⟩ := info_parts infoPit
  have hown : w.ownsRow wr.heap.size PIT 3 (.slice (some ⟨h, 0, none⟩) 0 0) 0 [] := ⟨rfl, .inr ⟨h, 0, #[], rfl, hge, hh, by decide, by decide, rfl, rfl⟩⟩
  obtain ⟨b', off', e, _, hc⟩ := rd_pos (rd_keep hrd hb) (by rw [pitsC_len]; omega)
  injection e with e
  injection e with e1 e2
  subst e1 e2
  refine step_append_lies _ hgd s x 24 ho wr.heap.size PIT i0 _ 3 24 Try.underlying24 hi0 hz hz1 hz2 rfl (by decide) _ 0 [] hs hown ⟨b, off, none⟩ L.length c (pitsC L) hx (pitsC_len L) ?_ ?_ hpos
    (by unfold maxLen; omega) (by omega) hb.size _ rfl ?_
  · intro j u hj
    have hadd : (⟨b, off, none⟩ : Addr).add j = ⟨b, off + j, none⟩ := by unfold Addr.add; split <;> simp_all
    rw [hadd]
    exact hc j u hj
  · intro u hu
    unfold pitsC at hu
    obtain ⟨p, _, hp⟩ := List.mem_flatMap.1 hu
    unfold pitC at hp
    simp at hp
    rcases hp with rfl | rfl | rfl <;> rfl
  · intro g cap w' hown' hgrow _ _
    rw [Nat.zero_add, List.nil_append] at hown'
    rw [Nat.zero_add]
    refine next _ _ w' ⟨hown', hb.grown hgrow hb.size (fun k hk => (hown.lt k hk).1)⟩ (fun k hk hne => hgrow.block k hk (fun e => hne (by simpa [Value.ownBlock] using e)))
/-- 'append(y, p)' in a region that draws its order. -/
theorem step_appB {ops : Array Oper} {o : Oper} {a : Act} {K : Act → World → Prop} {Q : Exit → Act → World → Prop} {G : Prop} (hgd : o.guard = none) (s x : Operand)
    (ho : o.op = .call { callee := .builtin .append, args := #[s, x], argTypes := #[24, 24] })
    {wr w : World} {y : Value} {L : List Pit} (hacc : AccP wr w y L) {b : Nat} {c0 c1 c2 : Int} (hbk : w.heap[b]? = some (.cells #[.int .i64 c0, .int .i64 c1, .int .i64 c2] PIT (0, 0))) (hl : L.length ≤ 1000)
    (hs : a.eval s = y) (hx : a.eval x = .slice (some ⟨b, 0, none⟩) 1 1)
    (next : ∀ A c w', AccP wr w' (.slice A (L.length + 1) c) (L ++ [(c0, c1, c2)]) → K (a.put o.dst (.slice A (L.length + 1) c)) w') :
    if Region.wanted o (yielded ops a.tmps) = true then Oper.wp Try.prog o a w K Q else G := by
  obtain ⟨i0, hi0, hz, hz1, hz2⟩ := info_parts infoPit
  refine step_append_lies _ hgd s x 24 ho wr.heap.size PIT i0 _ 3 24 Try.underlying24 hi0 hz hz1 hz2 rfl (by decide) y L.length (pitsC L) hs hacc.own ⟨b, 0, none⟩ 1 1 [.int .i64 c0, .int .i64 c1, .int .i64 c2] hx rfl ?_ (by simp [Value.oneCell']) (by decide)
    (by unfold maxLen; omega) (by omega) hacc.below.size _ rfl ?_
  · intro j u hj
    have hadd : (⟨b, 0, none⟩ : Addr).add j = ⟨b, j, none⟩ := by unfold Addr.add; split <;> simp_all
    rw [hadd, cell_of_row w b j _ _ _ hbk]
    simpa using hj
  · intro g cap w' hown' hgrow _ _
    refine next _ _ w' ⟨?_, hacc.below.grown hgrow hacc.below.size (fun k hk => (hacc.own.lt k hk).1)⟩
    have e : (L ++ [(c0, c1, c2)]).length = L.length + 1 := by simp
    rw [e, pitsC_snoc]
    exact hown'
/-- 'append(y, nothing...)' in a region that draws its order. -/
theorem step_appZ {ops : Array Oper} {o : Oper} {a : Act} {K : Act → World → Prop} {Q : Exit → Act → World → Prop} {G : Prop} (hgd : o.guard = none) (s x : Operand)
    (ho : o.op = .call { callee := .builtin .append, args := #[s, x], argTypes := #[24, 24] })
    {w : World} {h : Nat} {A : Option Addr} {c : Nat} (hs : a.eval s = .slice (some ⟨h, 0, none⟩) 0 0) (hx : a.eval x = .slice A 0 c)
    (next : K (a.put o.dst (.slice (some ⟨h, 0, none⟩) 0 0)) w) : if Region.wanted o (yielded ops a.tmps) = true then Oper.wp Try.prog o a w K Q else G := by
  have hw : Region.wanted o (yielded ops a.tmps) = true := by simp [Region.wanted, hgd]
  rw [if_pos hw]
  unfold Oper.wp execOp
  simp only [ho, resolve, invoke, builtin, Sem.run_bind, Sem.run_pure, Result.andThen_ok, List.map_toArray, List.map_cons, List.map_nil, hs, hx]
  clear hs hx ho hgd hw
  cases A
  · go_simp
    exact next
  · go_simp
    exact next
theorem acc_empty {wr w : World} {h : Nat} (hb : Below wr.heap.size wr w) (hh : w.heap[h]? = some (.cells #[] PIT (0, 0))) (hge : wr.heap.size ≤ h) : AccP wr w (.slice (some ⟨h, 0, none⟩) 0 0) [] :=
  ⟨⟨rfl, .inr ⟨h, 0, #[], rfl, hge, hh, by decide, by decide, rfl, rfl⟩⟩, hb⟩
/-- 'append(next, y)' in a region that draws its order. -/
theorem step_appC {ops : Array Oper} {o : Oper} {a : Act} {K : Act → World → Prop} {Q : Exit → Act → World → Prop} {G : Prop} (hgd : o.guard = none) (s x : Operand)
    (ho : o.op = .call { callee := .builtin .append, args := #[s, x], argTypes := #[46, 46] })
    {W w : World} {v v0 : Value} {Ls : List (List Pit)} {L : List Pit} (hacc : AccS W w v Ls) (h0 : SlP w v0 L) (hs : a.eval s = v) (hx : a.eval x = .slice (some ⟨w.heap.size, 0, none⟩) 1 1) (hl : Ls.length ≤ 60000)
    (h : ∀ v' w', AccS W w' v' (Ls ++ [L]) → K (a.put o.dst v') w') : if Region.wanted o (yielded ops a.tmps) = true then Oper.wp Try.prog o a (w.alloc (.cells #[v0] PITS)) K Q else G := by
  obtain ⟨vs, g1, g2, g3⟩ := hacc
  obtain ⟨i, hi, hz, hz1, hz2⟩ := info_parts infoPits
  have hb : Below w.heap.size w (w.alloc (.cells #[v0] PITS)) := (Below.refl _ w).alloc (Nat.le_refl _) _
  have hown0 := g2.own.alloc (.cells #[v0] PITS)
  refine step_append_lies _ hgd s x 46 ho W.heap.size PITS i _ 1 24 Try.underlying46 hi hz hz1 hz2 rfl (by decide) v vs.length vs hs hown0 ⟨w.heap.size, 0, none⟩ 1 1 [v0] hx rfl (new_cells w [v0] PITS) (by intro u hu; rw [List.mem_singleton.1 hu]; exact h0.one) (by decide)
    (by unfold maxLen; omega) (by omega) (by have := g2.below.size; simp; omega) _ rfl ?_
  intro g cap w' hown hgrow _ _
  have hkeep : ∀ (v1 : Value) (L1 : List Pit), SlP w v1 L1 → SlP w' v1 L1 := fun v1 L1 h1 => (h1.below hb).keep fun b cs fr hh => (hgrow.block b (heap_lt hh) (own_ty hown0 hh (by decide))).trans hh
  refine h _ w' ⟨vs ++ [v0], by simp [g1], ⟨by rw [List.length_append]; exact hown, (acc_alloc g2 _).below.grown hgrow (acc_alloc g2 _).below.size (fun k hk => (g2.own.lt k hk).1)⟩, fun j hj => ?_⟩
  rw [List.length_append] at hj
  have hj' : j < Ls.length + 1 := hj
  rw [getD_snoc vs v0 undef j (by omega), getD_snoc Ls L [] j hj', g1]
  split
  · rename_i hlt
    exact hkeep _ _ (g3 j hlt)
  · exact hkeep _ _ h0

theorem prod_small : ∀ (E : List (List Pit)) (m : Nat), (∀ l ∈ E, l.length ≤ 3) → (prod E).length ≤ 3 ^ E.length := by
  intro E m
  induction E with
  | nil => intro _; exact Nat.le_refl _
  | cons l E ih =>
    intro h
    have h1 := ih fun l' hl => h l' (List.mem_cons_of_mem _ hl)
    have h2 := h l (by simp)
    have h3 : (prod (l :: E)).length = l.length * (prod E).length := by
      show (l.flatMap fun q => (prod E).map (q :: ·)).length = _
      rw [List.length_flatMap]
      simp only [List.length_map]
      clear h2 h1 ih h
      induction l with
      | nil => simp
      | cons a l ih => simp only [List.map_cons, List.sum_cons, ih, List.length_cons, Nat.succ_mul]; omega
    rw [h3, List.length_cons, Nat.pow_succ]
    calc l.length * (prod E).length ≤ 3 * 3 ^ E.length := Nat.mul_le_mul h2 h1
      _ = 3 ^ E.length * 3 := Nat.mul_comm _ _
theorem prod_each {E : List (List Pit)} {y : List Pit} (h : y ∈ prod E) : y.length = E.length := prod_len E y h

set_option maxRecDepth 100000 in
set_option maxHeartbeats 8000000 in
theorem rallS_any (A : Option Addr) (c : Nat) (l : List Int) (w : World) (hA : Rd w w.heap.size A (ints l)) (hn : l.length ≤ 5) (hl : ∀ n ∈ l, 0 ≤ n ∧ n ≤ 127) :
    Calls Try.prog 34 #[.slice A l.length c] w fun e w' => (∃ A' c', e = .returned (.slice A' (prod (l.map enh)).length c') ∧ (prod (l.map enh)).length ≤ c' ∧ c' ≤ maxLen ∧ Rd2 w' A' (prod (l.map enh))) ∧ Below w.heap.size w w' := by
  obtain ⟨E, hE⟩ : ∃ E, E = l.map enh := ⟨_, rfl⟩
  rw [← hE]
  have hEl : E.length = l.length := by rw [hE, List.length_map]
  have HE : Hid (∀ L ∈ E, (L ≠ [] ∧ ∀ p ∈ L, okQ p) ∧ L.length ≤ 3) := Lib.hid (fun L hL => by
    rw [hE] at hL
    obtain ⟨n, hn, rfl⟩ := List.mem_map.1 hL
    exact ⟨⟨enh_ne (hl n hn).1 (hl n hn).2, fun p hp => (enh_all hp).1⟩, enh_small (hl n hn).1 (hl n hn).2⟩)
  have Hat : Hid (∀ k, k < l.length → E.getD k [] = enh (l.getD k 0)) := Lib.hid (fun k hk => by rw [hE]; exact map_getD l enh 0 [] hk)
  have HEl := Lib.hid hEl
  have HA := Lib.hid hA
  have Hl := Lib.hid hl
  clear hE hEl hA hl
  go_enter Try.func34, Try.ntmps34
  go_wp2_with fail
  have hst : Rd2 (w.alloc (.cells #[.slice none 0 0] PITS)) (some ⟨w.heap.size, 0, none⟩) (prod (E.take 0)) := by
    refine ⟨[.slice none 0 0], rfl, by have := rd_new w [.slice none 0 0] PITS; rw [← World.size_alloc w (.cells [.slice none 0 0].toArray PITS)] at this; exact this, fun j hj => ?_⟩
    have hj0 : j = 0 := by
      have : j < 1 := hj
      omega
    subst hj0
    exact ⟨none, 0, rfl, Nat.le_refl _, Nat.zero_le _, .inl rfl⟩
  have Hst := Lib.hid (And.intro hst ((Below.refl _ w).alloc (Nat.le_refl _) (.cells #[.slice none 0 0] PITS) : Below w.heap.size w (w.alloc (.cells #[.slice none 0 0] PITS))))
  clear hst
  go_loopw [3, 4] (fun v i wr => ∃ (k : Nat) (P : List (List Pit)) (A' : Option Addr) (c' : Nat), k ≤ l.length ∧ i = .int .i64 (k : Int) ∧ v = .slice A' P.length c' ∧ P.length ≤ c' ∧ Hid (c' ≤ maxLen) ∧ Hid (P = prod (E.take k)) ∧ Hid (Rd2 wr A' P ∧ Below w.heap.size w wr)) (fun _ i _ => l.length - (intOf i).toNat)
  case atStart => exact ⟨0, prod (E.take 0), some ⟨w.heap.size, 0, none⟩, 1, by omega, rfl, rfl, by show 1 ≤ 1; decide, Lib.hid (by decide), Lib.hid rfl, Hst⟩
  case round =>
    clear Hst
    obtain ⟨k, P, A', c', hk, rfl, rfl, hPc, Hcm, HP, Hst⟩ := hrel
    have k0 : (0 : Int) ≤ (k : Int) := by omega
    by_cases hlt : k < l.length
    · have k1 : (k : Int) < (l.length : Int) := by omega
      obtain ⟨b, off, rfl, hlb, q0⟩ := rdI HA.out hlt
      have c0 := (Hst.out.2.cell (p := ⟨b, off + k, none⟩) hlb).trans q0
      have hr1 := Hl.out _ (getD_memL l 0 hlt)
      have he1 := Hat.out k hlt
      have hE1 := HE.out _ (getD_memL E [] (i := k) (by rw [HEl.out]; exact hlt))
      have hnext : prod (E.take (k + 1)) = P.flatMap fun y => (E.getD k []).map fun x => y ++ [x] := by
        rw [take_ne (by rw [HEl.out]; exact hlt), prod_snoc, HP.out]
      have hPl : P.length ≤ 81 := by
        have h1 := prod_small (E.take k) 0 (fun L hL => (HE.out L (List.mem_of_mem_take hL)).2)
        rw [← HP.out] at h1
        have h2 : (E.take k).length ≤ 4 := by rw [List.length_take]; omega
        have h3 : 3 ^ (E.take k).length ≤ 3 ^ 4 := Nat.pow_le_pow_right (by decide) h2
        have h4 : (3 : Nat) ^ 4 = 81 := rfl
        omega
      have hPe : ∀ y ∈ P, y.length = k := fun y hy => by
        rw [HP.out] at hy
        rw [prod_each hy, List.length_take, HEl.out]; omega
      have Hnext := Lib.hid hnext
      have HPe := Lib.hid hPe
      clear hnext hPe q0
      generalize l.getD k 0 = n1 at *
      go_wp2_with fail
      refine (renharm_any n1 _ hr1.1 hr1.2).mono ?_
      rintro e W2 ⟨v, rfl, ha⟩
      rw [← he1] at ha
      obtain ⟨A9, c9, hv, hc9, hm9, hrd9⟩ := acc_form ha
      have hb2 := ha.below
      subst hv
      have hE13 := hE1.2
      have HE1ok := Lib.hid hE1.1
      have Hrd9 := Lib.hid hrd9
      have HR2 := Lib.hid (And.intro (Hst.out.1.below hb2) (next0 Hst.out.2 hb2))
      clear hrd9 ha hm9 hc9 hr1 he1 hE1 Hst hb2 c0
      generalize E.getD k [] = E1 at *
      go_wp2_with fail
      go_loopw [6, 7] (fun v i wr => ∃ x : Nat, x ≤ P.length ∧ i = .int .i64 (x : Int) ∧ AccS W2 wr v ((P.take x).flatMap fun y => E1.map fun z => y ++ [z])) (fun _ i _ => P.length - (intOf i).toNat)
      case atStart => exact ⟨0, by omega, rfl, accS_nil _⟩
      case round =>
        obtain ⟨x, hx, rfl, hacc⟩ := hrel
        by_cases hltx : x < P.length
        · have Hacc := Lib.hid hacc
          clear hacc
          have hpre : ((P.take x).flatMap fun y => E1.map fun z => y ++ [z]).length ≤ 243 := by
            have hg : ∀ M : List (List Pit), (M.flatMap fun y => E1.map fun z => y ++ [z]).length ≤ 3 * M.length := fun M => by
              induction M with
              | nil => simp
              | cons a M ih => rw [List.flatMap_cons, List.length_append, List.length_map, List.length_cons]; omega
            have h1 := hg (P.take x)
            rw [List.length_take] at h1
            omega
          have hpn : (P.take (x + 1)).flatMap (fun y => E1.map fun z => y ++ [z]) = ((P.take x).flatMap fun y => E1.map fun z => y ++ [z]) ++ E1.map fun z => P.getD x [] ++ [z] := by
            rw [take_ne hltx, List.flatMap_append, List.flatMap_cons, List.flatMap_nil, List.append_nil]
          have Hpn := Lib.hid hpn
          have hy5 : (P.getD x []).length ≤ 1000 := by rw [HPe.out _ (getD_memL P [] hltx)]; omega
          clear hpn
          generalize ((P.take x).flatMap fun y => E1.map fun z => y ++ [z]) = pre at *
          have x0 : (0 : Int) ≤ (x : Int) := by omega
          have x1 : (x : Int) < (P.length : Int) := by omega
          obtain ⟨bo, offo, Ay, cy, rfl, hlo, qy, hcy, hmy, hrdy⟩ := HR2.out.1.at hltx
          generalize P.getD x [] = y at *
          have Hqy := Lib.hid qy
          have Hrdy := Lib.hid hrdy
          clear qy hrdy hmy
          go_wp2_with fail
          go_loopw [6, 8] (fun v i wr => ∃ j : Nat, j ≤ E1.length ∧ i = .int .i64 (j : Int) ∧ AccS W2 wr v (pre ++ (E1.take j).map fun z => y ++ [z])) (fun _ i _ => E1.length - (intOf i).toNat)
          case atStart => exact ⟨0, by omega, rfl, by rw [List.take_zero, List.map_nil, List.append_nil]; exact Hacc.out⟩
          case round =>
            clear Hacc
            obtain ⟨j, hj, rfl, hacc⟩ := hrel
            obtain ⟨A6, c6, hv6, _, _, _⟩ := hacc.rd2
            subst hv6
            by_cases hltj : j < E1.length
            · have j0 : (0 : Int) ≤ (j : Int) := by omega
              have j1 : (j : Int) < (E1.length : Int) := by omega
              obtain ⟨bp, offp, rfl, hlp, q0, q1, q2⟩ := rdP Hrd9.out hltj
              have g0 := (hacc.old.cell (p := ⟨bp, offp + j * 3, none⟩) hlp).trans q0
              have g1 := (hacc.old.cell (p := ⟨bp, offp + j * 3 + 1, none⟩) hlp).trans q1
              have g2 := (hacc.old.cell (p := ⟨bp, offp + j * 3 + 2, none⟩) hlp).trans q2
              have gy := (hacc.old.cell (p := ⟨bo, offo + x, none⟩) hlo).trans Hqy.out
              have hts : (E1.take (j + 1)).map (fun z => y ++ [z]) = (E1.take j).map (fun z => y ++ [z]) ++ [y ++ [E1.getD j default]] := by
                rw [List.take_succ_eq_append_getElem hltj, get_getD E1 default hltj, List.map_append]; rfl
              have Hts := Lib.hid hts
              have hl6 : (pre ++ (E1.take j).map fun z => y ++ [z]).length ≤ 60000 := by rw [List.length_append, List.length_map, List.length_take]; omega
              have hrdy := rd_below Hrdy.out hacc.old
              have hltb : bp < wr.heap.size := Nat.lt_of_lt_of_le hlp hacc.old.size
              have hltbo : bo < wr.heap.size := Nat.lt_of_lt_of_le hlo hacc.old.size
              clear q0 q1 q2 hts
              generalize hLs : pre ++ (E1.take j).map (fun z => y ++ [z]) = Ls at *
              have HLs := Lib.hid hLs
              clear hLs
              generalize E1.getD j default = p at *
              obtain ⟨s, al, o⟩ := p
              try dsimp only at g0 g1 g2
              have hbE : Below wr.heap.size wr (wr.alloc (.cells #[] PIT)) := (Below.refl _ wr).alloc (Nat.le_refl _) _
              have hbP : Below wr.heap.size wr (wr.alloc (.cells #[.int .i64 s, .int .i64 al, .int .i64 o] PIT)) := (Below.refl _ wr).alloc (Nat.le_refl _) _
              have hA1 : Below wr.heap.size wr (wr.alloc (.cells #[] PIT)).drew ∧ (wr.alloc (.cells #[] PIT)).drew.heap[wr.heap.size]? = some (.cells #[] PIT (0, 0)) := ⟨hbE.drew, heap_alloc_last wr _⟩
              have hA2 : Below wr.heap.size wr ((wr.alloc (.cells #[] PIT)).alloc (.cells #[.int .i64 s, .int .i64 al, .int .i64 o] PIT)).drew ∧ ((wr.alloc (.cells #[] PIT)).alloc (.cells #[.int .i64 s, .int .i64 al, .int .i64 o] PIT)).drew.heap[wr.heap.size]? = some (.cells #[] PIT (0, 0)) ∧ ((wr.alloc (.cells #[] PIT)).alloc (.cells #[.int .i64 s, .int .i64 al, .int .i64 o] PIT)).drew.heap[wr.heap.size + 1]? = some (.cells #[.int .i64 s, .int .i64 al, .int .i64 o] PIT (0, 0)) ∧ wr.heap.size + 1 < ((wr.alloc (.cells #[] PIT)).alloc (.cells #[.int .i64 s, .int .i64 al, .int .i64 o] PIT)).drew.heap.size := ⟨(hbE.alloc hbE.size _).drew, heap_alloc_old (heap_alloc_last wr _), by have h := heap_alloc_last (wr.alloc (.cells #[] PIT)) (.cells #[.int .i64 s, .int .i64 al, .int .i64 o] PIT); rw [World.size_alloc] at h; exact h, by show _ < ((wr.alloc (.cells #[] PIT)).alloc (.cells #[.int .i64 s, .int .i64 al, .int .i64 o] PIT)).heap.size; rw [World.size_alloc, World.size_alloc]; omega⟩
              have hA3 : Below wr.heap.size wr ((wr.alloc (.cells #[.int .i64 s, .int .i64 al, .int .i64 o] PIT)).alloc (.cells #[] PIT)).drew ∧ ((wr.alloc (.cells #[.int .i64 s, .int .i64 al, .int .i64 o] PIT)).alloc (.cells #[] PIT)).drew.heap[wr.heap.size + 1]? = some (.cells #[] PIT (0, 0)) ∧ ((wr.alloc (.cells #[.int .i64 s, .int .i64 al, .int .i64 o] PIT)).alloc (.cells #[] PIT)).drew.heap[wr.heap.size]? = some (.cells #[.int .i64 s, .int .i64 al, .int .i64 o] PIT (0, 0)) ∧ wr.heap.size < ((wr.alloc (.cells #[.int .i64 s, .int .i64 al, .int .i64 o] PIT)).alloc (.cells #[] PIT)).drew.heap.size := ⟨(hbP.alloc hbP.size _).drew, by have h := heap_alloc_last (wr.alloc (.cells #[.int .i64 s, .int .i64 al, .int .i64 o] PIT)) (.cells #[] PIT); rw [World.size_alloc] at h; exact h, heap_alloc_old (heap_alloc_last wr _), by show _ < ((wr.alloc (.cells #[.int .i64 s, .int .i64 al, .int .i64 o] PIT)).alloc (.cells #[] PIT)).heap.size; rw [World.size_alloc, World.size_alloc]; omega⟩
              have HA1 := Lib.hid hA1
              have HA2 := Lib.hid hA2
              have HA3 := Lib.hid hA3
              clear hbE hbP hA1 hA2 hA3
              by_cases hy0 : y.length = 0
              · obtain rfl : y = [] := List.eq_nil_of_length_eq_zero hy0
                have Hac := Lib.hid hacc
                clear hrdy hacc hy0 Hrdy Hqy
                go_wp2_with fail
                go_region_law (first
                  | (refine step_appZ (c := cy) (A := Ay) (h := wr.heap.size) rfl (.tmp 34) (.tmp 38) rfl ?_ ?_ ?_; (focus (simp [Act.eval]; done)); (focus (simp [Act.eval]; done)))
                  | (refine step_appZ (c := cy) (A := Ay) (h := wr.heap.size + 1) rfl (.tmp 34) (.tmp 38) rfl ?_ ?_ ?_; (focus (simp [Act.eval]; done)); (focus (simp [Act.eval]; done)))
                  | (refine step_appB (wr := wr) (L := []) (y := .slice (some ⟨wr.heap.size, 0, none⟩) 0 0) (b := wr.heap.size + 1) rfl (.tmp 39) (.tmp 44) rfl (acc_empty HA2.out.1 HA2.out.2.1 (Nat.le_refl _)) HA2.out.2.2.1 (by decide) ?_ ?_ ?_; (focus (simp [Act.eval]; done)); (focus (simp [Act.eval]; done)); intro A8 c8 w8 H8)
                  | (refine step_appB (wr := wr) (L := []) (y := .slice (some ⟨wr.heap.size + 1, 0, none⟩) 0 0) (b := wr.heap.size) rfl (.tmp 39) (.tmp 44) rfl (acc_empty HA3.out.1 HA3.out.2.1 (Nat.le_succ _)) HA3.out.2.2.1 (by decide) ?_ ?_ ?_; (focus (simp [Act.eval]; done)); (focus (simp [Act.eval]; done)); intro A8 c8 w8 H8)
                  | (refine step_appC rfl (.tmp 33) (.tmp 46) rfl (Hac.out.below H8.below) (SlT.own H8.own) (by simp [Act.eval]) (by simp [Act.eval]) hl6 ?_; intro v9 w9 H9))
                all_goals
                  go_wp2
                  go_roundw
                  case rel => exact ⟨j + 1, by omega, by go_num, by rw [Hts.out, ← List.append_assoc, HLs.out]; exact H9⟩
                  case measure => simp [intOf]; omega
              · obtain ⟨b7, off7, rfl, _, _⟩ := rd_pos hrdy (by rw [pitsC_len]; omega)
                have hypos : 0 < y.length := by omega
                have Hrdy2 := Lib.hid hrdy
                have Hac := Lib.hid hacc
                clear hrdy hacc hy0
                go_wp2_with fail
                go_region_law (first
                  | (refine step_appA (wr := wr) (L := y) (c := cy) (h := wr.heap.size) rfl (.tmp 34) (.tmp 38) rfl HA1.out.1 HA1.out.2 (Nat.le_refl _) Hrdy2.out hypos hy5 (by simp [Act.eval]) (by simp [Act.eval]) ?_; intro A7 c7 w7 H7 hk7; obtain ⟨hc7, hf7⟩ := bcell H7.below)
                  | (refine step_appA (wr := wr) (L := y) (c := cy) (h := wr.heap.size) rfl (.tmp 34) (.tmp 38) rfl HA2.out.1 HA2.out.2.1 (Nat.le_refl _) Hrdy2.out hypos hy5 (by simp [Act.eval]) (by simp [Act.eval]) ?_; intro A7 c7 w7 H7 hk7; obtain ⟨hc7, hf7⟩ := bcell H7.below; have hb44 := (hk7 (wr.heap.size + 1) HA2.out.2.2.2 (by omega)).trans HA2.out.2.2.1)
                  | (refine step_appA (wr := wr) (L := y) (c := cy) (h := wr.heap.size + 1) rfl (.tmp 34) (.tmp 38) rfl HA3.out.1 HA3.out.2.1 (Nat.le_succ _) Hrdy2.out hypos hy5 (by simp [Act.eval]) (by simp [Act.eval]) ?_; intro A7 c7 w7 H7 hk7; obtain ⟨hc7, hf7⟩ := bcell H7.below; have hb44 := (hk7 wr.heap.size HA3.out.2.2.2 (by omega)).trans HA3.out.2.2.1)
                  | (refine step_appB (wr := wr) (L := y) rfl (.tmp 39) (.tmp 44) rfl (acc_alloc H7 _) (heap_alloc_last w7 _) hy5 (by simp [Act.eval]) (by simp [Act.eval]) ?_; intro A8 c8 w8 H8)
                  | (refine step_appB (wr := wr) (L := y) rfl (.tmp 39) (.tmp 44) rfl H7 hb44 hy5 (by simp [Act.eval]) (by simp [Act.eval]) ?_; intro A8 c8 w8 H8)
                  | (refine step_appC rfl (.tmp 33) (.tmp 46) rfl (Hac.out.below H8.below) (SlT.own H8.own) (by simp [Act.eval]) (by simp [Act.eval]) hl6 ?_; intro v9 w9 H9))
                all_goals
                  go_wp2
                  go_roundw
                  case rel => exact ⟨j + 1, by omega, by go_num, by rw [Hts.out, ← List.append_assoc, HLs.out]; exact H9⟩
                  case measure => simp [intOf]; omega
            · obtain rfl : j = E1.length := by omega
              have Hac := Lib.hid hacc
              clear hacc
              go_wp2_with fail
              go_roundw
              case rel => exact ⟨x + 1, by omega, by go_num, by rw [Hpn.out]; have h := Hac.out; rw [List.take_length] at h ⊢; exact h⟩
              case measure => simp [intOf]; omega
        · obtain rfl : x = P.length := by omega
          rw [List.take_length, ← Hnext.out] at hacc
          obtain ⟨A6, c6, hv6, hc6, hcm6, hr6⟩ := hacc.rd2
          have hb := hacc.old
          have Hfin := Lib.hid (And.intro hr6 (next0 HR2.out.2 hb))
          have Hcm6 := Lib.hid hcm6
          clear hr6 hb hacc hcm6
          subst hv6
          go_wp2_with fail
          go_roundw
          case rel => exact ⟨k + 1, _, A6, c6, by omega, by go_num, rfl, hc6, Hcm6, Lib.hid rfl, Hfin⟩
          case measure => simp [intOf]; omega
    · obtain rfl : k = l.length := by omega
      have hP := HP.out
      rw [List.take_of_length_le (by rw [HEl.out]; exact Nat.le_refl _)] at hP
      have HPP := Lib.hid hP
      clear hP HP
      go_wp2_with fail
      go_returns
      refine ⟨⟨A', c', by rw [← HPP.out]; rfl, by rw [← HPP.out]; exact hPc, Hcm.out, by rw [← HPP.out]; exact Hst.out.1⟩, Hst.out.2⟩
end Go.Proofs.Ytdmhjcnijebfgaa
