/- The recursion of Chord over all spellings: contract. -/
import Derived.Test.YtdmhjcnijebfgaaSfound
import Derived.Deep.RegionLawGrows
namespace Go.Proofs.Ytdmhjcnijebfgaa
open Go.RowKit
set_option linter.unusedVariables false

/-- A call of a Go function as the last step of a region that draws its order. -/
theorem step_call {ops : Array Oper} {o : Oper} {a : Act} {w : World} {K : Act → World → Prop} {Q : Exit → Act → World → Prop} {G : Prop} (hgd : o.guard = none) (f : FuncId) (x y z : Operand) (ts : Array TypeId)
    (ho : o.op = .call { callee := .value (.func f), args := #[x, y, z], argTypes := ts }) (hf : ∀ (args : Array Value) (w : World), Sem.run Try.prog (callFunc f args) w = .ok (.enter f args) w)
    (u v t : Value) (hx : a.eval x = u) (hy : a.eval y = v) (hz : a.eval z = t)
    (h : Calls Try.prog f #[u, v, t] w fun e w' => ∃ r, e = .returned r ∧ K (a.put o.dst r) w') : if Region.wanted o (yielded ops a.tmps) = true then Oper.wp Try.prog o a w K Q else G := by
  have hw : Region.wanted o (yielded ops a.tmps) = true := by simp [Region.wanted, hgd]
  rw [if_pos hw]
  have hfn : a.eval (.func f) = .func (.func f) #[] #[] := rfl
  unfold Oper.wp
  simp [execOp, ho, resolve, invoke, hx, hy, hz, hfn, hf, Deferred.ofValue, Oper.upon]
  refine h.mono ?_
  rintro e w' ⟨r, rfl, h⟩
  exact h
theorem call42 (args : Array Value) (w : World) : Sem.run Try.prog (callFunc 42 args) w = .ok (.enter 42 args) w := by kernel_rfl
theorem call43 (args : Array Value) (w : World) : Sem.run Try.prog (callFunc 43 args) w = .ok (.enter 43 args) w := by kernel_rfl
/-- 'append(l[:len(l):len(l)], p)' in a region that draws its order: the slice is always laid anew. -/
theorem step_appG {ops : Array Oper} {o : Oper} {a : Act} {K : Act → World → Prop} {Q : Exit → Act → World → Prop} {G : Prop} (hgd : o.guard = none) (s x : Operand)
    (ho : o.op = .call { callee := .builtin .append, args := #[s, x], argTypes := #[24, 24] })
    {w W : World} (hb : Below w.heap.size w W) {b : Nat} (c0 c1 c2 : Int) (hbk : W.heap[b]? = some (.cells #[.int .i64 c0, .int .i64 c1, .int .i64 c2] PIT (0, 0))) {A : Option Addr} {L : List Pit} (hrd : Rd w w.heap.size A (pitsC L)) (hl : L.length ≤ 1000)
    (hA : A = none → L.length = 0) (hs : a.eval s = .slice A L.length L.length) (hx : a.eval x = .slice (some ⟨b, 0, none⟩) 1 1)
    (next : ∀ A' c' w', Below w.heap.size w w' → SlP w' (.slice A' (L.length + 1) c') (L ++ [(c0, c1, c2)]) → K (a.put o.dst (.slice A' (L.length + 1) c')) w') :
    if Region.wanted o (yielded ops a.tmps) = true then Oper.wp Try.prog o a W K Q else G := by
  obtain ⟨i0, hi0, hz, hz1, hz2⟩ := info_parts infoPit
  refine step_append_grows hgd s x 24 ho PIT i0 _ 3 24 Try.underlying24 hi0 hz hz1 hz2 rfl (by decide) A L.length L.length (pitsC L) hs (fun e => ⟨hA e, hA e⟩) (pitsC_len L) ?_
    ⟨b, 0, none⟩ 1 1 [.int .i64 c0, .int .i64 c1, .int .i64 c2] hx rfl ?_ (by simp [Value.oneCell']) (by omega) (by unfold maxLen; omega) (by omega) ?_
  · intro b e j u hj
    rcases rd_keep hrd hb with h | ⟨b', off, e', _, hc⟩
    · rw [h] at hj; simp at hj
    · rw [e'] at e
      injection e with e
      subst e
      have hadd : (⟨b', off, none⟩ : Addr).add j = ⟨b', off + j, none⟩ := by unfold Addr.add; split <;> simp_all
      rw [hadd]
      exact hc j u hj
  · intro j u hj
    have hadd : (⟨b, 0, none⟩ : Addr).add j = ⟨b, j, none⟩ := by unfold Addr.add; split <;> simp_all
    rw [hadd, cell_of_row W b j _ _ _ hbk]
    simpa using hj
  · intro v' w' hown hgrow
    have e : (L ++ [(c0, c1, c2)]).length = L.length + 1 := by simp
    have hS : SlP w' v' (L ++ [(c0, c1, c2)]) := by
      show SlT PIT w' v' _ _
      rw [e, pitsC_snoc]
      exact SlT.own hown
    have hS2 := hS
    obtain ⟨A', c', hv, _⟩ := hS2
    rw [e] at hv
    subst hv
    exact next A' c' w' (hb.grown hgrow hb.size (fun k hk => by cases hk)) hS

/-- All spellings that begin with y, behind the first j of the next number's. -/
def someP (y : List Pit) (L : List Pit) (E : List (List Pit)) (j : Nat) : List (List Pit) := (L.take j).flatMap fun q => (prod E).map fun z => y ++ q :: z
theorem someP_next (y : List Pit) (L : List Pit) (E : List (List Pit)) {j : Nat} (hj : j < L.length) : someP y L E (j + 1) = someP y L E j ++ (prod E).map fun z => (y ++ [L.getD j default]) ++ z := by
  unfold someP
  rw [List.take_succ_eq_append_getElem hj, List.flatMap_append, get_getD L default hj]
  congr 1
  simp
theorem someP_all (y : List Pit) (L : List Pit) (E : List (List Pit)) : someP y L E L.length = (prod (L :: E)).map (y ++ ·) := by
  unfold someP
  rw [List.take_length]
  simp only [prod, List.map_flatMap, List.map_map]
  rfl
theorem Rd2.tail {w : World} {b off : Nat} {L : List Pit} {E : List (List Pit)} (h : Rd2 w (some ⟨b, off, none⟩) (L :: E)) : Rd2 w (some ⟨b, off + 1, none⟩) E := by
  obtain ⟨vs, h1, h2, h3⟩ := h
  obtain ⟨v, vs, rfl⟩ : ∃ v vs', vs = v :: vs' := by
    cases vs with
    | nil => simp at h1
    | cons v vs => exact ⟨v, vs, rfl⟩
  obtain ⟨b', off', e, hlb, hc⟩ := rd_pos h2 (by simp)
  injection e with e
  injection e with e1 e2
  subst e1 e2
  refine ⟨vs, by simpa using h1, .inr ⟨b, off + 1, rfl, hlb, fun j u hj => ?_⟩, fun j hj => ?_⟩
  · have := hc (j + 1) u (by simpa using hj)
    rw [Nat.add_assoc, Nat.add_comm 1 j]
    exact this
  · have := h3 (j + 1) (by simpa using hj)
    simpa using this

set_option maxRecDepth 100000 in
set_option maxHeartbeats 8000000 in
theorem spl_any (B X Y : Nat) (f : Int) (hf : -7 ≤ f) (hf' : f ≤ 7) (w0 : World) (hXY : X ≠ Y) (hBX : B ≠ X) (hBY : B ≠ Y) (hX0 : w0.heap.size ≤ X) (hY0 : w0.heap.size ≤ Y) :
    ∀ (E : List (List Pit)) (A : Option Addr) (c : Nat) (Ay : Option Addr) (cy : Nat) (y : List Pit) (Ys : List (List Pit)) (w : World), Rd2 w0 A E → E.length ≤ c → c ≤ maxLen → (∀ L ∈ E, (∀ p ∈ L, okQ p) ∧ L.length ≤ 3) → (∀ p ∈ y, okQ p) → y.length + E.length ≤ 100 → 0 < y.length + E.length →
      Below w0.heap.size w0 w → w.cell? ⟨B, 0, none⟩ = some (.int .i64 f) → BoxS f X Y Ys w → SlP w (.slice Ay y.length cy) y →
      Calls Try.prog 42 #[.slice A E.length c, .slice Ay y.length cy, .func (.func 43) #[] #[.pointer (some ⟨B, 0, none⟩), .pointer (some ⟨X, 0, none⟩), .pointer (some ⟨Y, 0, none⟩)]] w
        fun e w' => e = .returned (.tuple #[]) ∧ Bt X Y w w' ∧ BoxS f X Y (Ys ++ (prod E).map (y ++ ·)) w' := by
  intro E
  induction E with
  | nil =>
    intro A c Ay cy y Ys w _ _ _ _ hy hn hpos hb hB hS hs
    have hpos' : 0 < y.length := hpos
    have hp1 : (0 : Int) < (y.length : Int) := by omega
    obtain ⟨Ay', cy', e, _, _, hr⟩ := SlT.rd hs
    injection e with e1 _ e3
    subst e1 e3
    have F := found_any B X Y f Ay cy y Ys w hf hf' hr hpos' (by have : y.length + 0 ≤ 100 := hn; omega) hy hXY hB hS
    have e : (prod ([] : List (List Pit))).map (y ++ ·) = [y] := by simp [prod]
    rw [e]
    have h43 := call43
    clear hy hn hpos hb hB hS hs hr e
    show Calls _ _ #[.slice A 0 c, _, _] _ _
    go_enter Try.func42, Try.ntmps42
    go_wp2_with fail
    refine F.mono ?_
    rintro e w1 ⟨rfl, h1, h2⟩
    go_wp2_with fail
    go_returns
    exact ⟨rfl, h1, h2⟩
  | cons L E ih =>
    intro A c Ay cy y Ys w hR hEc hcm hE hy hn hpos hb hB hS hs
    obtain ⟨b, off, A1, c1, rfl, hlb, q0, hc1, hcm1, hr1⟩ := hR.at (k := 0) (by simp)
    have hRt := hR.tail
    rw [Nat.add_zero] at q0
    rw [List.getD_cons_zero] at q0 hc1 hr1
    obtain ⟨n, hn'⟩ : ∃ n, n = (L :: E).length := ⟨_, rfl⟩
    rw [← hn'] at hn hpos hEc ⊢
    have hnE : n = E.length + 1 := by rw [hn']; simp
    have hn0 : (0 : Int) < (n : Int) := by omega
    have HnE := Lib.hid hnE
    have hn1 : ((n : Int) == 0) = false := by rw [beq_eq_false_iff_ne]; omega
    have c0 := (hb.cell (p := ⟨b, off, none⟩) hlb).trans q0
    have IH := Lib.hid ih
    have Hs := Lib.hid (And.intro hB (And.intro hS hs))
    have HR := Lib.hid (And.intro hRt (And.intro hE hr1))
    have Hy := Lib.hid hy
    clear ih hR hn' hRt hE hy hB hS hs hr1 q0 hnE
    go_enter Try.func42, Try.ntmps42
    go_wp2_with fail
    go_loopw [21] (fun i wr => ∃ j : Nat, j ≤ L.length ∧ i = .int .i64 (j : Int) ∧ Hid (Bt X Y w wr ∧ BoxS f X Y (Ys ++ someP y L E j) wr)) (fun i _ => L.length - (intOf i).toNat)
    case atStart => exact ⟨0, by omega, rfl, Lib.hid ⟨Bt.refl _ _ _, by have h := Hs.out.2.1; simp only [someP, List.take_zero, List.flatMap_nil, List.append_nil]; exact h⟩⟩
    case round =>
      obtain ⟨j, hj, rfl, HS⟩ := hrel
      have hL3 : L.length ≤ 3 := (HR.out.2.1 L (by simp)).2
      by_cases hlt : j < L.length
      · have j0 : (0 : Int) ≤ (j : Int) := by omega
        have j1 : (j : Int) < (L.length : Int) := by omega
        obtain ⟨bl, offl, rfl, hlbl, q0, q1, q2⟩ := rdP HR.out.2.2 hlt
        have hok := (HR.out.2.1 L (by simp)).1 _ (getD_memL L default hlt)
        have Hnx := Lib.hid (someP_next y L E hlt)
        generalize L.getD j default = p at *
        obtain ⟨s, al, o⟩ := p
        have hB0 : Below w0.heap.size w0 wr := hb.trans (HS.out.1.below hb.size hX0 hY0)
        have d0 := (hB0.cell (p := ⟨bl, offl + j * 3, none⟩) hlbl).trans q0
        have d1 := (hB0.cell (p := ⟨bl, offl + j * 3 + 1, none⟩) hlbl).trans q1
        have d2 := (hB0.cell (p := ⟨bl, offl + j * 3 + 2, none⟩) hlbl).trans q2
        try dsimp only at d0 d1 d2
        have Hok := Lib.hid hok
        clear hok q0 q1 q2
        have hsw : SlP wr (.slice Ay y.length cy) y := by
          obtain ⟨v, m, hX, hY, _⟩ := Hs.out.2.1
          exact Hs.out.2.2.keptBt HS.out.1 hX hY
        have hlc : y.length ≤ cy := by
          obtain ⟨_, _, e, h, _⟩ := Hs.out.2.2
          injection e with _ _ e3
          subst e3
          exact h
        have n1 : (1 : Int) ≤ (n : Int) := by omega
        have hbx : Below wr.heap.size wr ((wr.alloc (.cells #[.int .i64 s, .int .i64 al, .int .i64 o] PIT)).alloc (.cells #[.int .i64 s, .int .i64 al, .int .i64 o] PIT)).drew := (((Below.refl _ wr).alloc (Nat.le_refl _) _).alloc (by rw [World.size_alloc]; omega) _).drew
        have hbk : ((wr.alloc (.cells #[.int .i64 s, .int .i64 al, .int .i64 o] PIT)).alloc (.cells #[.int .i64 s, .int .i64 al, .int .i64 o] PIT)).drew.heap[wr.heap.size + 1]? = some (.cells #[.int .i64 s, .int .i64 al, .int .i64 o] PIT (0, 0)) := by
          have h := heap_alloc_last (wr.alloc (.cells #[.int .i64 s, .int .i64 al, .int .i64 o] PIT)) (.cells #[.int .i64 s, .int .i64 al, .int .i64 o] PIT)
          rw [World.size_alloc] at h
          exact h
        have HBX := Lib.hid (And.intro hbx hbk)
        clear hbx hbk
        have Hyr : Hid (Rd wr wr.heap.size Ay (pitsC y)) := Lib.hid (by
          obtain ⟨_, _, e, _, _, h⟩ := SlT.rd hsw
          injection e with e1 _ e3
          subst e1 e3
          exact h)
        have HAy : Hid (Ay = none → y.length = 0) := Lib.hid (fun e => by
          rcases Nat.eq_zero_or_pos y.length with h | h
          · exact h
          · obtain ⟨_, _, e', _⟩ := rd_pos Hyr.out (by rw [pitsC_len]; omega)
            rw [e] at e'
            cases e')
        have hy100 : y.length ≤ 1000 := by omega
        clear hsw
        have hBw : wr.cell? ⟨B, 0, none⟩ = some (.int .i64 f) := by
          rw [← Hs.out.1]
          exact World.cell?_of_block (w := w) (HS.out.1.block B (World.block_lt_of_cell? _ _ Hs.out.1) hBX hBY)
        have HC : Hid (∀ PA A8 c8 w8, Rd2 w0 PA E → Below wr.heap.size wr w8 → SlP w8 (.slice A8 (y.length + 1) c8) (y ++ [(s, al, o)]) → Calls Try.prog 42 #[.slice PA (n - 1) (c - 1), .slice A8 (y.length + 1) c8, (.func (.func 43) #[] #[.pointer (some ⟨B, 0, none⟩), .pointer (some ⟨X, 0, none⟩), .pointer (some ⟨Y, 0, none⟩)])] w8
            fun e w' => e = .returned (.tuple #[]) ∧ Bt X Y wr w' ∧ BoxS f X Y (Ys ++ someP y L E (j + 1)) w') := Lib.hid (fun PA A8 c8 w8 hPA h8 hs8 => by
          have hn' : n - 1 = E.length := by have := HnE.out; omega
          have hyl : (y ++ [(s, al, o)]).length = y.length + 1 := by simp
          have h := IH.out PA (c - 1) A8 c8 (y ++ [(s, al, o)]) (Ys ++ someP y L E j) w8 hPA (by omega) (by omega) (fun L' hL' => HR.out.2.1 L' (List.mem_cons_of_mem _ hL'))
            (fun p hp => by
              rcases List.mem_append.1 hp with hp | hp
              · exact Hy.out p hp
              · rw [List.mem_singleton.1 hp]; exact Hok.out) (by rw [hyl]; omega) (by rw [hyl]; omega)
            (hB0.trans (h8.mono hB0.size)) ((h8.cell (p := ⟨B, 0, none⟩) (World.block_lt_of_cell? _ _ hBw)).trans hBw) (HS.out.2.below h8) (by rw [hyl]; exact hs8)
          rw [hyl, ← hn'] at h
          refine h.mono ?_
          rintro e w' ⟨he, h1, h2⟩
          refine ⟨he, (Bt.of h8).trans h1, ?_⟩
          rw [Hnx.out, ← List.append_assoc]
          exact h2)
        clear hB0 hBw
        by_cases hcc : c = 1
        · have hE0 : E = [] := List.eq_nil_of_length_eq_zero (by have := HnE.out; omega)
          have RD0 : Rd2 w0 (some ⟨b, off, none⟩) E := by rw [hE0]; exact ⟨[], rfl, .inl rfl, fun j hj => absurd hj (Nat.not_lt_zero _)⟩
          have RD := Lib.hid RD0
          have hn0' : n - 1 = 0 := by omega
          subst hcc
          have hc0 := HC.out
          rw [hn0'] at hc0
          have HC := Lib.hid hc0
          clear RD0 hE0 hn0' hc0
          go_wp2_with fail
          go_region_law (first
            | (refine step_appG (b := wr.heap.size + 1) (A := Ay) (L := y) rfl (.tmp 32) (.tmp 34) rfl HBX.out.1 s al o HBX.out.2 Hyr.out hy100 HAy.out ?_ ?_ ?_; (focus (simp [Act.eval]; done)); (focus (simp [Act.eval]; done)); intro A8 c8 w8 H8 HS8)
            | (refine step_call rfl 42 (.tmp 26) (.tmp 35) (.tmp 36) _ rfl call42 (.slice (some ⟨b, off, none⟩) 0 0) (.slice A8 (y.length + 1) c8) (.func (.func 43) #[] #[.pointer (some ⟨B, 0, none⟩), .pointer (some ⟨X, 0, none⟩), .pointer (some ⟨Y, 0, none⟩)]) ?_ ?_ ?_ ?_; (focus (simp [Act.eval]; done)); (focus (simp [Act.eval]; done)); (focus (simp [Act.eval]; done)); refine (HC.out _ _ _ _ RD.out H8 HS8).mono ?_; rintro e w9 ⟨rfl, H9, H10⟩; refine ⟨_, rfl, ?_⟩))
          all_goals
            go_wp2
            go_roundw
            case rel => exact ⟨j + 1, by omega, by go_num, Lib.hid ⟨HS.out.1.trans H9, H10⟩⟩
            case measure => simp [intOf]; omega
        · go_wp2_with fail
          go_region_law (first
            | (refine step_appG (b := wr.heap.size + 1) (A := Ay) (L := y) rfl (.tmp 32) (.tmp 34) rfl HBX.out.1 s al o HBX.out.2 Hyr.out hy100 HAy.out ?_ ?_ ?_; (focus (simp [Act.eval]; done)); (focus (simp [Act.eval]; done)); intro A8 c8 w8 H8 HS8)
            | (refine step_call rfl 42 (.tmp 26) (.tmp 35) (.tmp 36) _ rfl call42 (.slice (some ⟨b, off + 1, none⟩) (n - 1) (c - 1)) (.slice A8 (y.length + 1) c8) (.func (.func 43) #[] #[.pointer (some ⟨B, 0, none⟩), .pointer (some ⟨X, 0, none⟩), .pointer (some ⟨Y, 0, none⟩)]) ?_ ?_ ?_ ?_; (focus (simp [Act.eval]; done)); (focus (simp [Act.eval]; done)); (focus (simp [Act.eval]; done)); refine (HC.out _ _ _ _ HR.out.1 H8 HS8).mono ?_; rintro e w9 ⟨rfl, H9, H10⟩; refine ⟨_, rfl, ?_⟩))
          all_goals
            go_wp2
            go_roundw
            case rel => exact ⟨j + 1, by omega, by go_num, Lib.hid ⟨HS.out.1.trans H9, H10⟩⟩
            case measure => simp [intOf]; omega
      · obtain rfl : j = L.length := by omega
        go_wp2_with fail
        go_returns
        exact ⟨rfl, HS.out.1, by rw [← someP_all]; exact HS.out.2⟩
end Go.Proofs.Ytdmhjcnijebfgaa
