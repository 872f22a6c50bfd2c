/- Spell of package spelling: contract. -/
import Derived.Test.YtdmhjcnijebfgaaSrow
import Derived.Test.YtdmhjcnijebfgaaInv
import Derived.Laws.MakeOwn
import Derived.Deep.RegionLaw
namespace Go.Proofs.Ytdmhjcnijebfgaa
open Go.RowKit
set_option linter.unusedVariables false

theorem spell_range (A : Option Addr) (n c : Nat) (f : Int) (w : World) (hn : n ≤ maxLen) (h : f < -7 ∨ 7 < f) :
    Calls Try.prog 12 #[.slice A n c, .int .i64 f] w fun e w' => e = .returned (.tuple #[.slice none 0 0, .int .i64 2]) ∧ Below w.heap.size w w' := by
  unfold maxLen at hn
  go_enter Try.func12, Try.ntmps12
  go_wp2_with (go_at_call 27; refine (guard_bad _ _ _ _ h).mono ?_; rintro e w1 ⟨rfl, hb⟩)
  go_returns
  exact ⟨rfl, hb⟩
theorem spell_long (A : Option Addr) (n c : Nat) (f : Int) (w : World) (hn : n ≤ maxLen) (h0 : -7 ≤ f) (h1 : f ≤ 7) (h : 1024 < n) :
    Calls Try.prog 12 #[.slice A n c, .int .i64 f] w fun e w' => e = .returned (.tuple #[.slice none 0 0, .int .i64 9]) ∧ Below w.heap.size w w' := by
  unfold maxLen at hn
  have h' : (1024 : Int) < (n : Int) := by omega
  go_enter Try.func12, Try.ntmps12
  go_wp2_with (go_at_call 27; refine (guard_long _ _ _ _ h0 h1 h').mono ?_; rintro e w1 ⟨rfl, hb⟩)
  go_returns
  exact ⟨rfl, hb⟩
set_option maxRecDepth 100000 in
theorem spell_bad (A : Option Addr) (c : Nat) (l : List Int) (f : Int) (w : World) (hrd : Rd w w.heap.size A (ints l)) (hn : l.length ≤ 1024) (h0 : -7 ≤ f) (h1 : f ≤ 7) (h : ∃ n ∈ l, n < 0 ∨ 127 < n) :
    Calls Try.prog 12 #[.slice A l.length c, .int .i64 f] w fun e w' => e = .returned (.tuple #[.slice none 0 0, .int .i64 2]) ∧ Below w.heap.size w w' := by
  have h' : (l.length : Int) ≤ 1024 := by omega
  have Hrd := Lib.hid hrd
  have Hh := Lib.hid h
  clear hrd h
  go_enter Try.func12, Try.ntmps12
  go_wp2_with (go_at_call 27; refine (guard_ok _ _ _ _ h0 h1 h').mono ?_; rintro e w1 ⟨rfl, hb⟩)
  refine (choices_any A c l w1 (rd_below Hrd.out hb) (by omega)).mono ?_
  rintro e w2 ⟨hb2, _, h3⟩
  obtain rfl := h3 Hh.out
  clear h3
  go_wp2_with fail
  go_returns
  exact ⟨rfl, next0 hb hb2⟩

/-- The rest costs of the rows from m on are there; the rows before it are empty. -/
def RestP (f : Int) (E : List (List Pit)) (w2 : World) (m : Nat) (wr : World) : Prop :=
  ∃ cs : Array Value, wr.heap[w2.heap.size]? = some (.cells cs INTS (0, 0)) ∧ cs.size = E.length ∧ (∀ j, j < m → cs[j]? = some (.slice none 0 0)) ∧
    (∀ j, m ≤ j → j < E.length → SlI wr (cs.getD j undef) (restL f (E.drop (j + 1)) (E.getD j []))) ∧ Below w2.heap.size w2 wr
theorem drop_at {E : List (List Pit)} {j : Nat} (h : j < E.length) : E.drop j = E.getD j [] :: E.drop (j + 1) := by
  rw [List.drop_eq_getElem_cons h, get_getD E [] h]
theorem RestP.row {f : Int} {E : List (List Pit)} {w2 Wi wr : World} {j : Nat} {cs : Array Value} {v : Value} (hb : Below w2.heap.size w2 Wi) (hsz : cs.size = E.length) (hj : j < E.length) (hnil : ∀ i, i < j + 1 → cs[i]? = some (.slice none 0 0))
    (hrows : ∀ i, j + 1 ≤ i → i < E.length → SlI Wi (cs.getD i undef) (restL f (E.drop (i + 1)) (E.getD i []))) (hblk : Wi.heap[w2.heap.size]? = some (.cells cs INTS (0, 0))) (h : RowI w2.heap.size j cs Wi wr v (restL f (E.drop (j + 1)) (E.getD j []))) : RestP f E w2 j wr := by
  refine ⟨cs.setIfInBounds j v, h.blk, by rw [Array.size_setIfInBounds]; exact hsz, fun i hi => ?_, fun i h1 h2 => ?_, hb.trans (h.kept.below hb.size (Nat.le_refl _))⟩
  · rw [Array.getElem?_setIfInBounds_ne (by omega)]
    exact hnil i (by omega)
  · by_cases e : i = j
    · subst e
      rw [Array.getD_eq_getD_getElem?, Array.getElem?_setIfInBounds_self_of_lt (by omega)]
      exact SlT.own h.own
    · rw [Array.getD_eq_getD_getElem?, Array.getElem?_setIfInBounds_ne (by omega), ← Array.getD_eq_getD_getElem?]
      exact (hrows i (by omega) h2).kept h.kept hblk (by decide)
theorem restL_take (f : Int) (E : List (List Pit)) (L : List Pit) {k : Nat} (hk : k < L.length) : (restL f E L).take (k + 1) = (restL f E L).take k ++ [rst (cQ f) dQ E (L.getD k default)] := by
  rw [List.take_succ_eq_append_getElem (by rw [restL_len]; exact hk), get_getD _ 0 (by rw [restL_len]; exact hk), restL_at f E L hk]

set_option maxRecDepth 100000 in
set_option maxHeartbeats 4000000 in
theorem spell_ok (A : Option Addr) (c : Nat) (l : List Int) (f : Int) (w : World) (hrd : Rd w w.heap.size A (ints l)) (hn : l.length ≤ 1024) (h0 : -7 ≤ f) (h1 : f ≤ 7) (h : ∀ n ∈ l, 0 ≤ n ∧ n ≤ 127) :
    Calls Try.prog 12 #[.slice A l.length c, .int .i64 f] w fun e w' => (∃ A' c', e = .returned (.tuple #[.slice A' (bst (cQ f) dQ (l.map enh)).length c', .int .i64 0]) ∧ (bst (cQ f) dQ (l.map enh)).length ≤ c' ∧ c' ≤ maxLen ∧ Rd w' w'.heap.size A' (pitsC (bst (cQ f) dQ (l.map enh)))) ∧ Below w.heap.size w w' := by
  have h' : (l.length : Int) ≤ 1024 := by omega
  obtain ⟨E, hE⟩ : ∃ E, E = l.map enh := ⟨_, rfl⟩
  rw [← hE]
  have hEl : E.length = l.length := by rw [hE, List.length_map]
  have HhE := Lib.hid hE
  have HE : Hid (∀ L ∈ E, (L ≠ [] ∧ ∀ p ∈ L, okQ p) ∧ L.length ≤ 3) := Lib.hid (fun L hL => by
    rw [hE] at hL
    obtain ⟨n, hn, rfl⟩ := List.mem_map.1 hL
    exact ⟨⟨enh_ne (h n hn).1 (h n hn).2, fun p hp => (enh_all hp).1⟩, enh_small (h n hn).1 (h n hn).2⟩)
  have Hrd := Lib.hid hrd
  have Hh := Lib.hid h
  have HEl := Lib.hid hEl
  clear hrd h hE hEl
  go_enter Try.func12, Try.ntmps12
  go_wp2_with (go_at_call 27; refine (guard_ok _ _ _ _ h0 h1 h').mono ?_; rintro e w1 ⟨rfl, hb⟩)
  refine (choices_any A c l w1 (rd_below Hrd.out hb) (by omega)).mono ?_
  rintro e w2 ⟨hb2, h3, h4⟩
  clear h4
  obtain ⟨A1, c1, rfl, hc1, hc1m, hrd2⟩ := h3 Hh.out
  rw [← HhE.out] at hrd2
  have HR := Lib.hid hrd2
  have Bw : Below w.heap.size w w2 := next0 hb hb2
  have hEl := HEl.out
  obtain ⟨n, hnE⟩ : ∃ n, n = E.length := ⟨_, rfl⟩
  rw [← hEl, ← hnE] at hn hc1 h' ⊢
  have HnE := Lib.hid hnE
  clear h3 hrd2 hb hb2 Hrd Hh hEl hnE HhE HEl
  obtain ⟨ii, hii, hz, hz1, hz2⟩ := info_parts (show (Try.prog.info? INTS).map (fun i => (i.zero, i.size, i.bytes)) = some (some (.slice none 0 0), 1, 24) from by kernel_rfl)
  have hmk := run_make (P := Try.prog) w2 49 INTS ii (.slice none 0 0) (by kernel_rfl) hii hz .i64 .i64 (n : Int) (n : Int) (by omega) (by omega) (by rw [hz2]; omega) (by omega)
  rw [Int.toNat_natCast, hz1, Nat.mul_one] at hmk
  have hcz := size_madeCells (Value.slice none 0 0).cells n
  have hcat : ∀ j, j < n → (madeCells (Value.slice none 0 0).cells n)[j]? = some (.slice none 0 0) := fun j hj => by
    unfold madeCells
    rw [Array.getElem?_map, Array.getElem?_range, if_pos hj]
    show some ((#[.slice none 0 0] : Array Value)[j % 1]!) = _
    rw [Nat.mod_one]
    rfl
  generalize madeCells (Value.slice none 0 0).cells n = cs0 at *
  have Hcz := Lib.hid hcz
  have Hcat := Lib.hid hcat
  clear hcz hcat hii hz hz1 hz2
  go_wp2_with fail
  have hP0 : RestP f E w2 n (w2.alloc (Obj.cells cs0 INTS)) := ⟨cs0, heap_alloc_last _ _, by rw [Hcz.out, HnE.out], Hcat.out, fun j h1 h2 => absurd h2 (by rw [← HnE.out]; omega), (Below.refl _ _).alloc (Nat.le_refl _) _⟩
  have HP0 := Lib.hid hP0
  clear hP0 hmk
  go_loopw [10] (fun i wr => ∃ m : Nat, m ≤ n ∧ i = .int .i64 ((m : Int) - 1) ∧ Hid (RestP f E w2 m wr)) (fun i _ => (intOf i + 1).toNat)
  case atStart => exact ⟨n, Nat.le_refl _, rfl, HP0⟩
  case round =>
    clear HP0 Hcz Hcat
    obtain ⟨m, hm, hs, HP⟩ := hrel
    rcases Nat.eq_zero_or_pos m with hm0 | hm0
    · subst hm0
      have hs' : u10 = .int .i64 (-1) := hs
      clear hs
      subst hs'
      go_wp2_with fail
      obtain ⟨cs, hblk, hsz, hnil0, hrows, hBr⟩ := HP.out
      have hbW : Below wr.heap.size wr (wr.alloc (.cells #[.slice none 0 0] PITS)) := (Below.refl _ wr).alloc (Nat.le_refl _) _
      have HRb : Hid (w2.heap.size < wr.heap.size) := Lib.hid (heap_lt hblk)
      have Hblk := Lib.hid ((hbW.block _ (heap_lt hblk)).trans hblk)
      have Hsz := Lib.hid hsz
      have Hrows := Lib.hid (fun j (hj : j < E.length) => (hrows j (Nat.zero_le _) hj).below hbW)
      have HB5 := Lib.hid (hBr.trans (hbW.mono hBr.size))
      have HO := Lib.hid (OutI.start wr)
      have HbO := Lib.hid (OutI.start wr).blk
      have HE1 := Lib.hid (fun L (hL : L ∈ E) => (HE.out L hL).1)
      have HD := Lib.hid (bst_ok f E HE1.out)
      have HDl := Lib.hid (bst_len f E (fun L hL => (HE1.out L hL).1))
      clear hblk hsz hrows hBr HP hbW hnil0
      generalize wr.alloc (.cells #[.slice none 0 0] PITS) = W5 at *
      generalize wr.heap.size = Ob at *
      go_loopw [94] (fun i w => ∃ (k : Nat) (v : Value), k ≤ n ∧ i = .int .i64 (k : Int) ∧ Hid (OutI Ob W5 w v ((bst (cQ f) dQ E).take k))) (fun i _ => n - (intOf i).toNat)
      case atStart => exact ⟨0, _, Nat.zero_le _, rfl, HO⟩
      case round =>
        clear HO
        obtain ⟨k, v, hk, rfl, HI⟩ := hrel
        have hB2 : Below w2.heap.size w2 wr := HB5.out.trans (HI.out.kept.below HB5.out.size (Nat.le_of_lt HRb.out))
        have HB2 := Lib.hid hB2
        clear hB2
        by_cases hlt : k < n
        · have k0 : (0 : Int) ≤ (k : Int) := by omega
          have k1 : (k : Int) < (n : Int) := by omega
          have hkE : k < E.length := by rw [← HnE.out]; omega
          obtain ⟨ba, offa, A', c', rfl, hla, qa, hc', hcm', hrdL⟩ := HR.out.at hkE
          have hLf := HE.out _ (getD_memL E [] hkE)
          have hblk := (HI.out.kept.block _ (heap_lt Hblk.out) (Nat.ne_of_lt HRb.out)).trans Hblk.out
          obtain ⟨B2, d2, hv2, _, _, hrdB⟩ := ((Hrows.out k hkE).kept HI.out.kept HbO.out (by decide)).rd
          rw [restL_len] at hv2
          have hck : cs[k]? = some (.slice B2 (E.getD k []).length d2) := by
            rw [← hv2, Array.getD_eq_getD_getElem?, Array.getElem?_eq_getElem (by have := Hsz.out; omega)]
            rfl
          have qr : wr.cell? ⟨w2.heap.size, k, none⟩ = some (.slice B2 (E.getD k []).length d2) := by
            rw [cell_of_row wr _ _ _ _ _ hblk]; exact hck
          have qa4 := (HB2.out.cell (p := ⟨ba, offa + k, none⟩) hla).trans qa
          have hEd : ∀ l ∈ E.drop (k + 1), l ≠ [] ∧ ∀ p ∈ l, okQ p := fun l hl => HE1.out l (List.mem_of_mem_drop hl)
          have hEdn : (E.drop (k + 1)).length ≤ 1024 := by rw [List.length_drop, ← HnE.out]; omega
          have hts := bst_take f E k hkE
          have hDk : ((bst (cQ f) dQ E).take k).length = k := by rw [List.length_take, HDl.out, ← HnE.out]; omega
          have hDok : ∀ q ∈ (bst (cQ f) dQ E).take k, okQ q := fun q hq => HD.out q (List.mem_of_mem_take hq)
          have hrd2 := rd_below hrdL HB2.out
          have hO := HI.out
          have hlr : w2.heap.size < wr.heap.size := Nat.lt_of_lt_of_le HRb.out (Nat.le_trans (Nat.le_of_lt hO.lt) hO.kept.size)
          have hlo : Ob < wr.heap.size := heap_lt hO.blk
          have Hts := Lib.hid hts
          generalize hDD : (bst (cQ f) dQ E).take k = D at *
          generalize E.getD k [] = L at *
          generalize E.drop (k + 1) = E2 at *
          clear hDD
          obtain ⟨A0, c0, rfl, _, _, hrdO⟩ := (SlT.own hO.own).rd
          have qo := hO.cell
          generalize hw6 : wr.alloc (.cells #[.int .i64 (k : Int)] INT) = w6
          have hb6 : Below wr.heap.size wr w6 := by rw [← hw6]; exact (Below.refl _ wr).alloc (Nat.le_refl _) _
          have hs6 : w6.heap.size = wr.heap.size + 1 := by rw [← hw6, World.size_alloc]
          have qi6 : w6.cell? ⟨wr.heap.size, 0, none⟩ = some (.int .i64 (k : Int)) := by rw [← hw6]; simp
          have hN := fun sx : Later w6.heap.size w6 => later_calls (s := sx) (Nat.le_refl _) (next_spell2 A' B2 c' d2 f L E2 wr.heap.size Ob D A0 c0 sx.w h0 h1 (rd_below (rd_below hrd2 hb6) sx.h) (rd_below (rd_below hrdB hb6) sx.h) (List.length_pos_iff.2 hLf.1.1) (by have := hLf.2; omega) hLf.1.2 hEd (by omega) hDok (by omega)
            (Nat.lt_of_lt_of_le (by omega) sx.h.size) (Nat.lt_of_lt_of_le (by omega) sx.h.size) (by rw [hDk]; exact later_cell qi6 (by show wr.heap.size < _; omega) sx) (later_cell ((hb6.cell (p := ⟨Ob, 0, none⟩) hlo).trans qo) (by show Ob < _; omega) sx) (rd_below (rd_below hrdO hb6) sx.h))
          have HN := Lib.hid hN
          have f1 : ∀ sx : Later w6.heap.size w6, sx.w.cell? ⟨wr.heap.size, 0, none⟩ = some (.int .i64 (k : Int)) := fun sx => later_cell qi6 (by show wr.heap.size < _; omega) sx
          have f2 : ∀ sx : Later w6.heap.size w6, sx.w.cell? ⟨ba, offa + k, none⟩ = some (.slice A' L.length c') := fun sx => later_cell ((hb6.cell (p := ⟨ba, offa + k, none⟩) (by show ba < _; omega)).trans qa4) (by show ba < _; omega) sx
          have f3 : ∀ sx : Later w6.heap.size w6, sx.w.cell? ⟨w2.heap.size, k, none⟩ = some (.slice B2 L.length d2) := fun sx => later_cell ((hb6.cell (p := ⟨w2.heap.size, k, none⟩) (by show w2.heap.size < _; omega)).trans qr) (by show w2.heap.size < _; omega) sx
          have hmf : ∀ (fn : Fn) (first cap : Array Value) (w : World), (Instr.makeFunc fn first cap).run Try.prog w = .ok (.func fn first cap) w := fun _ _ _ _ => rfl
          have hbi := bIdx_lt (fun q => rst (cQ f) dQ E2 q + behind D q) L (List.length_pos_iff.2 hLf.1.1)
          have hfm := bIdx_fm (fun q => rst (cQ f) dQ E2 q + behind D q) L
          have Hfm0 := Lib.hid hfm
          have Hrd2 := Lib.hid hrd2
          have HhO := Lib.hid hO
          have Hb6 := Lib.hid hb6
          have Hqi6 := Lib.hid qi6
          have Hqa4 := Lib.hid qa4
          have hD6 : D.length ≤ 60000 := by omega
          have hA6 : ba < wr.heap.size := by omega
          have HLf := Lib.hid hLf
          have HDk := Lib.hid hDk
          clear hN qi6 qr hrdB hrdO hrd2 hO qo hEd hEdn hDok hck hv2 hblk qa hLf hb6 hrdL hts hDk qa4 hfm
          go_wp2_with fail
          clear hw6
          refine wp_region_later (by kernel_rfl) (by kernel_rfl) ?_
          repeat (go_big_quiet_step ((exact HN.out _)))
          refine wpQuiet_nil ?_
          intro w7 hb7
          have hP := rdP (rd_below (rd_below Hrd2.out Hb6.out) hb7) hbi
          have hts := Hts.out
          rw [← Hfm0.out] at hts
          generalize bIdx (fun q => rst (cQ f) dQ E2 q + behind D q) L = kx at *
          clear f1 f2 f3 HN Hts Hfm0
          have hb67 : Below wr.heap.size wr w7 := Hb6.out.trans (hb7.mono (by omega))
          have qI := (hb7.cell (p := ⟨wr.heap.size, 0, none⟩) (by show wr.heap.size < _; omega)).trans Hqi6.out
          have qA := (hb67.cell (p := ⟨ba, offa + k, none⟩) hA6).trans Hqa4.out
          have H7 := HhO.out.later hb67
          have qO := H7.cell
          obtain ⟨bp, offp, rfl, hlp, g0, g1, g2⟩ := hP
          have x0 : (0 : Int) ≤ (kx : Int) := by omega
          have x1 : (kx : Int) < (L.length : Int) := by omega
          generalize L.getD kx default = p at *
          obtain ⟨s, al, o⟩ := p
          dsimp only at g0 g1 g2
          have Hts := Lib.hid hts
          clear hts
          have HH7 := Lib.hid H7
          have ltO := heap_lt H7.blk
          have ltI : wr.heap.size < w7.heap.size := by have := hb7.size; omega
          have ltA : ba < w7.heap.size := by omega
          have Hbw := Lib.hid hb67
          clear H7 hb67 hb7 hs6
          go_wp2_with fail
          go_region_law (refine step_pushO rfl (.tmp 110) (.tmp 118) rfl s al o HH7.out.drew (by simp [Act.eval]) (by simp [Act.eval]) hD6 ?_; intro A9 c9 w9 q9 qf9 hO9)
          all_goals
            go_wp2
            go_roundw
            case rel => exact ⟨k + 1, _, by omega, by go_num, Lib.hid (by rw [Hts.out]; first | exact hO9 | exact hO9.drew)⟩
            case measure => simp [intOf]; omega
        · obtain rfl : k = n := by omega
          have hO := HI.out
          rw [List.take_of_length_le (by rw [HDl.out, ← HnE.out]; exact Nat.le_refl _)] at hO
          have q0 := hO.cell
          obtain ⟨A0, c0, hv, hc0, hcm0, hrd0⟩ := (SlT.own hO.own).rd
          clear HI
          subst hv
          have Hrd0 := Lib.hid hrd0
          clear hrd0 hO
          go_wp2_with fail
          go_returns
          exact ⟨⟨A0, c0, rfl, hc0, hcm0, Hrd0.out⟩, Bw.trans (HB2.out.mono Bw.size)⟩
    · obtain ⟨j, rfl⟩ : ∃ j, m = j + 1 := ⟨m - 1, by omega⟩
      have hs' : u10 = .int .i64 (j : Int) := by rw [hs]; congr 1; omega
      clear hs hm0
      subst hs'
      obtain ⟨cs, hblk, hsz, hnil, hrows, hBi⟩ := HP.out
      have hjE : j < E.length := by rw [← HnE.out]; omega
      have j0 : (0 : Int) ≤ (j : Int) := by omega
      have j1 : (j : Int) < (n : Int) := by omega
      obtain ⟨ba, offa, A', c', rfl, hla, qa, hc', hcm', hrdL⟩ := HR.out.at hjE
      have hLf := HE.out _ (getD_memL E [] hjE)
      have ca := (hBi.cell (p := ⟨ba, offa + j, none⟩) hla).trans qa
      have HrdL := Lib.hid hrdL
      have HLf := Lib.hid hLf
      have Hrows := Lib.hid hrows
      have Hnil := Lib.hid hnil
      have Hblk := Lib.hid hblk
      have HBi := Lib.hid hBi
      have Hsz := Lib.hid hsz
      have hI0 := Lib.hid (RowI.start hblk (hnil j (by omega)))
      have hLl : (E.getD j []).length ≤ 3 := hLf.2
      have hjs : j < cs.size := by omega
      clear qa hrdL hLf hrows hnil hblk hBi hsz HP
      generalize hL : E.getD j [] = L at *
      have HL := Lib.hid hL
      clear hL
      go_wp2_with fail
      clear ca
      generalize hWi : wr = Wi at *
      clear hWi
      go_loopw [50] (fun i w => ∃ (k : Nat) (v : Value), k ≤ L.length ∧ i = .int .i64 (k : Int) ∧ Hid (RowI w2.heap.size j cs Wi w v ((restL f (E.drop (j + 1)) L).take k))) (fun i _ => L.length - (intOf i).toNat)
      case atStart => exact ⟨0, _, Nat.zero_le _, rfl, hI0⟩
      case round =>
        clear hI0
        obtain ⟨k, v, hk, rfl, HI⟩ := hrel
        by_cases hlt : k < L.length
        · have k0 : (0 : Int) ≤ (k : Int) := by omega
          have k1 : (k : Int) < (L.length : Int) := by omega
          have hBr : Below w2.heap.size w2 wr := HBi.out.trans (HI.out.kept.below HBi.out.size (Nat.le_refl _))
          obtain ⟨bp, offp, rfl, hlp, q0, q1, q2⟩ := rdP HrdL.out hlt
          have g0 := (hBr.cell (p := ⟨bp, offp + k * 3, none⟩) hlp).trans q0
          have g1 := (hBr.cell (p := ⟨bp, offp + k * 3 + 1, none⟩) hlp).trans q1
          have g2 := (hBr.cell (p := ⟨bp, offp + k * 3 + 2, none⟩) hlp).trans q2
          have hokp := HLf.out.1.2 _ (getD_memL L default hlt)
          have hstep := restL_take f (E.drop (j + 1)) L hlt
          have hxl : ((restL f (E.drop (j + 1)) L).take k).length ≤ 60000 := by rw [List.length_take]; omega
          clear q0 q1 q2
          generalize hp : L.getD k default = p at *
          clear hp
          generalize (restL f (E.drop (j + 1)) L).take k = xs at *
          obtain ⟨s, al, o⟩ := p
          have hob := out_bd h0 h1 hokp
          have Hokp := Lib.hid hokp
          have HBr := Lib.hid hBr
          have Hstep := Lib.hid hstep
          clear hokp hBr hstep
          dsimp only at g0 g1 g2
          by_cases hlast : j + 1 < n
          · have j2 : (j : Int) + 1 < (n : Int) := by omega
            go_wp2_with (go_at_call 29; refine (outside_any _ _ _ _ _ Hokp.out h0 h1).mono ?_; rintro e w4 ⟨rfl, hb4⟩)
            -- next at the row behind
            have H4 := HI.out.later (base1 hb4)
            have hj1 : j + 1 < E.length := by rw [← HnE.out]; omega
            have hB4 : Below w2.heap.size w2 w4 := HBr.out.trans ((base1 hb4).mono HBr.out.size)
            obtain ⟨ba', offa', A2, c2, ea, hla', qa2, hc2, hcm2, hrd2⟩ := HR.out.at hj1
            obtain ⟨rfl, rfl⟩ : ba' = ba ∧ offa' = offa := by
              injection ea with ea
              injection ea with e1 e2
              exact ⟨e1.symm, e2.symm⟩
            have hL2 := HE.out _ (getD_memL E [] hj1)
            have hE2 : ∀ l ∈ E.drop (j + 1 + 1), l ≠ [] ∧ ∀ p ∈ l, okQ p := fun l hl => (HE.out l (List.mem_of_mem_drop hl)).1
            have hE2n : (E.drop (j + 1 + 1)).length ≤ 1024 := by rw [List.length_drop, ← HnE.out]; omega
            have hrow := (Hrows.out (j + 1) (Nat.le_refl _) hj1).kept H4.kept Hblk.out (by decide)
            obtain ⟨B2, d2, hv2, _, _, hrdB⟩ := hrow.rd
            have qr4 : w4.cell? ⟨w2.heap.size, j + 1, none⟩ = some (.slice B2 (E.getD (j + 1) []).length d2) := by
              rw [cell_of_row w4 _ _ _ _ _ H4.blk, Array.getElem?_setIfInBounds_ne (by omega)]
              rw [restL_len] at hv2
              rw [← hv2, Array.getD_eq_getD_getElem?, Array.getElem?_eq_getElem (by have := Hsz.out; omega)]
              rfl
            have qa4 := (hB4.cell (p := ⟨ba', offa' + (j + 1), none⟩) hla').trans qa2
            have hlt4 : wr.heap.size < w4.heap.size := by have := hb4.size; rw [World.size_alloc] at this; omega
            have b0 := (hb4.cell (p := ⟨wr.heap.size, 0, none⟩) (by simp)).trans (show _ = some (Value.int .i64 s) from by simp)
            have b1 := (hb4.cell (p := ⟨wr.heap.size, 1, none⟩) (by simp)).trans (show _ = some (Value.int .i64 al) from by simp)
            have b2 := (hb4.cell (p := ⟨wr.heap.size, 2, none⟩) (by simp)).trans (show _ = some (Value.int .i64 o) from by simp)
            have hdr := drop_at hj1
            have hrdA4 := rd_below hrd2 (hB4.mono (Nat.le_refl _))
            generalize E.getD (j + 1) [] = L2 at *
            generalize E.drop (j + 1 + 1) = E2 at *
            have hN := fun sx : Later w4.heap.size w4 => later_calls (s := sx) (Nat.le_refl _) (next_spell1 A2 B2 c2 d2 f L2 E2 wr.heap.size (s, al, o) sx.w h0 h1 (rd_below hrdA4 sx.h) (rd_below hrdB sx.h) (List.length_pos_iff.2 hL2.1.1) (by have := hL2.2; omega) hL2.1.2 hE2 (by omega) Hokp.out (Nat.lt_of_lt_of_le hlt4 sx.h.size)
              (later_cell b0 hlt4 sx) (later_cell b1 hlt4 sx) (later_cell b2 hlt4 sx))
            have hr : rst (cQ f) dQ (E.drop (j + 1)) (s, al, o) = 3 * outQ f (s, al, o) + (rst (cQ f) dQ E2 (fm (fun x => rst (cQ f) dQ E2 x + dQ (s, al, o) x) L2) + dQ (s, al, o) (fm (fun x => rst (cQ f) dQ E2 x + dQ (s, al, o) x) L2)) := by rw [hdr]; rfl
            have hmx := hL2.1.2 _ (fm_is (fun x => rst (cQ f) dQ E2 x + dQ (s, al, o) x) L2 (List.length_pos_iff.2 hL2.1.1)).mem
            have hS1 := rst_bd f h0 h1 E2 _ hE2 hmx
            have hS2 := d_bd Hokp.out hmx
            have hSb : 0 ≤ rst (cQ f) dQ E2 (fm (fun x => rst (cQ f) dQ E2 x + dQ (s, al, o) x) L2) + dQ (s, al, o) (fm (fun x => rst (cQ f) dQ E2 x + dQ (s, al, o) x) L2) ∧ rst (cQ f) dQ E2 (fm (fun x => rst (cQ f) dQ E2 x + dQ (s, al, o) x) L2) + dQ (s, al, o) (fm (fun x => rst (cQ f) dQ E2 x + dQ (s, al, o) x) L2) ≤ 1000000 := by omega
            generalize rst (cQ f) dQ E2 (fm (fun x => rst (cQ f) dQ E2 x + dQ (s, al, o) x) L2) + dQ (s, al, o) (fm (fun x => rst (cQ f) dQ E2 x + dQ (s, al, o) x) L2) = S at *
            have HN := Lib.hid hN
            have Hr := Lib.hid hr
            have f1 : ∀ sx : Later w4.heap.size w4, sx.w.cell? ⟨ba', offa' + (j + 1), none⟩ = some (.slice A2 L2.length c2) := fun sx => later_cell qa4 (Nat.lt_of_lt_of_le hla' hB4.size) sx
            have f2 : ∀ sx : Later w4.heap.size w4, sx.w.cell? ⟨w2.heap.size, j + 1, none⟩ = some (.slice B2 L2.length d2) := fun sx => later_cell qr4 (heap_lt H4.blk) sx
            have hmf : ∀ (fn : Fn) (first cap : Array Value) (w : World), (Instr.makeFunc fn first cap).run Try.prog w = .ok (.func fn first cap) w := fun _ _ _ _ => rfl
            have i1 : IntKind.i64.wrap ((j : Int) + 1) = (j : Int) + 1 := IntWalk.i64_in _ (by omega)
            have i2 : ((j : Int) + 1).toNat = j + 1 := by omega
            have i3 : (0 : Int) ≤ (j : Int) + 1 := by omega
            have H4' := Lib.hid H4
            clear hN hr hS1 hS2 hmx hdr hrdA4 b0 b1 b2 qa4 qr4 hrdB hrow hE2 hE2n hL2 qa2 hrd2 H4 hv2 ea
            refine wp_region_later (by kernel_rfl) (by kernel_rfl) ?_
            repeat (go_big_quiet_step ((exact HN.out _)))
            refine wpQuiet_nil ?_
            intro w5 hb5
            have H5 := H4'.out.later hb5
            have q5 := H5.cell hjs
            clear f1 f2 HN H4' i1 i2 i3 hb5
            go_wp2_with (at_builtin; refine wpList_pushR rfl _ _ rfl (3 * outQ f (s, al, o) + S) H5 hjs (by rfl) (by rfl) hxl ?_; intro A6 c6 w6 q6 qf6 hR6)
            go_roundw
            case rel => exact ⟨k + 1, _, by omega, by go_num, Lib.hid (by rw [Hstep.out, Hr.out]; exact hR6)⟩
            case measure => simp [intOf]; omega
          · have j2 : ¬ (j : Int) + 1 < (n : Int) := by omega
            have hr : rst (cQ f) dQ (E.drop (j + 1)) (s, al, o) = 3 * outQ f (s, al, o) := by
              rw [List.drop_of_length_le (by rw [← HnE.out]; omega)]; rfl
            have Hr := Lib.hid hr
            clear hr
            go_wp2_with (first
              | (go_at_call 29; refine (outside_any _ _ _ _ _ Hokp.out h0 h1).mono ?_; rintro e w4 ⟨rfl, hb4⟩; have H4 := HI.out.later (base1 hb4); have q4 := H4.cell hjs)
              | (at_builtin; refine wpList_pushR rfl _ _ rfl (3 * outQ f (s, al, o)) H4 hjs (by rfl) (by rfl) hxl ?_; intro A5 c5 w5 q5 qf5 hR5))
            go_roundw
            case rel => exact ⟨k + 1, _, by omega, by go_num, Lib.hid (by rw [Hstep.out, Hr.out]; exact hR5)⟩
            case measure => simp [intOf]; omega
        · obtain rfl : k = L.length := by omega
          have hP : RestP f E w2 j wr := RestP.row HBi.out Hsz.out hjE Hnil.out Hrows.out Hblk.out (by rw [HL.out]; have := HI.out; rwa [List.take_of_length_le (Nat.le_of_eq (restL_len _ _ _))] at this)
          have HP := Lib.hid hP
          clear hP HI
          go_wp2_with fail
          go_roundw
          case rel => exact ⟨j, by omega, rfl, HP⟩
          case measure => simp [intOf]
end Go.Proofs.Ytdmhjcnijebfgaa
