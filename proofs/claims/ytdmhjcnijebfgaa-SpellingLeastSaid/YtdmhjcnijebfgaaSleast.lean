/- Least of the reference: contract. -/
import Derived.Test.YtdmhjcnijebfgaaSref9
namespace Go.Proofs.Ytdmhjcnijebfgaa
open Go.RowKit
set_option linter.unusedVariables false

theorem map_takeI {α : Type} (L : List α) (z : α) (f : α → Int) {i : Nat} (h : i < L.length) : (L.map f).take (i + 1) = (L.map f).take i ++ [f (L.getD i z)] := by
  rw [List.take_succ_eq_append_getElem (by rw [List.length_map]; exact h), get_getD (L.map f) 0 (by rw [List.length_map]; exact h), map_getD L f z 0 h]
theorem mnB_nn (M : Int) (f : Nat → Int) (hM : 0 ≤ M) : ∀ n, (∀ k, k < n → 0 ≤ f k) → 0 ≤ mnB M f n := by
  intro n
  induction n with
  | zero => intro _; exact hM
  | succ n ih =>
    intro h
    have h1 := ih fun k hk => h k (by omega)
    have h2 := h n (by omega)
    show 0 ≤ min (mnB M f n) (f n)
    omega
abbrev BIG : Int := 1099511627776
/-- What is known of the lists: they hold pitches that exist. -/
def OkE (E : List (List Pit)) : Prop := ∀ l ∈ E, (l ≠ [] ∧ ∀ p ∈ l, okQ p) ∧ l.length ≤ 3
theorem OkE.at {E : List (List Pit)} (h : OkE E) {k : Nat} (hk : k < E.length) : (E.getD k [] ≠ [] ∧ ∀ p ∈ E.getD k [], okQ p) ∧ (E.getD k []).length ≤ 3 := h _ (getD_memL E [] hk)
theorem fc_nn (f : Int) (hf : -7 ≤ f) (hf' : f ≤ 7) (E : List (List Pit)) (hE : OkE E) : ∀ k, k < E.length → ∀ j, j < (E.getD k []).length → 0 ≤ (fc (cQ f) dQ BIG E k).getD j 0 := by
  intro k
  induction k with
  | zero =>
    intro hk j hj
    have e : (fc (cQ f) dQ BIG E 0).getD j 0 = cQ f ((E.getD 0 []).getD j default) := map_getD _ _ _ _ hj
    rw [e]
    have := out_bd hf hf' ((hE.at hk).1.2 _ (getD_memL _ default hj))
    show 0 ≤ 3 * outQ f _
    omega
  | succ k ih =>
    intro hk j hj
    have e : (fc (cQ f) dQ BIG E (k + 1)).getD j 0 = nextC (cQ f) dQ BIG (E.getD k []) (fc (cQ f) dQ BIG E k) ((E.getD (k + 1) []).getD j default) := map_getD _ _ _ _ hj
    rw [e]
    have hx := (hE.at hk).1.2 _ (getD_memL _ default hj)
    have h1 := out_bd hf hf' hx
    have h2 := mnB_nn BIG (fun i => (fc (cQ f) dQ BIG E k).getD i 0 + dQ ((E.getD k []).getD i default) ((E.getD (k + 1) []).getD j default)) (by decide) (E.getD k []).length (fun i hi => by
      have h3 := ih (by omega) i hi
      have h4 := d_bd ((hE.at (k := k) (by omega)).1.2 _ (getD_memL _ default hi)) hx
      omega)
    show 0 ≤ mnB BIG _ _ + 3 * outQ f _
    omega
theorem fc_up (f : Int) (hf : -7 ≤ f) (hf' : f ≤ 7) (E : List (List Pit)) (hE : OkE E) (hn : E.length ≤ 60) (k : Nat) (hk : k < E.length) (j : Nat) (hj : j < (E.getD k []).length) : (fc (cQ f) dQ BIG E k).getD j 0 ≤ 10000 := by
  have h := (fc_spec (cQ f) dQ BIG 63 E (fun l hl => (hE l hl).1.1) (fun l hl x hx => by have := out_bd hf hf' ((hE l hl).1.2 x hx); show 3 * outQ f x ≤ 63; omega)
    (fun x y ⟨l, hl, hx⟩ ⟨l', hl', hy⟩ => by have := d_bd ((hE l hl).1.2 x hx) ((hE l' hl').1.2 y hy); omega) (by decide) k hk (by show _ ≤ (1099511627776 : Int); omega) j hj).1
  omega
theorem fc_fin (f : Int) (hf : -7 ≤ f) (hf' : f ≤ 7) (E : List (List Pit)) (hE : OkE E) (hn : E.length ≤ 60) (k : Nat) (hk : E.length = k + 1) (m : Int) (hm : ∃ j, j < (E.getD k []).length ∧ m = (fc (cQ f) dQ BIG E k).getD j 0) (hle : ∀ j, j < (E.getD k []).length → m ≤ (fc (cQ f) dQ BIG E k).getD j 0) : m = cst (cQ f) dQ (bst (cQ f) dQ E) :=
  fc_least (cQ f) dQ BIG 63 m E k hk (fun l hl => (hE l hl).1.1) (fun l hl x hx => by have := out_bd hf hf' ((hE l hl).1.2 x hx); show 3 * outQ f x ≤ 63; omega)
    (fun x y ⟨l, hl, hx⟩ ⟨l', hl', hy⟩ => by have := d_bd ((hE l hl).1.2 x hx) ((hE l' hl').1.2 y hy); omega) (by decide) (by show _ ≤ (1099511627776 : Int); omega) hm hle

set_option maxRecDepth 100000 in
set_option maxHeartbeats 8000000 in
theorem rleast_any (A : Option Addr) (c : Nat) (l : List Int) (f : Int) (w : World) (hf : -7 ≤ f) (hf' : f ≤ 7) (hA : Rd w w.heap.size A (ints l)) (hn : l.length ≤ 60) (hl : ∀ n ∈ l, 0 ≤ n ∧ n ≤ 127) :
    Calls Try.prog 20 #[.slice A l.length c, .int .i64 f] w fun e w' => e = .returned (.int .i64 (cst (cQ f) dQ (bst (cQ f) dQ (l.map enh)))) ∧ Below w.heap.size w w' := by
  by_cases hz : l.length = 0
  · have : l = [] := List.eq_nil_of_length_eq_zero hz
    subst this
    show Calls _ _ #[.slice A 0 c, .int .i64 f] w fun e w' => e = .returned (.int .i64 0) ∧ _
    go_enter Try.func20, Try.ntmps20
    go_wp2_with fail
    go_returns
    exact ⟨rfl, by go_grown⟩
  · obtain ⟨E, hE⟩ : ∃ E, E = l.map enh := ⟨_, rfl⟩
    rw [← hE]
    have hEl : E.length = l.length := by rw [hE, List.length_map]
    have HE : Hid (OkE E) := Lib.hid (fun L hL => by
      rw [hE] at hL
      obtain ⟨n, hn, rfl⟩ := List.mem_map.1 hL
      exact ⟨⟨enh_ne (hl n hn).1 (hl n hn).2, fun p hp => (enh_all hp).1⟩, enh_small (hl n hn).1 (hl n hn).2⟩)
    have Hat : Hid (∀ k, k < l.length → E.getD k [] = enh (l.getD k 0)) := Lib.hid (fun k hk => by rw [hE]; exact map_getD l enh 0 [] hk)
    have HEl := Lib.hid hEl
    have HA := Lib.hid hA
    have Hl := Lib.hid hl
    have hpos : 0 < l.length := by omega
    have hbz : ((l.length : Int) == 0) = false := by rw [beq_eq_false_iff_ne]; omega
    clear hE hEl hA hl hz
    obtain ⟨b, off, rfl, hlb, q0⟩ := rdI HA.out hpos
    rw [Nat.add_zero] at q0
    have hr0 := Hl.out _ (getD_memL l 0 hpos)
    have he0 := Hat.out 0 hpos
    generalize l.getD 0 0 = n0 at *
    go_enter Try.func20, Try.ntmps20
    go_wp2_with fail
    refine (renharm_any n0 _ hr0.1 hr0.2).mono ?_
    rintro e W1 ⟨v, rfl, ha⟩
    rw [← he0] at ha
    obtain ⟨A5, c5, hv, hc5, hm5, hrd5⟩ := acc_form ha
    have hb1 := ha.below
    have Hrd5 := Lib.hid hrd5
    subst hv
    have hE0 := HE.out.at (k := 0) (by rw [HEl.out]; exact hpos)
    have HE0 := Lib.hid hE0
    have hE03 := hE0.2
    clear hrd5 ha hm5 hr0 hE0 he0 q0
    have hf0 : fc (cQ f) dQ BIG E 0 = (E.getD 0 []).map (cQ f) := rfl
    have Hf0 := Lib.hid hf0
    clear hf0
    generalize hEE : E.getD 0 [] = E0 at *
    have HEE := Lib.hid hEE
    clear hEE
    go_wp2_with fail
    go_loopw [6, 7] (fun v i wr => ∃ j : Nat, j ≤ E0.length ∧ i = .int .i64 (j : Int) ∧ AccI W1 wr v ((E0.map (cQ f)).take j)) (fun _ i _ => E0.length - (intOf i).toNat)
    case atStart => exact ⟨0, by omega, rfl, accI_nil _⟩
    case round =>
      obtain ⟨j, hj, rfl, hacc⟩ := hrel
      by_cases hlt : j < E0.length
      · have j0 : (0 : Int) ≤ (j : Int) := by omega
        have j1 : (j : Int) < (E0.length : Int) := by omega
        obtain ⟨bp, offp, rfl, hlp, q0, q1, q2⟩ := rdP Hrd5.out hlt
        have g0 := (hacc.below.cell (p := ⟨bp, offp + j * 3, none⟩) hlp).trans q0
        have g1 := (hacc.below.cell (p := ⟨bp, offp + j * 3 + 1, none⟩) hlp).trans q1
        have g2 := (hacc.below.cell (p := ⟨bp, offp + j * 3 + 2, none⟩) hlp).trans q2
        have hok := HE0.out.1.2 _ (getD_memL E0 default hlt)
        have Hts := Lib.hid (map_takeI E0 default (cQ f) hlt)
        have hl6 : ((E0.map (cQ f)).take j).length ≤ 60000 := by rw [List.length_take]; omega
        clear q0 q1 q2
        generalize (E0.map (cQ f)).take j = D at *
        generalize E0.getD j default = p at *
        obtain ⟨s, al, o⟩ := p
        try dsimp only at g0 g1 g2
        have hob := out_bd hf hf' hok
        have Hok := Lib.hid hok
        clear hok
        go_wp2_with (first
          | (go_at_call 36; refine (routside_any _ _ _ _ _ Hok.out hf hf').mono ?_; rintro e w2 ⟨rfl, hb2⟩; have haccb := acc_below hacc hb2)
          | (at_builtin; refine wpList_pushI rfl _ _ rfl (3 * outQ f (s, al, o)) haccb (by rfl) (by rfl) hl6 ?_; intro v3 w3 hacc3))
        go_roundw
        case rel => exact ⟨j + 1, by omega, by go_num, by rw [Hts.out]; exact hacc3⟩
        case measure => simp [intOf]; omega
      · obtain rfl : j = E0.length := by omega
        rw [List.take_of_length_le (by rw [List.length_map]; exact Nat.le_refl _), ← Hf0.out] at hacc
        obtain ⟨A6, c6, hv6, hc6, hm6, hrd6⟩ := acc_form hacc
        subst hv6
        have hbr := hacc.below
        have hst : Rd wr wr.heap.size A5 (pitsC E0) := rd_below Hrd5.out hbr
        have hbw : Below w.heap.size w wr := next0 hb1 hbr
        have Hst := Lib.hid (And.intro hst (And.intro hrd6 hbw))
        clear hst hrd6 hbw hbr hacc hm6 hc6
        have hfl : ∀ k, (fc (cQ f) dQ BIG E k).length = (E.getD k []).length := fun k => fc_len (cQ f) dQ BIG E k
        have Hfl := Lib.hid hfl
        clear hfl
        go_wp2_with fail
        go_loopw [5, 6, 8] (fun la co i wr => ∃ (k : Nat) (L : List Pit) (C : List Int) (A5 : Option Addr) (c5 : Nat) (A6 : Option Addr) (c6 : Nat), k + 1 ≤ l.length ∧ i = .int .i64 ((k : Int) + 1) ∧ la = .slice A5 L.length c5 ∧ co = .slice A6 C.length c6 ∧ Hid (E.getD k [] = L ∧ fc (cQ f) dQ BIG E k = C) ∧
          Hid (Rd wr wr.heap.size A5 (pitsC L) ∧ Rd wr wr.heap.size A6 (ints C) ∧ Below w.heap.size w wr)) (fun _ _ i _ => (l.length + 1 - intOf i).toNat)
        case atStart => exact ⟨0, E0, _, A5, c5, A6, c6, by omega, rfl, rfl, rfl, Lib.hid ⟨HEE.out, rfl⟩, Hst⟩
        case round =>
          clear Hst Hrd5 HEE Hf0 HE0 hE03
          obtain ⟨k, L, C, A5, c5, A6, c6, hk, rfl, rfl, rfl, HLC, Hst⟩ := hrel
          have k0 : (0 : Int) ≤ (k : Int) := by omega
          have hkE : k < E.length := by rw [HEl.out]; omega
          have hEk := HE.out.at hkE
          have hCl : C.length = L.length := by rw [← HLC.out.1, ← HLC.out.2]; exact Hfl.out k
          have HCl := Lib.hid hCl
          rw [HLC.out.1] at hEk
          have HLok := Lib.hid hEk.1.2
          have hLpos : 0 < L.length := List.length_pos_iff.2 hEk.1.1
          have hL3 : L.length ≤ 3 := hEk.2
          have hCpos : 0 < C.length := by rw [hCl]; exact hLpos
          have hC3 : C.length ≤ 3 := by rw [hCl]; exact hL3
          have HCb : Hid (∀ j, j < C.length → 0 ≤ C.getD j 0 ∧ C.getD j 0 ≤ 10000) := Lib.hid (fun j hj => by
            rw [← HLC.out.2]
            have hj' : j < (E.getD k []).length := by rw [HLC.out.1, ← hCl]; exact hj
            exact ⟨fc_nn f hf hf' E HE.out k hkE j hj', fc_up f hf hf' E HE.out (by rw [HEl.out]; exact hn) k hkE j hj'⟩)
          clear hEk hCl
          by_cases hlt : k + 1 < l.length
          · have k1 : (k : Int) + 1 < (l.length : Int) := by omega
            have k2 : (0 : Int) ≤ (k : Int) + 1 := by omega
            have kn : ((k : Int) + 1).toNat = k + 1 := by omega
            obtain ⟨b', off', eA, hlb', q0⟩ := rdI HA.out hlt
            obtain ⟨rfl, rfl⟩ : b' = b ∧ off' = off := by
              injection eA with eA
              injection eA with e1 e2
              exact ⟨e1.symm, e2.symm⟩
            have c0 := (Hst.out.2.2.cell (p := ⟨b', off' + (k + 1), none⟩) hlb').trans q0
            have hr1 := Hl.out _ (getD_memL l 0 hlt)
            have he1 := Hat.out (k + 1) hlt
            have hE1 := HE.out.at (k := k + 1) (by rw [HEl.out]; exact hlt)
            have hfc1 : fc (cQ f) dQ BIG E (k + 1) = (E.getD (k + 1) []).map (nextC (cQ f) dQ BIG L C) := by rw [← HLC.out.1, ← HLC.out.2]; rfl
            have Hfc1 := Lib.hid hfc1
            clear hfc1 q0 eA
            generalize l.getD (k + 1) 0 = n1 at *
            go_wp2_with fail
            refine (renharm_any n1 _ hr1.1 hr1.2).mono ?_
            rintro e W2 ⟨v, rfl, ha⟩
            rw [← he1] at ha
            obtain ⟨A9, c9, hv, hc9, hm9, hrd9⟩ := acc_form ha
            have hb2 := ha.below
            subst hv
            have hE13 := hE1.2
            have HE1ok := Lib.hid hE1.1.2
            have Hrd9 := Lib.hid hrd9
            have Hst2 := Lib.hid (And.intro (rd_below Hst.out.1 hb2) (And.intro (rd_below Hst.out.2.1 hb2) (next0 Hst.out.2.2 hb2)))
            clear hrd9 ha hm9 hc9 hr1 he1 hE1 Hst hb2 c0
            generalize hEE : E.getD (k + 1) [] = E1 at *
            have HEE := Lib.hid hEE
            clear hEE
            go_wp2_with fail
            go_loopw [10, 11] (fun v i wr => ∃ x : Nat, x ≤ E1.length ∧ i = .int .i64 (x : Int) ∧ AccI W2 wr v ((E1.map (nextC (cQ f) dQ BIG L C)).take x)) (fun _ i _ => E1.length - (intOf i).toNat)
            case atStart => exact ⟨0, by omega, rfl, accI_nil _⟩
            case round =>
              obtain ⟨x, hx, rfl, hacc⟩ := hrel
              by_cases hltx : x < E1.length
              · have x0 : (0 : Int) ≤ (x : Int) := by omega
                have x1 : (x : Int) < (E1.length : Int) := by omega
                obtain ⟨b1, off1, rfl, hlb1, q0, q1, q2⟩ := rdP Hrd9.out hltx
                have hokx := HE1ok.out _ (getD_memL E1 default hltx)
                have Hts := Lib.hid (map_takeI E1 default (nextC (cQ f) dQ BIG L C) hltx)
                have hl6 : ((E1.map (nextC (cQ f) dQ BIG L C)).take x).length ≤ 60000 := by rw [List.length_take]; omega
                have Hq := Lib.hid (And.intro q0 (And.intro q1 q2))
                clear q0 q1 q2
                generalize (E1.map (nextC (cQ f) dQ BIG L C)).take x = D at *
                generalize E1.getD x default = p at *
                obtain ⟨s, al, o⟩ := p
                have Hok := Lib.hid hokx
                have hfx := fif_bd hokx
                have hobx := out_bd hf hf' hokx
                have Hacc := Lib.hid hacc
                try dsimp only at hfx
                clear hokx hacc
                have Hrl := Lib.hid (And.intro (rd_below Hst2.out.1 Hacc.out.below) (rd_below Hst2.out.2.1 Hacc.out.below))
                have Hq' := Lib.hid (show wr.cell? ⟨b1, off1 + x * 3, none⟩ = some (.int .i64 s) ∧ wr.cell? ⟨b1, off1 + x * 3 + 1, none⟩ = some (.int .i64 al) ∧ wr.cell? ⟨b1, off1 + x * 3 + 2, none⟩ = some (.int .i64 o) from
                  ⟨(Hacc.out.below.cell (p := ⟨b1, off1 + x * 3, none⟩) hlb1).trans Hq.out.1, (Hacc.out.below.cell (p := ⟨b1, off1 + x * 3 + 1, none⟩) hlb1).trans Hq.out.2.1, (Hacc.out.below.cell (p := ⟨b1, off1 + x * 3 + 2, none⟩) hlb1).trans Hq.out.2.2⟩)
                have hlb1' : b1 < wr.heap.size := Nat.lt_of_lt_of_le hlb1 Hacc.out.below.size
                clear Hq
                go_wp2_with fail
                generalize hW3 : wr = W3 at *
                clear hW3
                go_loopw [12, 13] (fun b i wr => ∃ j : Nat, j ≤ L.length ∧ i = .int .i64 (j : Int) ∧ b = .int .i64 (mnB BIG (fun i => C.getD i 0 + dQ (L.getD i default) (s, al, o)) j) ∧ Below W3.heap.size W3 wr) (fun _ i _ => L.length - (intOf i).toNat)
                case atStart => exact ⟨0, by omega, rfl, rfl, Below.refl _ _⟩
                case round =>
                  obtain ⟨j, hj, rfl, rfl, hb⟩ := hrel
                  by_cases hltj : j < L.length
                  · have j0 : (0 : Int) ≤ (j : Int) := by omega
                    have j1 : (j : Int) < (L.length : Int) := by omega
                    have j2 : (j : Int) < (C.length : Int) := by have := HCl.out; omega
                    have hjC : j < C.length := by have := HCl.out; omega
                    obtain ⟨bL, offL, rfl, hlbL, r0, r1, r2⟩ := rdP Hrl.out.1 hltj
                    obtain ⟨bC, offC, rfl, hlbC, r3⟩ := rdI Hrl.out.2 hjC
                    have hokq := HLok.out _ (getD_memL L default hltj)
                    have hcb := HCb.out j hjC
                    have hmn := mnB_nn BIG (fun i => C.getD i 0 + dQ (L.getD i default) (s, al, o)) (by decide) j (fun i hi => by
                      have h1 := HCb.out i (by omega)
                      have h2 := d_bd (HLok.out _ (getD_memL L default (i := i) (by omega))) Hok.out
                      omega)
                    have hmM := mnB_leM BIG (fun i => C.getD i 0 + dQ (L.getD i default) (s, al, o)) j
                    have hnx : mnB BIG (fun i => C.getD i 0 + dQ (L.getD i default) (s, al, o)) (j + 1) = min (mnB BIG (fun i => C.getD i 0 + dQ (L.getD i default) (s, al, o)) j) (C.getD j 0 + dQ (L.getD j default) (s, al, o)) := rfl
                    have Hnx := Lib.hid hnx
                    clear hnx
                    generalize mnB BIG (fun i => C.getD i 0 + dQ (L.getD i default) (s, al, o)) j = m at *
                    generalize C.getD j 0 = cj at *
                    generalize L.getD j default = q at *
                    obtain ⟨s', al', o'⟩ := q
                    have hfq := fif_bd hokq
                    have hdb := d_bd hokq Hok.out
                    have hdd : dQ (s', al', o') (s, al, o) = max (fif s al - fif s' al') (-(fif s al - fif s' al')) := by unfold dQ fifQ; dsimp only; omega
                    try dsimp only at r0 r1 r2 hfq
                    have lc := fun (b i : Nat) (v : Value) (hbw : b < W3.heap.size) (h : W3.cell? ⟨b, i, none⟩ = some v) (sx : Later wr.heap.size wr) => later_cell ((hb.cell (p := ⟨b, i, none⟩) hbw).trans h) (Nat.lt_of_lt_of_le hbw hb.size) sx
                    have f0 := lc _ _ _ hlbL r0
                    have f1 := lc _ _ _ hlbL r1
                    have f2 := lc _ _ _ hlbL r2
                    have f3 := lc _ _ _ hlbC r3
                    have f4 := lc _ _ _ hlb1' Hq'.out.1
                    have f5 := lc _ _ _ hlb1' Hq'.out.2.1
                    have f6 := lc _ _ _ hlb1' Hq'.out.2.2
                    have hm := fun (sx : Later wr.heap.size wr) => later_calls (s := sx) (Nat.le_refl _) (magnitude_any (fif s al - fif s' al') sx.w (by omega) (by omega))
                    rw [← hdd] at hm
                    have Hm := Lib.hid hm
                    have m2 : IntKind.i64.wrap (fif s al - fif s' al') = fif s al - fif s' al' := IntWalk.i64_in _ (by omega)
                    have m3 : IntKind.i64.wrap (cj + dQ (s', al', o') (s, al, o)) = cj + dQ (s', al', o') (s, al, o) := IntWalk.i64_in _ (by omega)
                    have Hokq := Lib.hid hokq
                    clear lc hm hdd r0 r1 r2 r3 hokq hfq hmM
                    by_cases hlm : cj + dQ (s', al', o') (s, al, o) < m
                    · have hmin : min m (cj + dQ (s', al', o') (s, al, o)) = cj + dQ (s', al', o') (s, al, o) := by omega
                      rw [hmin] at Hnx
                      clear hmin
                      go_wp2_with fail
                      refine wp_region_later (by kernel_rfl) (by kernel_rfl) ?_
                      repeat (go_big_quiet_step ((first | (go_at_call 38; first | exact later_calls (Nat.le_refl _) (rfifths_any _ _ _ _ Hok.out.1) | exact later_calls (Nat.le_refl _) (rfifths_any _ _ _ _ Hokq.out.1)) | exact Hm.out _)))
                      refine wpQuiet_nil ?_
                      intro w5 hb5
                      clear f0 f1 f2 f3 f4 f5 f6 m2 m3
                      go_wp2
                      go_roundw
                      case rel => exact ⟨j + 1, by omega, by go_num, by rw [Hnx.out], next0 hb hb5⟩
                      case measure => simp [intOf]; omega
                    · have hmin : min m (cj + dQ (s', al', o') (s, al, o)) = m := by omega
                      rw [hmin] at Hnx
                      clear hmin
                      go_wp2_with fail
                      refine wp_region_later (by kernel_rfl) (by kernel_rfl) ?_
                      repeat (go_big_quiet_step ((first | (go_at_call 38; first | exact later_calls (Nat.le_refl _) (rfifths_any _ _ _ _ Hok.out.1) | exact later_calls (Nat.le_refl _) (rfifths_any _ _ _ _ Hokq.out.1)) | exact Hm.out _)))
                      refine wpQuiet_nil ?_
                      intro w5 hb5
                      clear f0 f1 f2 f3 f4 f5 f6 m2 m3
                      go_wp2
                      go_roundw
                      case rel => exact ⟨j + 1, by omega, by go_num, by rw [Hnx.out], next0 hb hb5⟩
                      case measure => simp [intOf]; omega
                  · obtain rfl : j = L.length := by omega
                    have hmn := mnB_nn BIG (fun i => C.getD i 0 + dQ (L.getD i default) (s, al, o)) (by decide) L.length (fun i hi => by
                      have h1 := HCb.out i (by have := HCl.out; omega)
                      have h2 := d_bd (HLok.out _ (getD_memL L default (i := i) hi)) Hok.out
                      omega)
                    have hmM := mnB_leM BIG (fun i => C.getD i 0 + dQ (L.getD i default) (s, al, o)) L.length
                    have hmM2 : mnB BIG (fun i => C.getD i 0 + dQ (L.getD i default) (s, al, o)) L.length ≤ 1099511627776 := hmM
                    clear hmM
                    have hNX : nextC (cQ f) dQ BIG L C (s, al, o) = mnB BIG (fun i => C.getD i 0 + dQ (L.getD i default) (s, al, o)) L.length + 3 * outQ f (s, al, o) := rfl
                    have Hts2 := Hts.out
                    rw [hNX] at Hts2
                    have HT := Lib.hid Hts2
                    clear hNX Hts2 Hts
                    generalize mnB BIG (fun i => C.getD i 0 + dQ (L.getD i default) (s, al, o)) L.length = m at *
                    have g0 := (hb.cell (p := ⟨b1, off1 + x * 3, none⟩) hlb1').trans Hq'.out.1
                    have g1 := (hb.cell (p := ⟨b1, off1 + x * 3 + 1, none⟩) hlb1').trans Hq'.out.2.1
                    have g2 := (hb.cell (p := ⟨b1, off1 + x * 3 + 2, none⟩) hlb1').trans Hq'.out.2.2
                    have hacc4 := acc_below Hacc.out hb
                    go_wp2_with (first
                      | (go_at_call 36; refine (routside_any _ _ _ _ _ Hok.out hf hf').mono ?_; rintro e w2 ⟨rfl, hb2⟩; have haccb := acc_below hacc4 hb2)
                      | (at_builtin; refine wpList_pushI rfl _ _ rfl (m + 3 * outQ f (s, al, o)) haccb (by rfl) (by rfl) hl6 ?_; intro v3 w3 hacc3))
                    go_roundw
                    case rel => exact ⟨x + 1, by omega, by go_num, by rw [HT.out]; exact hacc3⟩
                    case measure => simp [intOf]; omega
              · obtain rfl : x = E1.length := by omega
                rw [List.take_of_length_le (by rw [List.length_map]; exact Nat.le_refl _), ← Hfc1.out] at hacc
                obtain ⟨A6', c6', hv6, _, _, hrd6⟩ := acc_form hacc
                subst hv6
                have hbr := hacc.below
                have Hnew := Lib.hid (And.intro (rd_below Hrd9.out hbr) (And.intro hrd6 (next0 Hst2.out.2.2 hbr)))
                clear hrd6 hbr hacc
                go_wp2_with fail
                go_roundw
                case rel => exact ⟨k + 1, E1, _, A9, c9, A6', c6', by omega, by congr 1, rfl, rfl, Lib.hid ⟨HEE.out, rfl⟩, Hnew⟩
                case measure => simp [intOf]; omega
          · have hkl : l.length = k + 1 := by omega
            have k3 : ¬ ((k : Int) + 1 < (l.length : Int)) := by omega
            obtain ⟨bC, offC, rfl, hlbC, r3⟩ := rdI Hst.out.2.1 hCpos
            rw [Nat.add_zero] at r3
            obtain ⟨z0, hz0⟩ : ∃ z, z = C.getD 0 0 := ⟨_, rfl⟩
            rw [← hz0] at r3
            have Hz0 := Lib.hid hz0
            clear hz0
            have cp0 : (0 : Int) < (C.length : Int) := by omega
            have Hkl := Lib.hid hkl
            clear hlt hkl
            go_wp2_with fail
            go_loopw [14, 15] (fun b i wq => ∃ (j : Nat) (m : Int), j ≤ C.length ∧ i = .int .i64 (j : Int) ∧ b = .int .i64 m ∧ Hid ((∃ i, i < C.length ∧ m = C.getD i 0) ∧ ∀ i, i < j → m ≤ C.getD i 0) ∧ Below wr.heap.size wr wq) (fun _ i _ => C.length - (intOf i).toNat)
            case atStart => exact ⟨0, z0, by omega, rfl, rfl, Lib.hid ⟨⟨0, hCpos, Hz0.out⟩, fun i hi => absurd hi (Nat.not_lt_zero _)⟩, Below.refl _ _⟩
            case round =>
              obtain ⟨j, m, hj, rfl, rfl, HM, hb⟩ := hrel
              by_cases hltj : j < C.length
              · have j0 : (0 : Int) ≤ (j : Int) := by omega
                have j1 : (j : Int) < (C.length : Int) := by omega
                obtain ⟨bC', offC', eA, hlbC', r4⟩ := rdI Hst.out.2.1 hltj
                obtain ⟨rfl, rfl⟩ : bC' = bC ∧ offC' = offC := by
                  injection eA with eA
                  injection eA with e1 e2
                  exact ⟨e1.symm, e2.symm⟩
                have c0 := (hb.cell (p := ⟨bC', offC' + j, none⟩) hlbC').trans r4
                clear r4 eA r3
                by_cases hlm : C.getD j 0 < m
                · have HM1 := Lib.hid (show (∃ i, i < C.length ∧ C.getD j 0 = C.getD i 0) ∧ ∀ i, i < j + 1 → C.getD j 0 ≤ C.getD i 0 from ⟨⟨j, hltj, rfl⟩, fun i hi => by
                    by_cases e : i = j
                    · subst e; exact Int.le_refl _
                    · have := HM.out.2 i (by omega); omega⟩)
                  generalize C.getD j 0 = cj at *
                  go_wp2_with fail
                  go_roundw
                  case rel => exact ⟨j + 1, cj, by omega, by go_num, rfl, HM1, hb⟩
                  case measure => simp [intOf]; omega
                · have HM1 := Lib.hid (show (∃ i, i < C.length ∧ m = C.getD i 0) ∧ ∀ i, i < j + 1 → m ≤ C.getD i 0 from ⟨HM.out.1, fun i hi => by
                    by_cases e : i = j
                    · subst e; omega
                    · exact HM.out.2 i (by omega)⟩)
                  have hlm' : m ≤ C.getD j 0 := by omega
                  generalize C.getD j 0 = cj at *
                  go_wp2_with fail
                  go_roundw
                  case rel => exact ⟨j + 1, m, by omega, by go_num, rfl, HM1, hb⟩
                  case measure => simp [intOf]; omega
              · obtain rfl : j = C.length := by omega
                have hfin := fc_fin f hf hf' E HE.out (by rw [HEl.out]; exact hn) k (by rw [HEl.out]; exact Hkl.out) m (by
                    obtain ⟨i, hi, he⟩ := HM.out.1
                    exact ⟨i, by rw [HLC.out.1, ← HCl.out]; exact hi, by rw [HLC.out.2]; exact he⟩) (fun i hi => by
                    rw [HLC.out.2]
                    exact HM.out.2 i (by rw [HLC.out.1, ← HCl.out] at hi; exact hi))
                have Hfin := Lib.hid hfin
                clear hfin
                go_wp2_with fail
                go_returns
                exact ⟨by rw [← Hfin.out]; rfl, next0 Hst.out.2.2 hb⟩
end Go.Proofs.Ytdmhjcnijebfgaa
