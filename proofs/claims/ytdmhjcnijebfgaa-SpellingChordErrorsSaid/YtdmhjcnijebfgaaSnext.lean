/- next of package spelling: contract, for whatever function adds the cost. -/
import Derived.Test.YtdmhjcnijebfgaaSplace
import Derived.Deep.RegionWith
namespace Go.Proofs.Ytdmhjcnijebfgaa
open Go.RowKit
set_option linter.unusedVariables false

/-- The least cost so far: none yet, none. -/
def sumI (c : Nat → Int) (k : Nat) : Int := if k = 0 then 0 else c (bestI c k)
theorem sumI_pos (c : Nat → Int) {k : Nat} (h : 0 < k) : sumI c k = c (bestI c k) := if_neg (by omega)
theorem next_first (c : Nat → Int) : bestI c 1 = 0 ∧ sumI c 1 = c 0 := by
  have : bestI c 1 = 0 := by unfold bestI; split <;> rfl
  exact ⟨this, by rw [sumI_pos c (by omega), this]⟩
theorem next_less (c : Nat → Int) {k : Nat} (h : c k < c (bestI c k)) : bestI c (k + 1) = k ∧ sumI c (k + 1) = c k := by
  have : bestI c (k + 1) = k := if_pos h
  exact ⟨this, by rw [sumI_pos c (by omega), this]⟩
theorem next_more (c : Nat → Int) {k : Nat} (h0 : 0 < k) (h : ¬ c k < c (bestI c k)) : bestI c (k + 1) = bestI c k ∧ sumI c (k + 1) = sumI c k := by
  have : bestI c (k + 1) = bestI c k := if_neg h
  exact ⟨this, by rw [sumI_pos c (by omega), sumI_pos c h0, this]⟩

/-- The cells of one pitch, of one number of a slice. -/
theorem rdP {w : World} {B : Nat} {A : Option Addr} {L : List Pit} (h : Rd w B A (pitsC L)) {k : Nat} (hk : k < L.length) :
    ∃ b off, A = some ⟨b, off, none⟩ ∧ b < B ∧ w.cell? ⟨b, off + k * 3, none⟩ = some (.int .i64 (L.getD k default).1) ∧ w.cell? ⟨b, off + k * 3 + 1, none⟩ = some (.int .i64 (L.getD k default).2.1) ∧ w.cell? ⟨b, off + k * 3 + 2, none⟩ = some (.int .i64 (L.getD k default).2.2) := by
  obtain ⟨b, off, rfl, hlb, hcell⟩ := rd_pos h (by rw [pitsC_len]; omega)
  obtain ⟨p0, p1, p2⟩ := pitsC_at L k hk
  exact ⟨b, off, rfl, hlb, hcell _ _ p0, hcell _ _ p1, hcell _ _ p2⟩
theorem rdI {w : World} {B : Nat} {A : Option Addr} {l : List Int} (h : Rd w B A (ints l)) {k : Nat} (hk : k < l.length) :
    ∃ b off, A = some ⟨b, off, none⟩ ∧ b < B ∧ w.cell? ⟨b, off + k, none⟩ = some (.int .i64 (l.getD k 0)) := by
  obtain ⟨b, off, rfl, hlb, hcell⟩ := rd_pos h (by simp; omega)
  exact ⟨b, off, rfl, hlb, hcell _ _ (ints_at hk)⟩

set_option maxHeartbeats 1000000 in
theorem next_any (A B : Option Addr) (c c' : Nat) (L : List Pit) (R : List Int) (K : FuncId) (cap : Array Value) (cf : Pit → Int) (cc : Nat → Int) (w : World) (hA : Rd w w.heap.size A (pitsC L)) (hB : Rd w w.heap.size B (ints R))
    (hl : R.length = L.length) (hn : L.length ≤ 1000) (hR : ∀ r ∈ R, 0 ≤ r ∧ r ≤ 1000000000) (hcc : ∀ i, i < L.length → cc i = R.getD i 0 + cf (L.getD i default)) (hcf : ∀ p ∈ L, 0 ≤ cf p ∧ cf p ≤ 1000000)
    (hK : ∀ (args : Array Value) (w : World), Sem.run Try.prog (callFunc K args) w = .ok (.enter K args) w)
    (hF : ∀ p ∈ L, ∀ w1, Below w.heap.size w w1 → Calls Try.prog K (#[.agg #[.int .i64 p.1, .int .i64 p.2.1, .int .i64 p.2.2]] ++ cap) w1 fun e w' => e = .returned (.int .i64 (cf p)) ∧ Below w1.heap.size w1 w') :
    Calls Try.prog 30 #[.slice A L.length c, .slice B R.length c', .func (.func K) #[] cap] w fun e w' => e = .returned (.tuple #[.int .i64 (bestI cc L.length : Nat), .int .i64 (sumI cc L.length)]) ∧ Below w.heap.size w w' := by
  have HF := Lib.hid hF
  have HA := Lib.hid hA
  have HB := Lib.hid hB
  have Hl := Lib.hid hl
  have HR := Lib.hid hR
  have Hcc := Lib.hid hcc
  have Hcf := Lib.hid hcf
  clear hF hA hB hR hcc hcf hl
  go_enter Try.func30, Try.ntmps30
  go_wp2_with fail
  go_loopw [6, 7, 13] (fun b s i wr => ∃ k : Nat, k ≤ L.length ∧ i = .int .i64 (k : Int) ∧ b = .int .i64 (bestI cc k : Nat) ∧ s = .int .i64 (sumI cc k) ∧ Below w.heap.size w wr) (fun _ _ i _ => L.length - (intOf i).toNat)
  case atStart => exact ⟨0, by omega, rfl, rfl, rfl, Below.refl _ _⟩
  case round =>
    obtain ⟨k, hk, rfl, rfl, rfl, hb⟩ := hrel
    by_cases hlt : k < L.length
    · have k0 : (0 : Int) ≤ (k : Int) := by omega
      have k1 : (k : Int) < (L.length : Int) := by omega
      have k2 : (k : Int) < (R.length : Int) := by have := Hl.out; omega
      have hltR : k < R.length := by have := Hl.out; omega
      obtain ⟨b, off, rfl, hlb, q0, q1, q2⟩ := rdP HA.out hlt
      obtain ⟨b', off', rfl, hlb', q3⟩ := rdI HB.out hltR
      have c0 := (hb.cell (p := ⟨b, off + k * 3, none⟩) hlb).trans q0
      have c1 := (hb.cell (p := ⟨b, off + k * 3 + 1, none⟩) hlb).trans q1
      have c2 := (hb.cell (p := ⟨b, off + k * 3 + 2, none⟩) hlb).trans q2
      have c3 := (hb.cell (p := ⟨b', off' + k, none⟩) hlb').trans q3
      have hm := getD_memL L (default : Pit) hlt
      have hmR := HR.out _ (getD_memL R 0 hltR)
      have hck := Hcc.out k hlt
      have hF := HF.out _ hm
      have hcf := Hcf.out _ hm
      have HF1 := Lib.hid hF
      clear q0 q1 q2 q3 hm hF
      generalize L.getD k default = p at *
      obtain ⟨s, al, o⟩ := p
      dsimp only at c0 c1 c2
      generalize R.getD k 0 = r at *
      go_wp2_with fail
      have hbw : Below w.heap.size w (wr.alloc (Obj.cells #[.int .i64 s, .int .i64 al, .int .i64 o] PIT)) := hb.alloc hb.size _
      have hz := hb.size
      obtain ⟨d0, d1, d2⟩ := later_box3 wr (.int .i64 s) (.int .i64 al) (.int .i64 o) PIT
      have d3 : ∀ s_1 : Later (wr.alloc (Obj.cells #[.int .i64 s, .int .i64 al, .int .i64 o] PIT)).heap.size (wr.alloc (Obj.cells #[.int .i64 s, .int .i64 al, .int .i64 o] PIT)), s_1.w.cell? ⟨b', off' + k, none⟩ = some (.int .i64 r) := fun s_1 => later_cell ((hbw.cell (p := ⟨b', off' + k, none⟩) hlb').trans ((hb.cell (p := ⟨b', off' + k, none⟩) hlb').symm.trans c3)) (by rw [World.size_alloc]; show b' < _; omega) s_1
      have hw : IntKind.i64.wrap (r + cf (s, al, o)) = r + cf (s, al, o) := IntWalk.i64_in _ (by omega)
      clear c0 c1 c2 c3
      refine wp_region_later (by kernel_rfl) (by kernel_rfl) ?_
      repeat (go_big_quiet_step ((exact later_calls (Nat.le_refl _) (HF1.out _ (hbw.trans ((Later.h _).mono (by rw [World.size_alloc]; omega)))))))
      refine wpQuiet_nil ?_
      intro w1 hb1
      have hb2 : Below w.heap.size w w1 := hbw.trans (hb1.mono (by rw [World.size_alloc]; omega))
      clear d0 d1 d2 d3 HF1 hb1 hbw
      by_cases hk0 : k = 0
      · subst hk0
        obtain ⟨e1, e2⟩ := next_first cc
        have E1 := Lib.hid e1
        have E2 := Lib.hid e2
        have Hck := Lib.hid hck
        clear e1 e2 hck
        go_wp2
        go_roundw
        case rel => exact ⟨1, by omega, by go_num, by rw [E1.out], by rw [E2.out, Hck.out], hb2⟩
        case measure => simp [intOf]; omega
      · have hk1 : ¬ (k : Int) = 0 := by omega
        have hkb : ((k : Int) == 0) = false := by rw [beq_eq_false_iff_ne]; exact hk1
        have hs := sumI_pos cc (k := k) (by omega)
        by_cases hlt2 : cc k < cc (bestI cc k)
        · obtain ⟨e1, e2⟩ := next_less cc hlt2
          rw [hck, ← hs] at hlt2
          have E1 := Lib.hid e1
          have E2 := Lib.hid e2
          have Hck := Lib.hid hck
          clear e1 e2 hck hs
          go_wp2
          go_roundw
          case rel => exact ⟨k + 1, by omega, by go_num, by rw [E1.out], by rw [E2.out, Hck.out], hb2⟩
          case measure => simp [intOf]; omega
        · obtain ⟨e1, e2⟩ := next_more cc (by omega) hlt2
          rw [hck, ← hs] at hlt2
          have E1 := Lib.hid e1
          have E2 := Lib.hid e2
          clear e1 e2 hck hs
          go_wp2
          go_roundw
          case rel => exact ⟨k + 1, by omega, by go_num, by rw [E1.out], by rw [E2.out], hb2⟩
          case measure => simp [intOf]; omega
    · obtain rfl : k = L.length := by omega
      go_wp2
      go_returns
      exact ⟨rfl, hb⟩
end Go.Proofs.Ytdmhjcnijebfgaa
