/- The law's apply (an operation on a file of the package), and is (the file is the model's): contracts. -/
import Derived.Test.YthfnpakddnnccaaDo4
namespace Go.Proofs.Ythfnpakddnnccaa
open Go.RowKit
set_option linter.unusedVariables false

theorem op_below (w : World) (x y z u : Value) (T : TypeId) : Below w.heap.size w (w.alloc (.cells #[x, y, z, u] T)) := (Below.refl _ _).alloc (Nat.le_refl _) _
set_option maxRecDepth 100000 in
set_option maxHeartbeats 4000000 in
theorem apply_any (base b : Nat) (v : Value) (s : FS) (kd : Int) (t : ByteArray) (n : Int) (d : Nat) (w : World) (h : FileAt base w b v s) (k0 : 0 ≤ kd) (k1 : kd < 256) (hl : -1 ≤ s.lim) (hu : s.lim < 9223372036854775808) (hsz : s.bytes.size + t.size ≤ 16777216) (hsyn : s.syn ≤ s.bytes.size) (hd8 : d < 256) (hbase : base ≤ w.heap.size) :
    Calls Try.prog 56 #[.pointer (some ⟨b, 0, none⟩), opV kd t n d] w fun e w' => e = .returned (.int .i64 (fDo kd t n d s).2) ∧ ∃ v', FileAt base w' b v' (fDo kd t n d s).1 ∧ Touch b v.ownBlock w w' := by
  unfold fDo opV
  have hB := op_below w (.int .u8 kd) (.string t) (.int .i64 n) (.int .u8 (d : Int)) 88
  have h1 := h.below hB
  have t1 : Touch b v.ownBlock w _ := Touch.ofBelow hB
  have hb1 : base ≤ (w.alloc (.cells #[.int .u8 kd, .string t, .int .i64 n, .int .u8 (d : Int)] 88)).heap.size := by rw [World.size_alloc]; omega
  have cA := fileAppend_any base b v s t _ h1 hl hu hsz hb1
  have cS := fileSync_any base b v s _ h1 hl hu
  have cT := truncate_any base b v s n _ h1 hl hu (by omega) hb1
  have cL := setlimit_any base b v s n _ h1
  have cF := fail_any base b v s _ h1
  have cR := restart_any base b v s n d _ h1 hd8 (by omega) hsyn hb1
  have h7 : kd % 7 = 0 ∨ kd % 7 = 1 ∨ kd % 7 = 2 ∨ kd % 7 = 3 ∨ kd % 7 = 4 ∨ kd % 7 = 5 ∨ kd % 7 = 6 := by omega
  have T1 := Lib.hid t1
  clear t1 h1 h hB hbase hsz hl hu hsyn hb1
  rcases h7 with hk | hk | hk | hk | hk | hk | hk
  · rw [if_pos (.inl hk)]
    have hm := tmod_cases k0 hk
    clear hk cS cT cL cF cR
    go_enter Try.func56, Try.ntmps56
    go_wp2_with fail
    refine cA.mono ?_
    rintro e w2 ⟨rfl, v', h2, t2⟩
    go_wp2_with fail
    go_returns
    exact ⟨rfl, v', h2, T1.out.trans t2⟩
  · rw [if_pos (.inr hk)]
    have hm := tmod_cases k0 hk
    clear hk cS cT cL cF cR
    go_enter Try.func56, Try.ntmps56
    go_wp2_with fail
    refine cA.mono ?_
    rintro e w2 ⟨rfl, v', h2, t2⟩
    go_wp2_with fail
    go_returns
    exact ⟨rfl, v', h2, T1.out.trans t2⟩
  · rw [if_neg (by omega), if_pos hk]
    have hm := tmod_cases k0 hk
    clear hk cA cT cL cF cR
    go_enter Try.func56, Try.ntmps56
    go_wp2_with fail
    refine cS.mono ?_
    rintro e w2 ⟨rfl, h2, t2⟩
    go_wp2_with fail
    go_returns
    exact ⟨rfl, _, h2, T1.out.trans t2.more⟩
  · rw [if_neg (by omega), if_neg (by omega), if_pos hk]
    have hm := tmod_cases k0 hk
    clear hk cA cS cL cF cR
    go_enter Try.func56, Try.ntmps56
    go_wp2_with fail
    refine cT.mono ?_
    rintro e w2 ⟨rfl, v', h2, t2⟩
    go_wp2_with fail
    go_returns
    exact ⟨rfl, _, h2, T1.out.trans t2.more⟩
  · rw [if_neg (by omega), if_neg (by omega), if_neg (by omega), if_pos hk]
    have hm := tmod_cases k0 hk
    clear hk cA cS cT cF cR
    go_enter Try.func56, Try.ntmps56
    go_wp2_with fail
    refine cL.mono ?_
    rintro e w2 ⟨⟨r, rfl⟩, h2, t2⟩
    go_wp2_with fail
    go_returns
    exact ⟨rfl, _, h2, T1.out.trans t2.more⟩
  · rw [if_neg (by omega), if_neg (by omega), if_neg (by omega), if_neg (by omega), if_pos hk]
    have hm := tmod_cases k0 hk
    clear hk cA cS cT cL cR
    go_enter Try.func56, Try.ntmps56
    go_wp2_with fail
    refine cF.mono ?_
    rintro e w2 ⟨⟨r, rfl⟩, h2, t2⟩
    go_wp2_with fail
    go_returns
    exact ⟨rfl, _, h2, T1.out.trans t2.more⟩
  · rw [if_neg (by omega), if_neg (by omega), if_neg (by omega), if_neg (by omega), if_neg (by omega)]
    have hm := tmod_cases k0 hk
    clear hk cA cS cT cL cF
    go_enter Try.func56, Try.ntmps56
    go_wp2_with fail
    refine cR.mono ?_
    rintro e w2 ⟨rfl, v', h2, t2⟩
    go_wp2_with fail
    go_returns
    exact ⟨rfl, _, h2, T1.out.trans t2.more⟩

theorem is_any (base b m : Nat) (v : Value) (s : FS) (w : World) (h : FileAt base w b v s) (k : ModelAt w m s) :
    Calls Try.prog 40 #[.pointer (some ⟨m, 0, none⟩), .pointer (some ⟨b, 0, none⟩)] w fun e w' => e = .returned (.bool true) ∧ Below w.heap.size w w' := by
  obtain ⟨c0, c1, c2, c3, fr, hlt⟩ := k.cells
  have hl := fun (w1 : World) (hb : Below w.heap.size w w1) => h.below hb
  have cB : ∀ s1 : Later w.heap.size w, Calls Try.prog 41 #[.pointer (some ⟨b, 0, none⟩)] s1.w fun e w' => e = .returned (.string s.bytes) ∧ Below s1.w.heap.size s1.w w' := fun s1 => (bytes_any base b v s s1.w (hl _ s1.h)).mono fun _ _ hh => ⟨hh.1, hh.2 ▸ Below.refl _ _⟩
  have cS : ∀ s1 : Later w.heap.size w, Calls Try.prog 42 #[.pointer (some ⟨b, 0, none⟩)] s1.w fun e w' => e = .returned (.int .i64 (s.syn : Int)) ∧ Below s1.w.heap.size s1.w w' := fun s1 => (synced_any base b v s s1.w (hl _ s1.h)).mono fun _ _ hh => ⟨hh.1, hh.2 ▸ Below.refl _ _⟩
  have cD : ∀ s1 : Later w.heap.size w, Calls Try.prog 26 #[.pointer (some ⟨b, 0, none⟩)] s1.w fun e w' => e = .returned (.bool s.down) ∧ Below s1.w.heap.size s1.w w' := fun s1 => (down_any base b v s s1.w (hl _ s1.h)).mono fun _ _ hh => ⟨hh.1, hh.2 ▸ Below.refl _ _⟩
  have l0 := later_cell (B := w.heap.size) c0 hlt
  have l1 := later_cell (B := w.heap.size) c1 hlt
  have l3 := later_cell (B := w.heap.size) c3 hlt
  clear c0 c1 c2 c3 fr hl
  go_enter Try.func40, Try.ntmps40
  go_wp2_with fail
  refine wp_region_later (by kernel_rfl) (by kernel_rfl) ?_
  repeat (go_big_quiet_step (first | (go_at_call 41; exact later_calls (Nat.le_refl _) (cB _)) | (go_at_call 42; exact later_calls (Nat.le_refl _) (cS _)) | (go_at_call 26; exact later_calls (Nat.le_refl _) (cD _))))
  refine wpQuiet_nil ?_
  intro w3 hb3
  go_wp2_with fail
  go_returns
  exact ⟨rfl, hb3⟩
end Go.Proofs.Ythfnpakddnnccaa
