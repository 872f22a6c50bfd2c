/- General: a region that draws its order, walked once for all orders by an invariant over what has come up. No program in sight. -/
import Derived.Test.YtdmhjcnijebfgaaKit
import Derived.Orders
namespace Go.Proofs.Ytdmhjcnijebfgaa
open Go.RowKit
set_option linter.unusedVariables false

section
variable {P : Program} {ops : Array Oper} {Q : Exit → Act → World → Prop} {md : Region.Mode}

/-- Every operation waits for earlier ones alone. -/
def topoB (md : Region.Mode) (ops : Array Oper) : Bool :=
  (List.range ops.size).all fun i => ((ops[i]?).map fun o => o.after.all fun e => !Region.binds md e || decide (e.on < i)).getD true
theorem topo_all (h : topoB md ops = true) {listed : Array Bool} (hs : listed.size = ops.size) (hr : Region.ready md ops listed = []) : ∀ i, i < ops.size → listed.getD i true = true := by
  intro i
  induction i using Nat.strongRecOn with
  | _ i ih =>
    intro hi
    cases hl : listed.getD i true with
    | true => rfl
    | false =>
      exfalso
      have hm : i ∈ Region.ready md ops listed := by
        refine mem_ready.2 ⟨hl, ops[i], Array.getElem?_eq_getElem hi, fun e he hb => ?_⟩
        have h1 := List.all_eq_true.1 h i (List.mem_range.2 hi)
        rw [Array.getElem?_eq_getElem hi] at h1
        have h2 : (ops[i].after.all fun e => !Region.binds md e || decide (e.on < i)) = true := h1
        obtain ⟨k, hk, hke⟩ := Array.mem_iff_getElem.1 he
        have h3 := (Array.all_eq_true.1 h2) k hk
        rw [hke, hb] at h3
        have hlt : e.on < i := by simpa using h3
        have h4 := ih e.on hlt (by omega)
        have hlt2 : e.on < listed.size := by omega
        simp [hlt2] at h4 ⊢
        exact h4
      rw [hr] at hm
      cases hm
theorem count_set {listed : Array Bool} {i f : Nat} (hl : listed.getD i true = false) (hc : listed.toList.count false = f + 1) : (listed.setIfInBounds i true).toList.count false = f := by
  have hi : i < listed.size := by
    rcases Nat.lt_or_ge i listed.size with h | h
    · exact h
    · simp [Array.getElem?_eq_none h] at hl
  have hv : listed[i] = false := by simpa [hi] using hl
  rw [Array.toList_setIfInBounds, List.count_set (by simpa using hi)]
  have : listed.toList[i]'(by simpa using hi) = false := by simpa using hv
  rw [this, hc]
  rfl

theorem listed_set {listed : Array Bool} {i j : Nat} (h : (listed.setIfInBounds i true).getD j false = true) : j = i ∨ listed.getD j false = true := by
  by_cases e : i = j
  · exact .inl e.symm
  · right; rwa [getD_set_ne false e] at h

/-- One walk for every order: an invariant that every operation keeps, whenever it may come up. -/
theorem any_inv (ht : topoB md ops = true) (Inv : Array Bool → Act → World → Prop)
    (hstep : ∀ (listed : Array Bool) (a : Act) (w : World) (i : Nat) (o : Oper), Inv listed a w → listed.size = ops.size → ops[i]? = some o → listed.getD i true = false →
      (∀ e ∈ o.after, Region.binds md e = true → listed.getD e.on false = true) → (∀ (j : Nat) (oj : Oper), ops[j]? = some oj → listed.getD j false = true → ∀ e ∈ oj.after, Region.binds md e = true → listed.getD e.on false = true) → wpOp P ops Q i (fun a' w' => Inv (listed.setIfInBounds i true) a' w') a w)
    (hfin : ∀ (listed : Array Bool) (a : Act) (w : World), Inv listed a w → listed.size = ops.size → (∀ i, i < ops.size → listed.getD i true = true) → Q .normal a w) :
    ∀ (fuel : Nat) (listed : Array Bool) (a : Act) (w : World), listed.toList.count false = fuel → listed.size = ops.size → (∀ (j : Nat) (oj : Oper), ops[j]? = some oj → listed.getD j false = true → ∀ e ∈ oj.after, Region.binds md e = true → listed.getD e.on false = true) → Inv listed a w → wpAny P md ops Q fuel listed a w := by
  intro fuel
  induction fuel with
  | zero =>
    intro listed a w hc hs hcl hI
    have hr : Region.ready md ops listed = [] := by
      rw [List.eq_nil_iff_forall_not_mem]
      intro i hi
      obtain ⟨hl, o, ho, _⟩ := mem_ready.1 hi
      have hi' : i < listed.size := by rw [hs]; exact (Array.getElem?_eq_some_iff.1 ho).1
      have hv : listed[i] = false := by simpa [hi'] using hl
      have : false ∈ listed.toList := by rw [← hv]; exact Array.getElem_mem_toList hi'
      exact absurd (List.count_pos_iff.2 this) (by omega)
    exact ⟨hr, hfin listed a w hI hs (topo_all ht hs hr)⟩
  | succ f ih =>
    intro listed a w hc hs hcl hI
    refine ⟨fun hr => hfin listed a w hI hs (topo_all ht hs hr), fun i hi => ?_⟩
    obtain ⟨hl, o, ho, hall⟩ := mem_ready.1 hi
    exact wpOp_mono (fun a' w' h' => ih _ a' w' (count_set hl hc) (by rw [Array.size_setIfInBounds, hs]) (fun j oj hoj hlj e he hb => by
      rcases listed_set hlj with rfl | hlj
      · obtain rfl := Option.some.inj (ho.symm.trans hoj)
        exact getD_set_true (hall e he hb)
      · exact getD_set_true (hcl j oj hoj hlj e he hb)) h') (hstep listed a w i o hI hs ho hl hall hcl)

theorem region_inv {a : Act} {w : World} (hm : P.follows .mixedOrders = true) (ht : topoB .any ops = true) (Inv : Array Bool → Act → World → Prop)
    (hstart : Inv (Array.replicate ops.size false) a w.drew)
    (hstep : ∀ (listed : Array Bool) (a : Act) (w : World) (i : Nat) (o : Oper), Inv listed a w → listed.size = ops.size → ops[i]? = some o → listed.getD i true = false →
      (∀ e ∈ o.after, Region.binds .any e = true → listed.getD e.on false = true) → (∀ (j : Nat) (oj : Oper), ops[j]? = some oj → listed.getD j false = true → ∀ e ∈ oj.after, Region.binds .any e = true → listed.getD e.on false = true) → wpOp P ops Q i (fun a' w' => Inv (listed.setIfInBounds i true) a' w') a w)
    (hfin : ∀ (listed : Array Bool) (a : Act) (w : World), Inv listed a w → listed.size = ops.size → (∀ i, i < ops.size → listed.getD i true = true) → Q .normal a w) :
    wpAny P .any ops Q ops.size (Array.replicate ops.size false) a { w with drawn := w.drawn + 1 } :=
  any_inv ht Inv hstep hfin ops.size _ a _ (by simp) (by simp) (fun j oj _ hl => by simp [Array.getD_eq_getD_getElem?, Array.getElem?_replicate] at hl; split at hl <;> simp_all) hstart

/-! ### The invariant: what has come up lies in its slot; the world is as W says -/
def dstOf (ops : Array Oper) (j : Nat) : Option Nat := (ops[j]?).bind (·.dst)
/-- No two operations write one slot. -/
def onceB (ops : Array Oper) : Bool :=
  (List.range ops.size).all fun i => (List.range ops.size).all fun j => decide (i = j) || (dstOf ops i).isNone || decide (dstOf ops i ≠ dstOf ops j)
theorem once_spec (h : onceB ops = true) {i j d : Nat} (hi : dstOf ops i = some d) (hj : dstOf ops j = some d) : i = j := by
  have hlt : ∀ k d, dstOf ops k = some d → k < ops.size := fun k d hk => by
    unfold dstOf at hk
    rcases Nat.lt_or_ge k ops.size with h | h
    · exact h
    · rw [Array.getElem?_eq_none h] at hk; cases hk
  have h1 := List.all_eq_true.1 (List.all_eq_true.1 h i (List.mem_range.2 (hlt i d hi))) j (List.mem_range.2 (hlt j d hj))
  rw [hi, hj] at h1
  simpa using h1

structure Laid {X : Type} (ops : Array Oper) (a0 : Act) (val : X → Nat → Value) (W : X → Array Bool → World → Prop) (x : X) (listed : Array Bool) (a : Act) (w : World) : Prop where
  defers : a.defers = a0.defers
  size : a.tmps.size = a0.tmps.size
  old : ∀ k, (∀ j, dstOf ops j ≠ some k) → a.tmps.getD k undef = a0.tmps.getD k undef
  new : ∀ j d, listed.getD j false = true → dstOf ops j = some d → a.tmps.getD d undef = val x j
  world : W x listed w

theorem Laid.at {X : Type} {a0 : Act} {val : X → Nat → Value} {W : X → Array Bool → World → Prop} {x : X} {listed : Array Bool} {a : Act} {w : World} (h : Laid ops a0 val W x listed a w) (k : Nat)
    (hb : ((List.range ops.size).all fun j => decide (dstOf ops j ≠ some k)) = true) : a.tmps.getD k undef = a0.tmps.getD k undef :=
  h.old k fun j e => by
    have hj : j < ops.size := by
      unfold dstOf at e
      rcases Nat.lt_or_ge j ops.size with h | h
      · exact h
      · rw [Array.getElem?_eq_none h] at e; cases e
    have := List.all_eq_true.1 hb j (List.mem_range.2 hj)
    rw [e] at this
    simp at this
theorem getD_put (t : Array Value) (d k : Nat) (v : Value) (hd : d < t.size) : (t.setIfInBounds d v).getD k undef = if k = d then v else t.getD k undef := by
  rw [Array.getD_eq_getD_getElem?, Array.getD_eq_getD_getElem?]
  by_cases h : k = d
  · subst h
    rw [if_pos rfl, Array.getElem?_setIfInBounds_self_of_lt hd]
    rfl
  · rw [if_neg h, Array.getElem?_setIfInBounds_ne (fun e => h e.symm)]
/-- Behind an operation that has written v: what it writes is what val says (of a ghost that may be new). -/
theorem Laid.put {X : Type} {a0 : Act} {val : X → Nat → Value} {W : X → Array Bool → World → Prop} {x : X} {listed : Array Bool} {a : Act} {w : World} (h : Laid ops a0 val W x listed a w) (ho : onceB ops = true)
    {i : Nat} {o : Oper} (hi : ops[i]? = some o) (hdl : ∀ d, o.dst = some d → d < a0.tmps.size) {x' : X} {v : Value} {w' : World} (hv : ∀ d, o.dst = some d → v = val x' i) (hx : ∀ j, listed.getD j false = true → j ≠ i → val x' j = val x j)
    (hW : W x' (listed.setIfInBounds i true) w') : Laid ops a0 val W x' (listed.setIfInBounds i true) (a.put o.dst v) w' := by
  have hd : dstOf ops i = o.dst := by unfold dstOf; rw [hi]; rfl
  cases hod : o.dst with
  | none =>
    refine ⟨h.defers, h.size, h.old, fun j d hj hjd => ?_, hW⟩
    rcases listed_set hj with rfl | hj'
    · rw [hd, hod] at hjd; cases hjd
    · by_cases hji : j = i
      · subst hji; rw [hd, hod] at hjd; cases hjd
      · rw [hx j hj' hji]; exact h.new j d hj' hjd
  | some e =>
    have he := hdl e hod
    rw [← h.size] at he
    refine ⟨h.defers, by show (a.tmps.setIfInBounds e v).size = _; rw [Array.size_setIfInBounds]; exact h.size, fun k hk => ?_, fun j d hj hjd => ?_, hW⟩
    · show (a.tmps.setIfInBounds e v).getD k undef = _
      rw [getD_put _ _ _ _ he, if_neg (fun e' => hk i (by rw [hd, hod, e']))]
      exact h.old k hk
    · show (a.tmps.setIfInBounds e v).getD d undef = _
      rw [getD_put _ _ _ _ he]
      by_cases hji : j = i
      · subst hji
        rw [hd, hod] at hjd
        injection hjd with hjd
        rw [if_pos hjd.symm]
        exact hv e hod
      · have hne : d ≠ e := fun e' => hji (once_spec ho hjd (by rw [hd, hod, e']))
        rw [if_neg hne]
        rcases listed_set hj with e' | hj'
        · exact absurd e' hji
        · rw [hx j hj' hji]; exact h.new j d hj' hjd

/-- An operation that yields its value and leaves the world. -/
theorem Laid.pure {X : Type} {a0 : Act} {val : X → Nat → Value} {W : X → Array Bool → World → Prop} {x : X} {listed : Array Bool} {a : Act} {w : World} (h : Laid ops a0 val W x listed a w) (ho : onceB ops = true)
    {i : Nat} {o : Oper} (hi : ops[i]? = some o) (hg : o.guard = none) (hdl : ∀ d, o.dst = some d → d < a0.tmps.size) (hrun : (execOp a.eval o).run P w = .ok (.value (val x i)) w) (hW : W x (listed.setIfInBounds i true) w) :
    wpOp P ops Q i (fun a' w' => ∃ x, Laid ops a0 val W x (listed.setIfInBounds i true) a' w') a w := by
  unfold wpOp
  simp only [hi]
  have hw : Region.wanted o (yielded ops a.tmps) = true := by unfold Region.wanted; rw [hg]
  simp only [hw, if_true, Oper.wp, hrun, Oper.upon]
  exact .inl ⟨x, h.put ho hi hdl (fun _ _ => rfl) (fun _ _ _ => rfl) hW⟩
/-- Any operation, by a law at 'Oper.wp'. -/
theorem step_op {i : Nat} {o : Oper} (hi : ops[i]? = some o) (hg : o.guard = none) {K : Act → World → Prop} {a : Act} {w : World} (h : o.wp P a w K Q) : wpOp P ops Q i K a w := by
  unfold wpOp
  simp only [hi]
  have hw : Region.wanted o (yielded ops a.tmps) = true := by unfold Region.wanted; rw [hg]
  simp only [hw, if_true]
  exact .inl h
theorem any_laid {X : Type} {a0 : Act} {w0 : World} (ht : topoB .any ops = true) (val : X → Nat → Value) (W : X → Array Bool → World → Prop) (x0 : X)
    (hstart : W x0 (Array.replicate ops.size false) w0.drew)
    (hstep : ∀ (x : X) (listed : Array Bool) (a : Act) (w : World) (i : Nat) (o : Oper), Laid ops a0 val W x listed a w → listed.size = ops.size → ops[i]? = some o → listed.getD i false = false →
      (∀ e ∈ o.after, Region.binds .any e = true → listed.getD e.on false = true) → (∀ (j : Nat) (oj : Oper), ops[j]? = some oj → listed.getD j false = true → ∀ e ∈ oj.after, Region.binds .any e = true → listed.getD e.on false = true) →
      wpOp P ops Q i (fun a' w' => ∃ x, Laid ops a0 val W x (listed.setIfInBounds i true) a' w') a w)
    (hfin : ∀ (x : X) (listed : Array Bool) (a : Act) (w : World), Laid ops a0 val W x listed a w → (∀ i, i < ops.size → listed.getD i false = true) → Q .normal a w) :
    wpAny P .any ops Q ops.size (Array.replicate ops.size false) a0 { w0 with drawn := w0.drawn + 1 } := by
  refine any_inv (md := .any) ht (fun listed a w => ∃ x, Laid ops a0 val W x listed a w) ?_ ?_ ops.size _ a0 _ (by simp) (by simp) (fun j oj _ hl => by simp [Array.getD_eq_getD_getElem?, Array.getElem?_replicate] at hl; split at hl <;> simp_all) ⟨x0, rfl, rfl, fun _ _ => rfl, fun j d hl _ => ?_, hstart⟩
  · rintro listed a w i o ⟨x, hL⟩ hs hi hl hall hcl
    refine hstep x listed a w i o hL hs hi ?_ hall hcl
    have hlt : i < listed.size := by rw [hs]; exact (Array.getElem?_eq_some_iff.1 hi).1
    simp [hlt] at hl ⊢
    exact hl
  · rintro listed a w ⟨x, hL⟩ hs hall
    refine hfin x listed a w hL fun i hi => ?_
    have h1 := hall i hi
    have hlt : i < listed.size := by omega
    simp [hlt] at h1 ⊢
    exact h1
  · simp [Array.getD_eq_getD_getElem?, Array.getElem?_replicate] at hl
    split at hl <;> simp_all
theorem region_laid {id : Nat} {X : Type} {a0 : Act} {w0 : World} (hm : P.follows .mixedOrders = true) (ht : topoB .any ops = true) (val : X → Nat → Value) (W : X → Array Bool → World → Prop) (x0 : X)
    (hstart : W x0 (Array.replicate ops.size false) w0.drew)
    (hstep : ∀ (x : X) (listed : Array Bool) (a : Act) (w : World) (i : Nat) (o : Oper), Laid ops a0 val W x listed a w → listed.size = ops.size → ops[i]? = some o → listed.getD i false = false →
      (∀ e ∈ o.after, Region.binds .any e = true → listed.getD e.on false = true) → (∀ (j : Nat) (oj : Oper), ops[j]? = some oj → listed.getD j false = true → ∀ e ∈ oj.after, Region.binds .any e = true → listed.getD e.on false = true) →
      wpOp P ops Q i (fun a' w' => ∃ x, Laid ops a0 val W x (listed.setIfInBounds i true) a' w') a w)
    (hfin : ∀ (x : X) (listed : Array Bool) (a : Act) (w : World), Laid ops a0 val W x listed a w → (∀ i, i < ops.size → listed.getD i false = true) → Q .normal a w) : (Code.region id ops true).wp P Q a0 w0 :=
  wp_region_any hm (any_laid ht val W x0 hstart hstep hfin)
/-- No operation lays a deferred call. -/
def noDeferB (ops : Array Oper) : Bool := ops.all fun o => match o.op with | .defer _ => false | _ => true
theorem noDefer (h : noDeferB ops = true) : ∀ (i : Nat) (o : Oper), ops[i]? = some o → ∀ c, o.op ≠ .defer c := by
  intro i o hi c e
  obtain ⟨hlt, rfl⟩ := Array.getElem?_eq_some_iff.1 hi
  have := (Array.all_eq_true.1 h) i hlt
  rw [e] at this
  cases this
/-- The slots behind the region, written out. -/
theorem Laid.tmps {X : Type} {a0 : Act} {val : X → Nat → Value} {W : X → Array Bool → World → Prop} {x : X} {listed : Array Bool} {a : Act} {w : World} (h : Laid ops a0 val W x listed a w) (hall : ∀ i, i < ops.size → listed.getD i false = true)
    (t : Array Value) (hs : t.size = a0.tmps.size) (ht : ∀ k, k < t.size → (∀ j, j < ops.size → dstOf ops j = some k → t.getD k undef = val x j) ∧ ((∀ j, j < ops.size → dstOf ops j ≠ some k) → t.getD k undef = a0.tmps.getD k undef)) : a = { tmps := t, defers := a0.defers } := by
  have hj : ∀ j k, dstOf ops j = some k → j < ops.size := fun j k hk => by
    unfold dstOf at hk
    rcases Nat.lt_or_ge j ops.size with h | h
    · exact h
    · rw [Array.getElem?_eq_none h] at hk; cases hk
  obtain ⟨at', ad'⟩ := a
  have hd : ad' = a0.defers := h.defers
  subst hd
  congr 1
  apply Array.ext
  · rw [hs]; exact h.size
  · intro k hk1 hk2
    have e1 : ∀ (u : Array Value) (hk : k < u.size), u[k] = u.getD k undef := fun u hk => by simp [hk]
    rw [e1 _ hk1, e1 _ hk2]
    by_cases hex : ∃ j, dstOf ops j = some k
    · obtain ⟨j, hjk⟩ := hex
      rw [(ht k hk2).1 j (hj j k hjk) hjk]
      exact h.new j k (hall j (hj j k hjk)) hjk
    · have hno : ∀ j, dstOf ops j ≠ some k := fun j e => hex ⟨j, e⟩
      rw [(ht k hk2).2 (fun j _ => hno j)]
      exact h.old k hno
/-- The slots behind the region, computed. -/
def fillT {X : Type} (ops : Array Oper) (val : X → Nat → Value) (x : X) (t0 : Array Value) : Array Value :=
  ⟨(List.range t0.size).map fun k => match (List.range ops.size).find? (fun j => dstOf ops j == some k) with | some j => val x j | none => t0.getD k undef⟩
theorem Laid.fill {X : Type} {a0 : Act} {val : X → Nat → Value} {W : X → Array Bool → World → Prop} {x : X} {listed : Array Bool} {a : Act} {w : World} (h : Laid ops a0 val W x listed a w) (hall : ∀ i, i < ops.size → listed.getD i false = true) :
    a = { tmps := fillT ops val x a0.tmps, defers := a0.defers } := by
  have hg : ∀ k, k < a0.tmps.size → (fillT ops val x a0.tmps).getD k undef = match (List.range ops.size).find? (fun j => dstOf ops j == some k) with | some j => val x j | none => a0.tmps.getD k undef := fun k hk => by
    simp [fillT, Array.getD_eq_getD_getElem?, hk]
  have hsz : (fillT ops val x a0.tmps).size = a0.tmps.size := by simp [fillT]
  refine h.tmps hall _ hsz fun k hk => ?_
  rw [hsz] at hk
  rw [hg k hk]
  cases hf : (List.range ops.size).find? (fun j => dstOf ops j == some k) with
  | none =>
    refine ⟨fun j hj hjk => ?_, fun _ => rfl⟩
    have := List.find?_eq_none.1 hf j (List.mem_range.2 hj)
    simp [hjk] at this
  | some j' =>
    have h1 := List.find?_some hf
    have h2 := List.mem_range.1 (List.mem_of_find?_eq_some hf)
    have h3 : dstOf ops j' = some k := by simpa using h1
    refine ⟨fun j hj hjk => ?_, fun hno => absurd h3 (hno j' h2)⟩
    exact (h.new j' k (hall j' h2) h3).symm.trans (h.new j k (hall j hj) hjk)
end
end Go.Proofs.Ytdmhjcnijebfgaa
