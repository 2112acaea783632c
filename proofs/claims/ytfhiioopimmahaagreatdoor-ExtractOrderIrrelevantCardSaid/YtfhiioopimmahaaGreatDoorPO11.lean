/- A region that draws its order and writes, behind one of its operations (the mark), what the others read: the condition on the world is asked until the mark is passed, for which all that read wait. -/
import Derived.Test.YtfhiioopimmahaaGreatDoorPO08
namespace Go.Pax
open Go Go.RowKit
section
variable {P : Program} {ops : Array Oper} {Q : Exit → Act → World → Prop} {md : Region.Mode} {S : World → Prop} {m : Nat}
def wpAnyF (P : Program) (md : Region.Mode) (ops : Array Oper) (Q : Exit → Act → World → Prop) (S : World → Prop) (m : Nat) : Nat → Array Bool → Act → World → Prop
  | 0, listed, a, w => Region.ready md ops listed = [] ∧ Q .normal a w
  | fuel + 1, listed, a, w =>
    (Region.ready md ops listed = [] → Q .normal a w) ∧
    ∀ i ∈ Region.ready md ops listed, wpOp P ops Q i (fun a' w' => ((listed.setIfInBounds i true).getD m true = true ∨ S w') ∧ wpAnyF P md ops Q S m fuel (listed.setIfInBounds i true) a' w') a w
theorem wpAny_of_F : ∀ (fuel : Nat) (listed : Array Bool) (a : Act) (w : World), wpAnyF P md ops Q S m fuel listed a w → wpAny P md ops Q fuel listed a w
  | 0, _, _, _, h => h
  | fuel + 1, _, _, _, h => ⟨h.1, fun i hi => wpOp_mono (fun a' w' h' => wpAny_of_F fuel _ a' w' h'.2) (h.2 i hi)⟩
theorem wpAnyF_gen {i : Nat} {oi : Oper} {v : Value} {T : World → Prop} {J : Array Bool → Prop} (hi : ops[i]? = some oi) (hsel : ∀ (j : Nat) (o : Oper) cs b, ops[j]? = some o → o.op ≠ .select cs b)
    (hQ : ∀ c a w, Q (.panic c) (a.put oi.dst v) w → Q (.panic c) a w) (him : i ≠ m)
    (hT : ∀ (listed : Array Bool) (j : Nat) w, J listed → j ∈ Region.ready md ops listed → i ∈ Region.ready md ops listed → j ≠ i → ((listed.setIfInBounds j true).getD m true = true ∨ S w) → J (listed.setIfInBounds j true) ∧ T w) :
    ∀ (fuel : Nat) (listed : Array Bool) (a : Act) (w : World), J listed →
      (∀ j oj, ops[j]? = some oj → j ≠ i → listed.getD j true = false → (∀ e ∈ oj.after, Region.binds md e = true → e.on ≠ i) → oi.apart ops oj = true) →
      i ∈ Region.ready md ops listed → YieldsIf P ops T oi v a → (listed.getD m true = true ∨ S w) → T w →
      wpAnyF P md ops Q S m fuel (listed.setIfInBounds i true) (a.put oi.dst v) w → wpAnyF P md ops Q S m (fuel + 1) listed a w := by
  have hgi : ∀ l : Array Bool, (l.setIfInBounds i true).getD m true = l.getD m true := fun l => getD_set_ne true him
  intro fuel
  induction fuel with
  | zero =>
    intro listed a w _ _ hr hy hS hTw H
    refine ⟨fun h => (by rw [h] at hr; cases hr), fun j hj => ?_⟩
    by_cases hji : j = i
    · subst hji; exact hy.wpOp hi hTw ⟨by rw [hgi]; exact hS, H⟩
    · have := ready_mono hj hji
      rw [H.1] at this
      cases this
  | succ fuel ih =>
    intro listed a w hJ hfree hr hy hS hTw H
    refine ⟨fun h => (by rw [h] at hr; cases hr), fun j hj => ?_⟩
    by_cases hji : j = i
    · subst hji; exact hy.wpOp hi hTw ⟨by rw [hgi]; exact hS, H⟩
    · have h1 := H.2 j (ready_mono hj hji)
      obtain ⟨hjun, oj, hoj, hall⟩ := mem_ready.1 hj
      have hnot : ∀ e ∈ oj.after, Region.binds md e = true → e.on ≠ i := fun e he hb heq => by
        have h1 := hall e he hb
        have h0 := (mem_ready.1 hr).1
        rw [heq] at h1
        rcases Nat.lt_or_ge i listed.size with h' | h'
        · simp [h'] at h0 h1; rw [h0] at h1; cases h1
        · simp [Array.getElem?_eq_none h'] at h1
      have h2 := wpOp_putIf hoj (hfree j oj hoj hji hjun hnot) (fun cs b => hsel i oi cs b hi) (fun cs b => hsel j oj cs b hoj) hQ hy h1
      have hfree' : ∀ k ok, ops[k]? = some ok → k ≠ i → (listed.setIfInBounds j true).getD k true = false →
          (∀ e ∈ ok.after, Region.binds md e = true → e.on ≠ i) → oi.apart ops ok = true := fun k ok hk hki hun hno => by
        refine hfree k ok hk hki ?_ hno
        by_cases hjk : j = k
        · subst hjk; exact hjun
        · rw [getD_set_ne true hjk] at hun; exact hun
      refine wpOp_mono (fun a' w' h3 => ?_) h2
      have h4 : (listed.setIfInBounds j true).getD m true = true ∨ S w' := by
        have := h3.2.1
        rw [Array.setIfInBounds_comm _ _ (Ne.symm hji), hgi] at this
        exact this
      obtain ⟨h5, h6⟩ := hT listed j w' hJ hj hr hji h4
      refine ⟨h4, ih (listed.setIfInBounds j true) a' w' h5 hfree' (ready_mono hr (Ne.symm hji)) h3.1 h4 h6 ?_⟩
      rw [Array.setIfInBounds_comm _ _ hji]
      exact h3.2.2
/-- A load is taken first: the mark waits for it. -/
theorem wpAnyF_take {i : Nat} {oi : Oper} {v : Value} {fuel : Nat} {listed : Array Bool} {a : Act} {w : World} (hi : ops[i]? = some oi)
    (hs : Region.noSelect ops = true) (hf : Region.free md ops listed i = true) (hr : (Region.ready md ops listed).contains i = true) (hwm : waits md ops m i = true) (hl : listed.getD m true = false)
    (hQ : ∀ c a w, Q (.panic c) (a.put oi.dst v) w → Q (.panic c) a w) (hy : YieldsIf P ops S oi v a) (hS : S w)
    (h : wpAnyF P md ops Q S m fuel (listed.setIfInBounds i true) (a.put oi.dst v) w) : wpAnyF P md ops Q S m (fuel + 1) listed a w := by
  have hr' : i ∈ Region.ready md ops listed := by simpa using hr
  refine wpAnyF_gen (T := S) (J := fun l => l.getD m true = false) hi (Region.noSelect_spec hs) hQ (fun e => by rw [e] at hr' hwm; exact not_ready hwm hr' hr') (fun l j w' hJ hj hi2 hji h4 => ?_) fuel listed a w hl (Region.free_spec hi hf) hr' hy (.inr hS) hS h
  have hjm : j ≠ m := fun e => not_ready hwm hi2 (e ▸ hj)
  rw [getD_set_ne true hjm] at h4 ⊢
  refine ⟨hJ, h4.resolve_left (fun h5 => ?_)⟩
  rw [hJ] at h5
  cases h5
/-- An operation that reads no memory is taken first. -/
theorem wpAnyF_pure {i : Nat} {oi : Oper} {v : Value} {fuel : Nat} {listed : Array Bool} {a : Act} {w : World} (hi : ops[i]? = some oi)
    (hs : Region.noSelect ops = true) (hf : Region.free md ops listed i = true) (hr : (Region.ready md ops listed).contains i = true) (him : (i == m) = false)
    (hQ : ∀ c a w, Q (.panic c) (a.put oi.dst v) w → Q (.panic c) a w) (hy : YieldsIf P ops (fun _ => True) oi v a) (hS : listed.getD m true = true ∨ S w)
    (h : wpAnyF P md ops Q S m fuel (listed.setIfInBounds i true) (a.put oi.dst v) w) : wpAnyF P md ops Q S m (fuel + 1) listed a w :=
  wpAnyF_gen (T := fun _ => True) (J := fun _ => True) hi (Region.noSelect_spec hs) hQ (by simpa using him) (fun _ _ _ _ _ _ _ _ => ⟨trivial, trivial⟩) fuel listed a w trivial (Region.free_spec hi hf) (by simpa using hr) hy hS trivial h
/-- One operation alone may come up. -/
theorem wpAnyF_ready {i : Nat} {o : Oper} {fuel : Nat} {listed : Array Bool} {a : Act} {w : World} (hr : Region.ready md ops listed = [i]) (ho : ops[i]? = some o) (hl : (listed.setIfInBounds i true).getD m true = true)
    (h : ∀ K' : Act → World → Prop, Shut (∀ a w, wpAnyF P md ops Q S m fuel (listed.setIfInBounds i true) a w → K' a w) → if Region.wanted o (yielded ops a.tmps) = true then Oper.wp P o a w K' Q else K' (a.put o.dst undef) w) : wpAnyF P md ops Q S m (fuel + 1) listed a w :=
  ⟨fun h0 => (by rw [hr] at h0; cases h0), by
    rw [hr]
    intro j hj
    simp at hj
    subst hj
    exact wpOp_step ho (fun K' hK => h K' (fun a w hW => hK a w ⟨.inl hl, hW⟩))⟩
theorem wpAnyF_done {listed : Array Bool} {a : Act} {w : World} (hr : Region.ready md ops listed = []) (h : Q .normal a w) : ∀ fuel, wpAnyF P md ops Q S m fuel listed a w
  | 0 => ⟨hr, h⟩
  | _ + 1 => ⟨fun _ => h, by rw [hr]; simp⟩
theorem wp_region_mark {id : Nat} {a : Act} {w : World} (m : Nat) (hm : P.follows .mixedOrders = true) (hS : S w.drew)
    (h : S w.drew → wpAnyF P .any ops Q S m ops.size (Array.replicate ops.size false) a w.drew) : (Code.region id ops true).wp P Q a w :=
  wp_region_any hm (wpAny_of_F _ _ _ _ (h hS))
end
end Go.Pax
