/- Contracts of the program's functions, one plain Lean function for each, written by a program of this session's over the kit's print; Lean checks every line. -/
import Derived.Test.YtbljhjgmpldncaaPR0
import Derived.Shelf.SlSortCmp.WholeK
namespace Go.Proofs.Ytbljhjgmpldncaa.PR
open Go.RowKit Go.Proofs.YtbljhjgmpldncaaW.PrintWords Go.Proofs.YtbljhjgmpldncaaW.PrintLast Go.Proofs.YtbljhjgmpldncaaW.PrintMore
attribute [local go_sem] max2_int min2_int max_two min_two max_three min_three max_four min_four   -- for this text's walks alone
set_option linter.unusedVariables false
set_option linter.unusedSimpArgs false

/-! ### rows of elements that are told by their cells alone -/
/-- The kind says of an element: these k cells, and nothing of memory. -/
structure Plain {α : Type} (d : Kd α) (k : Nat) (enc : α → List Value) : Prop where
  sz : d.sz = k
  len : ∀ x, (enc x).length = k
  one : ∀ x, ∀ u ∈ enc x, u.oneCell' = true
  M : ∀ (w : World) (base : Nat) (ok : Nat → Prop) (x : α) (cs : List Value), d.M w base ok x cs ↔ cs = enc x
  K : ∀ (w : World) (x : α) (cs : List Value), d.K w x cs ↔ cs = enc x
section
open Go.Sort
variable {α : Type} {d : Kd α} {k : Nat} {enc : α → List Value}
theorem reps_flat {R : α → List Value → Prop} (hR : ∀ x cs, R x cs ↔ cs = enc x) : ∀ (xs : List α) (cs : List Value), Reps R k xs cs → cs = xs.flatMap enc
  | [], cs, h => by
    have := h.1
    simp at this
    simp [this]
  | x :: xs, cs, h => by
    have h0 := (hR _ _).1 (h.2 0 x rfl)
    simp only [Nat.zero_mul, List.drop_zero] at h0
    have hr : Reps R k xs (cs.drop k) := by
      refine ⟨by rw [List.length_drop, h.1, List.length_cons, Nat.succ_mul]; omega, fun j p hp => ?_⟩
      have := h.2 (j + 1) p (by simpa using hp)
      rw [List.drop_drop]
      rwa [show (j + 1) * k = k + j * k by rw [Nat.succ_mul]; omega] at this
    rw [List.flatMap_cons, ← reps_flat hR xs _ hr, ← h0, List.take_append_drop]
theorem reps_of_flat {R : α → List Value → Prop} (hR : ∀ x cs, R x cs ↔ cs = enc x) (hk : ∀ x, (enc x).length = k) : ∀ (xs : List α), Reps R k xs (xs.flatMap enc)
  | [] => by simpa using Reps.none R k
  | x :: xs => by
    have h := reps_of_flat hR hk xs
    refine ⟨by rw [List.flatMap_cons, List.length_append, hk, h.1, List.length_cons, Nat.succ_mul]; omega, fun j p hp => ?_⟩
    cases j with
    | zero =>
      obtain rfl : x = p := by simpa using hp
      rw [hR, List.flatMap_cons, Nat.zero_mul, List.drop_zero, List.take_append_of_le_length (by rw [hk]; omega), List.take_of_length_le (by rw [hk]; omega)]
    | succ j =>
      have := h.2 j p (by simpa using hp)
      rwa [List.flatMap_cons, show (j + 1) * k = (enc x).length + j * k by rw [hk, Nat.succ_mul]; omega, ← List.drop_drop, List.drop_left]
theorem Plain.own (P : Plain d k enc) {e : Nat} {W : World} {base : Nat} {ok : Nat → Prop} {v : Value} {xs : List α} (h : d.R e W base ok v xs) : W.ownsRow base e k v xs.length (xs.flatMap enc) := by
  obtain ⟨_, inner, ho, hr⟩ := h
  rw [P.sz] at ho hr
  rwa [reps_flat (fun x cs => P.M _ _ _ x cs) xs inner hr] at ho
theorem Plain.ofOwn (P : Plain d k enc) {e : Nat} {W : World} {base : Nat} {ok : Nat → Prop} {v : Value} {xs : List α} (hok : ∀ b, v.ownBlock = some b → ok b) (h : W.ownsRow base e k v xs.length (xs.flatMap enc)) : d.R e W base ok v xs := by
  refine ⟨hok, _, by rw [P.sz]; exact h, ?_⟩
  rw [P.sz]
  exact reps_of_flat (fun x cs => P.M _ _ _ x cs) P.len xs
theorem flat_get (hk : ∀ x, (enc x).length = k) [Inhabited α] : ∀ (xs : List α) (t : Nat), t < xs.length * k → (xs.flatMap enc)[t]! = (enc xs[t / k]!)[t % k]!
  | [], t, h => by simp at h
  | x :: xs, t, h => by
    have k0 : 0 < k := by
      rcases Nat.eq_zero_or_pos k with h0 | h0
      · subst h0; simp at h
      · exact h0
    rw [List.flatMap_cons]
    by_cases ht : t < k
    · rw [Nat.div_eq_of_lt ht, Nat.mod_eq_of_lt ht, List.getElem!_eq_getElem?_getD, List.getElem?_append_left (by rw [hk]; exact ht)]
      simp [List.getElem!_eq_getElem?_getD]
    · have h1 : t / k = (t - k) / k + 1 := by
        rw [Nat.div_eq_sub_div k0 (by omega)]
      rw [h1, Nat.mod_eq_sub_mod (by omega), List.getElem!_eq_getElem?_getD, List.getElem?_append_right (by rw [hk]; omega), hk]
      have := flat_get hk xs (t - k) (by rw [List.length_cons, Nat.succ_mul] at h; omega)
      rw [List.getElem!_eq_getElem?_getD] at this
      rw [this]
      simp
theorem flatK_list (hk : ∀ x, (enc x).length = k) [Inhabited α] (xs : List α) : (flatK enc k xs.toArray).toList = xs.flatMap enc := by
  have hl : (xs.flatMap enc).length = xs.length * k := by
    have := (reps_of_flat (R := fun x cs => cs = enc x) (fun _ _ => Iff.rfl) hk xs).1
    exact this
  apply List.ext_getElem
  · simp [hl]
  · intro t h1 h2
    have ht : t < xs.length * k := by simpa [hl] using h2
    have := flat_get hk xs t ht
    rw [getElem!_pos _ t h2] at this
    rw [this, Array.getElem_toList, ← getElem!_pos (flatK enc k xs.toArray) t (by simpa using ht), get_flatK _ _ _ _ (by simpa using ht)]
    simp
theorem Plain.holds (P : Plain d k enc) [Inhabited α] {e : Nat} {W : World} {base : Nat} {ok : Nat → Prop} {g n c : Nat} {xs : List α} (h : d.R e W base ok (.slice (some ⟨g, 0, none⟩) n c) xs) : HoldsK enc k W g 0 xs.toArray ∧ g < W.heap.size ∧ base ≤ g := by
  have ho := P.own h
  rcases ho.2 with ⟨h0, _⟩ | ⟨g', c', cur, hv, hb, hh, h1, h2, h3, h4⟩
  · cases h0
  · injection hv with hv1 hv2 hv3
    injection hv1 with hv1
    injection hv1 with hv1
    subst hv1
    refine ⟨fun j hj => ?_, (Array.getElem?_eq_some_iff.1 hh).1, hb⟩
    have hj' : j < xs.length * k := by simpa using hj
    refine ⟨?_, by simp [World.frozen?, hh]⟩
    have hk2 : (cur.toList.take (xs.length * k))[j]? = (xs.flatMap enc)[j]? := by rw [h4]
    rw [List.getElem?_take_of_lt hj', ← flatK_list P.len xs] at hk2
    simp only [World.cell?, hh, Nat.zero_add, Option.isSome_none, Bool.false_eq_true, if_false, id]
    rw [← Array.getElem?_toList, hk2, Array.getElem?_toList, getElem!_pos _ j hj, Array.getElem?_eq_getElem hj]
theorem sortWorldK_heap (W : World) (g n : Nat) (dk : Array α) [Inhabited α] (os : Array Obj) {cur : Array Value} {e : TypeId} {fr : Nat × Nat} (hb : W.heap[g]? = some (.cells cur e fr)) :
    (sortWorldK enc k W g 0 n dk os).heap[g]? = some (.cells (putCells id 0 (flatK enc k dk) cur) e fr) := by
  have hg : g < W.heap.size := (Array.getElem?_eq_some_iff.1 hb).1
  unfold sortWorldK putRowK
  rw [heap_grow_old _ _ (by simpa using hg)]
  simp [putRow, mapBlock, Sort.ahead, Array.getElem?_modify, hb, onCells]
theorem sortWorldK_grown (W : World) (g n : Nat) (dk : Array α) [Inhabited α] (os : Array Obj) : W.grownBy (sortWorldK enc k W g 0 n dk os) (some g) := by
  refine ⟨rfl, rfl, rfl, by simp [sortWorldK, putRowK, grow, putRow, mapBlock, Sort.ahead], fun j hj hne => ?_⟩
  unfold sortWorldK putRowK
  rw [heap_grow_old _ _ (by simpa using hj)]
  have : g ≠ j := fun e => hne (by rw [e])
  simp [putRow, mapBlock, Sort.ahead, Array.getElem?_modify, this]
/-- Behind the sort: the same slice owns the sorted list. -/
theorem Plain.sorted (P : Plain d k enc) [Inhabited α] {e : Nat} {W : World} {base : Nat} {ok : Nat → Prop} {g n c : Nat} {xs ys : List α} (h : d.R e W base ok (.slice (some ⟨g, 0, none⟩) n c) xs) (hl : ys.length = xs.length) (m : Nat) (os : Array Obj) :
    d.R e (sortWorldK enc k W g 0 m ys.toArray os) base ok (.slice (some ⟨g, 0, none⟩) n c) ys := by
  refine P.ofOwn h.1 ?_
  have ho := P.own h
  have hlen : (ys.flatMap enc).length = ys.length * k := (reps_of_flat (R := fun x cs => cs = enc x) (fun _ _ => Iff.rfl) P.len ys).1
  refine ⟨hlen, ?_⟩
  rcases ho.2 with ⟨h0, _⟩ | ⟨g', c', cur, hv, hb, hh, h1, h2, h3, h4⟩
  · cases h0
  · injection hv with hv1 hv2 hv3
    injection hv1 with hv1
    injection hv1 with hv1
    subst hv1
    subst hv2
    subst hv3
    refine .inr ⟨g, c, _, by rw [hl], hb, sortWorldK_heap W g m ys.toArray os hh, by omega, h2, by simp [putCells, h3], ?_⟩
    have hfit : ys.length * k ≤ cur.size := by rw [h3]; exact Nat.mul_le_mul_right _ (by omega)
    rw [← flatK_list P.len ys]
    apply List.ext_getElem?
    intro j
    by_cases hj : j < ys.length * k
    · rw [List.getElem?_take_of_lt hj, Array.getElem?_toList, Array.getElem?_toList]
      have hj2 : j < (flatK enc k ys.toArray).size := by simpa using hj
      rw [Array.getElem?_eq_getElem hj2]
      have hj3 : j < cur.size := by omega
      simp only [putCells, Array.getElem?_mapIdx, Array.getElem?_eq_getElem hj3, Option.map_some, Nat.zero_le, true_and, Nat.zero_add, Nat.sub_zero, id, if_pos hj2, getElem!_pos (flatK enc k ys.toArray) j hj2]
    · rw [List.getElem?_take_eq_none (by omega), List.getElem?_eq_none (by simp; omega)]
end

end Go.Proofs.Ytbljhjgmpldncaa.PR
