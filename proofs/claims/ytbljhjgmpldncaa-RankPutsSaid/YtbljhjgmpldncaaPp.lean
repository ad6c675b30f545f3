/- Plain laws over what the printed functions come to. -/
import Derived.Test.YtbljhjgmpldncaaPR0
import Derived.Test.YtbljhjgmpldncaaPR11
import Derived.Test.YtbljhjgmpldncaaPR12
import Derived.Test.YtbljhjgmpldncaaPR15
import Derived.Test.YtbljhjgmpldncaaPR16
import Derived.Test.YtbljhjgmpldncaaPR17
import Derived.Test.YtbljhjgmpldncaaPR19
import Derived.Test.YtbljhjgmpldncaaPR21
import Derived.Test.YtbljhjgmpldncaaPR22
import Derived.Test.YtbljhjgmpldncaaPR24
import Derived.Test.YtbljhjgmpldncaaPR25
import Derived.Test.YtbljhjgmpldncaaPR7
import Derived.Test.YtbljhjgmpldncaaPR8
import Derived.WalkKit
import Derived.ProofKit
import Derived.OpenShut
import Derived.Deep.Slices
import Derived.Deep.Strs
import Derived.Lib.SmallJoins
import Derived.ChangeSame
namespace Go.Proofs.Ytbljhjgmpldncaa.PR
open Go.RowKit Go.Proofs.YtbljhjgmpldncaaW.PrintWords Go.Proofs.YtbljhjgmpldncaaW.PrintLast Go.Proofs.YtbljhjgmpldncaaW.PrintMore
set_option linter.unusedVariables false
set_option linter.unusedSimpArgs false
/-! ### what the keys' functions come to: plain lists -/
theorem keyLt_irrefl (x : S24) : keyLt x x = false := by simp [keyLt]
theorem keyLt_trans {x y z : S24} (h1 : keyLt x y = true) (h2 : keyLt y z = true) : keyLt x z = true := by simp [keyLt] at *; omega
theorem keyLt_asymm {x y : S24} (h1 : keyLt x y = true) : keyLt y x = false := by simp [keyLt] at *; omega
theorem keyLt_apart {x y : S24} (h1 : keyLt x y = false) (h2 : keyLt y x = false) : x = y := cmp_apart x y (by rw [lt_key]; exact h1) (by rw [lt_key]; exact h2)
theorem keyLe_trans (x y z : S24) (h1 : keyLe x y = true) (h2 : keyLe y z = true) : keyLe x z = true := by simp [keyLe, keyLt] at *; omega
theorem keyLe_total (x y : S24) : (keyLe x y || keyLe y x) = true := by
  rw [Bool.or_eq_true]
  simp [keyLe, keyLt]
  omega
theorem keyLe_anti {x y : S24} (h1 : keyLe x y = true) (h2 : keyLe y x = true) : x = y := keyLt_apart (by simpa [keyLe] using h2) (by simpa [keyLe] using h1)
theorem sortKeys_sorted (l : List S24) : (sortKeys l).Pairwise (fun a b => keyLe a b = true) := List.pairwise_mergeSort keyLe_trans keyLe_total l
theorem sortKeys_perm (l : List S24) : (sortKeys l).Perm l := List.mergeSort_perm l keyLe
theorem sortKeys_eq {l m : List S24} (hs : m.Pairwise (fun a b => keyLe a b = true)) (hp : m.Perm l) : sortKeys l = m :=
  List.Perm.eq_of_pairwise (le := fun a b => keyLe a b = true) (fun _ _ _ _ h1 h2 => keyLe_anti h1 h2) (sortKeys_sorted l) hs ((sortKeys_perm l).trans hp.symm)
theorem rd_at (l : List S24) (i : Nat) (h : i < l.length) : rd_T24 l (i : Int) = l[i] := by simp [rd_T24, List.getD_eq_getElem?_getD, List.getElem?_eq_getElem h]
theorem rd_atI (l : List S24) (x : Int) (h0 : 0 ≤ x) (h : x < l.length) : rd_T24 l x = l[x.toNat]'(by omega) := by simp [rd_T24, List.getD_eq_getElem?_getD, List.getElem?_eq_getElem (show x.toNat < l.length by omega)]
theorem eta24 (x : S24) : (⟨x.f0, x.f1, x.f2⟩ : S24) = x := rfl
theorem w64 (x : Int) (h0 : -9223372036854775808 ≤ x) (h1 : x ≤ 9223372036854775807) : wrap64 x = x := by unfold wrap64; omega
/-! #### have two one ID -/
/-- No ID twice. -/
def ids (l : List S24) : List Int := l.map S24.f2
theorem twiceB_iff (l : List S24) : ∀ seen : List Int, twiceB seen l = false ↔ (ids l).Nodup ∧ ∀ x ∈ ids l, x ∉ seen := by
  induction l with
  | nil => intro seen; simp [twiceB, ids]
  | cons x l ih =>
    intro seen
    simp only [twiceB, ids, List.map_cons, List.nodup_cons, List.mem_cons]
    by_cases hx : seen.contains x.f2 = true
    · rw [if_pos hx]
      constructor
      · intro h; cases h
      · rintro ⟨_, h⟩
        exact absurd (by simpa using hx) (h x.f2 (.inl rfl))
    · rw [if_neg hx, ih]
      have hx' : x.f2 ∉ seen := by simpa using hx
      simp only [ids, List.mem_cons, not_or]
      constructor
      · rintro ⟨h1, h2⟩
        exact ⟨⟨fun hm => (h2 _ hm).1 rfl, h1⟩, fun y hy => hy.elim (fun e => e ▸ hx') (fun hm => (h2 y hm).2)⟩
      · rintro ⟨⟨h1, h2⟩, h3⟩
        exact ⟨h2, fun y hm => ⟨fun e => h1 (e ▸ hm), h3 y (.inr hm)⟩⟩
theorem twice_false (l : List S24) : twiceB [] l = false ↔ (ids l).Nodup := by
  rw [twiceB_iff]
  simp
theorem twice_perm {l m : List S24} (h : l.Perm m) : twiceB [] l = twiceB [] m := by
  have h1 : twiceB [] l = false ↔ twiceB [] m = false := by
    rw [twice_false, twice_false]
    exact (h.map S24.f2).nodup_iff
  cases hl : twiceB [] l <;> cases hm : twiceB [] m <;> simp_all
/-- The ID at a place. -/
def idAt (l : List S24) (q : Nat) : Int := (l.getD q z24).f2
theorem idAt_at (l : List S24) (q : Nat) : (rd_T24 l (q : Int)).f2 = idAt l q := by simp [rd_T24, idAt]
open Classical in
theorem refTwice_l1 (l : List S24) (i : Nat) (hi : i < l.length) (hm : l.length ≤ 9223372036854775806) (r : Bool) (hr : Ev (fun k => gangerref03_Twice.l0 k l ((i : Int) + 1)) r) :
    ∀ (d j : Nat), i - j = d → j ≤ i → Ev (fun k => gangerref03_Twice.l1 k l i j) (if ∃ q, q < i ∧ j ≤ q ∧ idAt l q = idAt l i then true else r) := by
  intro d
  induction d with
  | zero =>
    intro j hd hj
    have : j = i := by omega
    subst this
    rw [if_neg (by rintro ⟨q, h1, h2, _⟩; omega)]
    refine Ev.step (f := fun k => gangerref03_Twice.l0 k l ((j : Int) + 1)) (fun k => ?_) hr
    simp only [gangerref03_Twice.l1]
    rw [if_neg (by omega), w64 _ (by omega) (by omega)]
  | succ d ih =>
    intro j hd hj
    have hlt : j < i := by omega
    have h1 := ih (j + 1) (by omega) (by omega)
    have stp : ∀ k, gangerref03_Twice.l1 (k + 1) l i j = if idAt l j = idAt l i then some true else gangerref03_Twice.l1 k l i ((j + 1 : Nat) : Int) := by
      intro k
      simp only [gangerref03_Twice.l1]
      rw [if_pos (by omega), if_pos (by omega), if_pos (by omega), if_pos (by omega), if_pos (by omega), w64 _ (by omega) (by omega), idAt_at, idAt_at]
      rfl
    by_cases he : idAt l j = idAt l i
    · rw [if_pos ⟨j, hlt, Nat.le_refl _, he⟩]
      exact Ev.step (f := fun _ => some true) (fun k => by rw [stp, if_pos he]) (Ev.now _)
    · have hiff : (∃ q, q < i ∧ j ≤ q ∧ idAt l q = idAt l i) ↔ (∃ q, q < i ∧ j + 1 ≤ q ∧ idAt l q = idAt l i) := by
        constructor
        · rintro ⟨q, hq, h2, h3⟩
          refine ⟨q, hq, ?_, h3⟩
          rcases Nat.eq_or_lt_of_le h2 with h4 | h4
          · subst h4; exact absurd h3 he
          · exact h4
        · rintro ⟨q, hq, h2, h3⟩
          exact ⟨q, hq, by omega, h3⟩
      rw [show (if ∃ q, q < i ∧ j ≤ q ∧ idAt l q = idAt l i then true else r) = (if ∃ q, q < i ∧ j + 1 ≤ q ∧ idAt l q = idAt l i then true else r) by simp only [hiff]]
      exact Ev.step (g := fun k => gangerref03_Twice.l1 k l i j) (f := fun k => gangerref03_Twice.l1 k l i ((j + 1 : Nat) : Int)) (fun k => by rw [stp, if_neg he]) h1
open Classical in
theorem refTwice_l0 (l : List S24) (hm : l.length ≤ 9223372036854775806) :
    ∀ (d i : Nat), l.length - i = d → i ≤ l.length → Ev (fun k => gangerref03_Twice.l0 k l i) (decide (∃ p, i ≤ p ∧ p < l.length ∧ ∃ q, q < p ∧ idAt l q = idAt l p)) := by
  intro d
  induction d with
  | zero =>
    intro i hd hi
    rw [decide_eq_false (by rintro ⟨p, h1, h2, _⟩; omega)]
    exact Ev.step (f := fun _ => some false) (fun k => by simp only [gangerref03_Twice.l0]; rw [if_neg (by omega)]) (Ev.now _)
  | succ d ih =>
    intro i hd hi
    have h1 := ih (i + 1) (by omega) (by omega)
    have h2 := refTwice_l1 l i (by omega) hm _ h1 i 0 rfl (Nat.zero_le _)
    refine Ev.step (f := fun k => gangerref03_Twice.l1 k l i ((0 : Nat) : Int)) (fun k => by simp only [gangerref03_Twice.l0]; rw [if_pos (by omega)]; rfl) ?_
    have e : decide (∃ p, i ≤ p ∧ p < l.length ∧ ∃ q, q < p ∧ idAt l q = idAt l p) = (if ∃ q, q < i ∧ 0 ≤ q ∧ idAt l q = idAt l i then true else decide (∃ p, i + 1 ≤ p ∧ p < l.length ∧ ∃ q, q < p ∧ idAt l q = idAt l p)) := by
      by_cases hc : ∃ q, q < i ∧ 0 ≤ q ∧ idAt l q = idAt l i
      · rw [if_pos hc]
        obtain ⟨q, hq, _, he⟩ := hc
        exact decide_eq_true ⟨i, Nat.le_refl _, by omega, q, hq, he⟩
      · rw [if_neg hc]
        apply decide_eq_decide.2
        constructor
        · rintro ⟨p, h3, h4, q, hq, he⟩
          rcases Nat.eq_or_lt_of_le h3 with h5 | h5
          · subst h5; exact absurd ⟨q, hq, Nat.zero_le _, he⟩ hc
          · exact ⟨p, h5, h4, q, hq, he⟩
        · rintro ⟨p, h3, h4, q, hq, he⟩
          exact ⟨p, by omega, h4, q, hq, he⟩
    rw [e]
    exact h2
theorem nodup_ids (l : List S24) : (ids l).Nodup ↔ ¬ ∃ p, p < l.length ∧ ∃ q, q < p ∧ idAt l q = idAt l p := by
  unfold ids
  rw [List.nodup_iff_pairwise_ne, List.pairwise_iff_getElem]
  simp only [List.length_map, List.getElem_map]
  constructor
  · rintro h ⟨p, hp, q, hq, he⟩
    refine h q p (by omega) hp hq ?_
    simpa [idAt, List.getD_eq_getElem?_getD, List.getElem?_eq_getElem hp, List.getElem?_eq_getElem (show q < l.length by omega)] using he
  · intro h i j hi hj hij he
    refine h ⟨j, hj, i, hij, ?_⟩
    simpa [idAt, List.getD_eq_getElem?_getD, List.getElem?_eq_getElem hi, List.getElem?_eq_getElem hj] using he
open Classical in
theorem refTwice_ev (l : List S24) (hm : l.length ≤ 9223372036854775806) : Ev (fun k => gangerref03_Twice.f k l) (twiceB [] l) := by
  have h := refTwice_l0 l hm l.length 0 rfl (Nat.zero_le _)
  have e : twiceB [] l = decide (∃ p, 0 ≤ p ∧ p < l.length ∧ ∃ q, q < p ∧ idAt l q = idAt l p) := by
    cases hb : twiceB [] l with
    | false =>
      rw [twice_false, nodup_ids] at hb
      symm
      exact decide_eq_false (by rintro ⟨p, _, h⟩; exact hb ⟨p, h⟩)
    | true =>
      have hn : ¬ (ids l).Nodup := by rw [← twice_false, hb]; simp
      rw [nodup_ids, Classical.not_not] at hn
      symm
      obtain ⟨p, hp⟩ := hn
      exact decide_eq_true ⟨p, Nat.zero_le _, hp⟩
  rw [e]
  exact h

/-! #### are they ranked -/
theorem ite_iff {α : Type} {p q : Prop} [Decidable p] [Decidable q] (h : p ↔ q) (a b : α) : (if p then a else b) = if q then a else b := by
  by_cases hp : p
  · rw [if_pos hp, if_pos (h.1 hp)]
  · rw [if_neg hp, if_neg (fun hq => hp (h.2 hq))]
theorem refLess (x y : S24) : gangerref03_Less.f x.f0 x.f1 x.f2 y.f0 y.f1 y.f2 = some (keyLt x y) := by
  unfold gangerref03_Less.f keyLt
  by_cases h0 : x.f0 = y.f0
  · rw [if_pos h0]
    by_cases h1 : x.f1 = y.f1
    · rw [if_pos h1]
      simp [h0, h1]
    · rw [if_neg h1]
      simp [h0, h1]
  · rw [if_neg h0]
    simp [h0]
theorem less_ev (x y : S24) : Ev (fun k => rank_Less.f k x.f0 x.f1 x.f2 y.f0 y.f1 y.f2) (keyLt x y) := by
  refine ⟨4, fun k hk => ?_⟩
  obtain ⟨j, rfl⟩ : ∃ j, k = j + 4 := ⟨k - 4, by omega⟩
  show rank_Less.f (j + 4) _ _ _ _ _ _ = _
  unfold rank_Less.f
  rw [compare_key, Option.bind_some, cmpKey_neg]
/-- Each comes ahead of the next one. -/
def adjLt (l : List S24) : Prop := ∀ j : Nat, j + 1 < l.length → keyLt (rd_T24 l j) (rd_T24 l ((j + 1 : Nat) : Int)) = true
/-- No one comes ahead of the one before. -/
def adjLe (l : List S24) : Prop := ∀ j : Nat, j + 1 < l.length → keyLt (rd_T24 l ((j + 1 : Nat) : Int)) (rd_T24 l j) = false
theorem adj_iff (l : List S24) (hn : (ids l).Nodup) : adjLe l ↔ adjLt l := by
  have hne : ∀ j : Nat, j + 1 < l.length → (rd_T24 l j).f2 ≠ (rd_T24 l ((j + 1 : Nat) : Int)).f2 := by
    intro j hj he
    rw [nodup_ids] at hn
    exact hn ⟨j + 1, hj, j, by omega, by rw [← idAt_at, ← idAt_at]; exact he⟩
  constructor
  · intro h j hj
    cases hb : keyLt (rd_T24 l j) (rd_T24 l ((j + 1 : Nat) : Int)) with
    | true => rfl
    | false => exact absurd (congrArg S24.f2 (keyLt_apart hb (h j hj))) (hne j hj)
  · intro h j hj
    exact keyLt_asymm (h j hj)
open Classical in
/-- What Check says. -/
noncomputable def checkK (l : List S24) : Int := if twiceB [] l = true then 30 else if adjLt l then 0 else 2
open Classical in
theorem refCheck_l0 (l : List S24) (hm : l.length ≤ 9223372036854775806) :
    ∀ (d i : Nat), l.length - i = d → 1 ≤ i → i ≤ l.length ∨ i = 1 → Ev (fun k => gangerref03_Check.l0 k l i) (if ∀ j : Nat, i ≤ j + 1 → j + 1 < l.length → keyLt (rd_T24 l j) (rd_T24 l ((j + 1 : Nat) : Int)) = true then 0 else 2) := by
  intro d
  induction d with
  | zero =>
    intro i hd h1 hi
    rw [if_pos (fun j h2 h3 => by omega)]
    exact Ev.step (f := fun _ => some 0) (fun k => by simp only [gangerref03_Check.l0]; rw [if_neg (by omega)]) (Ev.now _)
  | succ d ih =>
    intro i hd h1 hi
    have hlt : i < l.length := by omega
    obtain ⟨j, rfl⟩ : ∃ j, i = j + 1 := ⟨i - 1, by omega⟩
    have stp : ∀ k, gangerref03_Check.l0 (k + 1) l ((j + 1 : Nat) : Int) = if keyLt (rd_T24 l j) (rd_T24 l ((j + 1 : Nat) : Int)) = true then gangerref03_Check.l0 k l ((j + 1 + 1 : Nat) : Int) else some 2 := by
      intro k
      simp only [gangerref03_Check.l0]
      rw [w64 _ (by omega) (by omega), w64 _ (by omega) (by omega), show (((j + 1 : Nat) : Int) - 1) = (j : Int) by omega, if_pos (by omega), if_pos (by omega), if_pos (by omega), if_pos (by omega), refLess, Option.bind_some]
      rfl
    have h2 := ih (j + 1 + 1) (by omega) (by omega) (by omega)
    cases hb : keyLt (rd_T24 l j) (rd_T24 l ((j + 1 : Nat) : Int)) with
    | true =>
      refine Ev.step (g := fun k => gangerref03_Check.l0 k l ((j + 1 : Nat) : Int)) (f := fun k => gangerref03_Check.l0 k l ((j + 1 + 1 : Nat) : Int)) (fun k => by rw [stp, if_pos hb]) ?_
      have e : (∀ q : Nat, j + 1 ≤ q + 1 → q + 1 < l.length → keyLt (rd_T24 l q) (rd_T24 l ((q + 1 : Nat) : Int)) = true) ↔ (∀ q : Nat, j + 1 + 1 ≤ q + 1 → q + 1 < l.length → keyLt (rd_T24 l q) (rd_T24 l ((q + 1 : Nat) : Int)) = true) := by
        constructor
        · intro h q h3 h4
          exact h q (by omega) h4
        · intro h q h3 h4
          rcases Nat.eq_or_lt_of_le h3 with h5 | h5
          · obtain rfl : j = q := by omega
            exact hb
          · exact h q h5 h4
      rw [ite_iff e]
      exact h2
    | false =>
      refine Ev.step (g := fun k => gangerref03_Check.l0 k l ((j + 1 : Nat) : Int)) (f := fun k => some 2) (fun k => by rw [stp, if_neg (by rw [hb]; simp)]) ?_
      rw [if_neg (fun h => by rw [h j (Nat.le_refl _) hlt] at hb; cases hb)]
      exact Ev.now _
open Classical in
theorem refCheck_ev (l : List S24) (hm : l.length ≤ 9223372036854775806) : Ev (fun k => gangerref03_Check.f k l) (checkK l) := by
  unfold gangerref03_Check.f checkK
  refine Ev.bind (refTwice_ev l hm) ?_
  cases twiceB [] l with
  | true =>
    simp only [if_true]
    exact Ev.now _
  | false =>
    have h := refCheck_l0 l hm (l.length - 1) 1 rfl (Nat.le_refl _) (.inr rfl)
    simp only [Bool.false_eq_true, if_false]
    have e : adjLt l ↔ (∀ j : Nat, 1 ≤ j + 1 → j + 1 < l.length → keyLt (rd_T24 l j) (rd_T24 l ((j + 1 : Nat) : Int)) = true) := ⟨fun h j _ => h j, fun h j => h j (by omega)⟩
    rw [ite_iff e]
    exact h
open Classical in
theorem sorted_l0 (l : List S24) (hm : l.length ≤ 9223372036854775806) :
    ∀ (i : Nat), i < l.length ∨ i = 0 → Ev (fun k => api_Key_40.l0 k l i) (decide (∀ j : Nat, j + 1 ≤ i → keyLt (rd_T24 l ((j + 1 : Nat) : Int)) (rd_T24 l j) = false)) := by
  intro i
  induction i with
  | zero =>
    intro _
    rw [decide_eq_true (fun j h => by omega)]
    exact Ev.step (f := fun _ => some true) (fun k => by simp only [api_Key_40.l0]; rw [if_neg (by omega)]) (Ev.now _)
  | succ i ih =>
    intro hi
    have hlt : i + 1 < l.length := by omega
    have h1 := ih (by omega)
    have hc : ∀ k, 4 ≤ k → api_Key_40.l0 (k + 1) l ((i + 1 : Nat) : Int) = if keyLt (rd_T24 l ((i + 1 : Nat) : Int)) (rd_T24 l i) = true then some false else api_Key_40.l0 k l i := by
      intro k hk
      obtain ⟨q, rfl⟩ : ∃ q, k = q + 4 := ⟨k - 4, by omega⟩
      simp only [api_Key_40.l0]
      rw [w64 _ (by omega) (by omega), show (((i + 1 : Nat) : Int) - 1) = (i : Int) by omega, if_pos (by omega), if_pos (by omega), if_pos (by omega), if_pos (by omega), if_pos (by omega), compare_key, Option.bind_some, ← cmpKey_neg]
      simp only [decide_eq_true_eq]
    cases hb : keyLt (rd_T24 l ((i + 1 : Nat) : Int)) (rd_T24 l i) with
    | true =>
      rw [decide_eq_false (fun h => by rw [h i (Nat.le_refl _)] at hb; cases hb)]
      refine ⟨5, fun k hk => ?_⟩
      obtain ⟨q, rfl⟩ : ∃ q, k = q + 1 := ⟨k - 1, by omega⟩
      show api_Key_40.l0 (q + 1) l ((i + 1 : Nat) : Int) = _
      rw [hc q (by omega), if_pos hb]
    | false =>
      have e : decide (∀ j : Nat, j + 1 ≤ i + 1 → keyLt (rd_T24 l ((j + 1 : Nat) : Int)) (rd_T24 l j) = false) = decide (∀ j : Nat, j + 1 ≤ i → keyLt (rd_T24 l ((j + 1 : Nat) : Int)) (rd_T24 l j) = false) := by
        apply decide_eq_decide.2
        constructor
        · intro h j h2
          exact h j (by omega)
        · intro h j h2
          rcases Nat.eq_or_lt_of_le h2 with h5 | h5
          · obtain rfl : j = i := by omega
            exact hb
          · exact h j (by omega)
      rw [e]
      obtain ⟨K, hK⟩ := h1
      refine ⟨K + 5, fun k hk => ?_⟩
      obtain ⟨q, rfl⟩ : ∃ q, k = q + 1 := ⟨k - 1, by omega⟩
      show api_Key_40.l0 (q + 1) l ((i + 1 : Nat) : Int) = _
      rw [hc q (by omega), if_neg (by rw [hb]; simp)]
      exact hK q (by omega)
open Classical in
theorem sorted_ev (l : List S24) (hm : l.length ≤ 9223372036854775806) : Ev (fun k => api_Key_40.f k l) (decide (adjLe l)) := by
  unfold api_Key_40.f
  rcases Nat.eq_zero_or_pos l.length with h0 | h0
  · rw [h0, w64 _ (by omega) (by omega)]
    have : decide (adjLe l) = true := decide_eq_true (fun j h => by omega)
    rw [this]
    exact Ev.step (f := fun _ => some true) (fun k => by simp only [api_Key_40.l0]; rw [if_neg (by omega)]) (Ev.now _)
  · rw [w64 _ (by omega) (by omega), show ((l.length : Int) - 1) = ((l.length - 1 : Nat) : Int) by omega]
    have h := sorted_l0 l hm (l.length - 1) (by omega)
    have e : decide (adjLe l) = decide (∀ j : Nat, j + 1 ≤ l.length - 1 → keyLt (rd_T24 l ((j + 1 : Nat) : Int)) (rd_T24 l j) = false) :=
      decide_eq_decide.2 ⟨fun h j h2 => h j (by omega), fun h j h2 => h j (by omega)⟩
    rw [e]
    exact h
open Classical in
theorem check_ev (l : List S24) (hm : l.length ≤ 9223372036854775806) (hi : idsOk l) : Ev (fun k => rank_Check.f k l) (checkK l) := by
  unfold rank_Check.f checkK
  refine Ev.bind (g := fun _ => rank_twice.f l) ⟨0, fun _ _ => by unfold rank_twice.f; rw [if_pos hi]⟩ ?_
  cases hb : twiceB [] l with
  | true =>
    simp only [if_true]
    exact Ev.now _
  | false =>
    simp only [Bool.false_eq_true, if_false]
    refine Ev.bind (sorted_ev l hm) ?_
    have e := adj_iff l ((twice_false l).1 hb)
    by_cases ha : adjLt l
    · rw [if_pos ha, decide_eq_true (e.2 ha)]
      exact Ev.now _
    · rw [if_neg ha, decide_eq_false (fun h => ha (e.1 h))]
      exact Ev.now _

/-! #### sorted, merged, the same -/
theorem twice_ev (l : List S24) (hi : idsOk l) : rank_twice.f l = some (twiceB [] l) := by unfold rank_twice.f; rw [if_pos hi]
theorem rank_Sort_eq (l : List S24) (hi : idsOk l) (hl : l.length < 5864062014805) : rank_Sort.f l = some (if twiceB [] l = true then ([], 30) else (sortKeys l, 0)) := by
  unfold rank_Sort.f
  rw [twice_ev l hi, Option.bind_some, if_pos hl]
  split <;> rfl
/-- A key at its place among ranked ones. -/
def layS (x : S24) : List S24 → List S24
  | [] => [x]
  | y :: l => if keyLt y x = true then y :: layS x l else x :: y :: l
theorem layS_perm (x : S24) : ∀ l, (layS x l).Perm (x :: l)
  | [] => List.Perm.refl _
  | y :: l => by
    unfold layS
    split
    · exact ((layS_perm x l).cons y).trans (List.Perm.swap x y l)
    · exact List.Perm.refl _
theorem layS_sorted (x : S24) : ∀ l, l.Pairwise (fun a b => keyLe a b = true) → (layS x l).Pairwise (fun a b => keyLe a b = true)
  | [], _ => List.pairwise_singleton _ _
  | y :: l, h => by
    rw [List.pairwise_cons] at h
    unfold layS
    split
    · rename_i hlt
      rw [List.pairwise_cons]
      refine ⟨fun z hz => ?_, layS_sorted x l h.2⟩
      rcases List.mem_cons.1 ((layS_perm x l).mem_iff.1 hz) with rfl | hz
      · simp [keyLe, keyLt_asymm hlt]
      · exact h.1 z hz
    · rename_i hlt
      have hxy : keyLe x y = true := by simpa [keyLe] using hlt
      rw [List.pairwise_cons, List.pairwise_cons]
      refine ⟨fun z hz => ?_, h⟩
      rcases List.mem_cons.1 hz with rfl | hz
      · exact hxy
      · exact keyLe_trans _ _ _ hxy (h.1 z hz)
theorem lay_l0 (l : List S24) (x : S24) (hl : l.length < 5000000000000) :
    ∀ (d i : Nat), l.length - i = d → i ≤ l.length → Ev (fun k => gangerref03_lay.l0 k l (l.take i) i x.f0 x.f1 x.f2) (l.take i ++ layS x (l.drop i)) := by
  intro d
  induction d with
  | zero =>
    intro i hd hi
    have hil : i = l.length := by omega
    subst hil
    refine Ev.step (f := fun _ => some (l.take l.length ++ layS x (l.drop l.length))) (fun k => ?_) (Ev.now _)
    simp only [gangerref03_lay.l0]
    rw [if_neg (by omega), if_pos (by simp; omega), Option.bind_some, if_pos (by omega), if_pos (by omega), Option.bind_some, if_pos (by simp; omega)]
    simp [layS]
  | succ d ih =>
    intro i hd hi
    have hlt : i < l.length := by omega
    have h1 := ih (i + 1) (by omega) (by omega)
    have hdrop : l.drop i = rd_T24 l i :: l.drop (i + 1) := by rw [List.drop_eq_getElem_cons hlt, rd_at l i hlt]
    have htake : l.take (i + 1) = l.take i ++ [rd_T24 l i] := by rw [List.take_succ_eq_append_getElem hlt, rd_at l i hlt]
    by_cases hb : keyLt (rd_T24 l i) x = true
    · refine Ev.step (f := fun k => gangerref03_lay.l0 k l (l.take (i + 1)) ((i + 1 : Nat) : Int) x.f0 x.f1 x.f2) (fun k => ?_) ?_
      · simp only [gangerref03_lay.l0]
        rw [if_pos (by omega), if_pos (by omega), refLess, Option.bind_some, if_pos hb, if_pos (by simp; omega), eta24, ← htake, w64 _ (by omega) (by omega)]
        rfl
      · rw [hdrop]
        have e : l.take i ++ layS x (rd_T24 l i :: l.drop (i + 1)) = l.take (i + 1) ++ layS x (l.drop (i + 1)) := by
          rw [htake, layS, if_pos hb, List.append_assoc]
          rfl
        rw [e]
        exact h1
    · refine Ev.step (f := fun _ => some (l.take i ++ layS x (l.drop i))) (fun k => ?_) (Ev.now _)
      simp only [gangerref03_lay.l0]
      rw [if_pos (by omega), if_pos (by omega), refLess, Option.bind_some, if_neg hb, if_pos (by simp; omega), Option.bind_some, if_pos (by omega), Option.bind_some, if_pos (by simp; omega), eta24, Int.toNat_natCast, hdrop, layS, if_neg hb, List.append_assoc]
      rfl
theorem lay_ev (l : List S24) (x : S24) (hl : l.length < 5000000000000) : Ev (fun k => gangerref03_lay.f k l x.f0 x.f1 x.f2) (layS x l) := by
  have h := lay_l0 l x hl l.length 0 rfl (Nat.zero_le _)
  simpa [gangerref03_lay.f] using h
theorem refSort_l0 (l : List S24) (hl : l.length < 5000000000000) :
    ∀ (d i : Nat) (acc : List S24), l.length - i = d → i ≤ l.length → acc.Pairwise (fun a b => keyLe a b = true) → acc.Perm (l.take i) → Ev (fun k => gangerref03_Sort.l0 k l acc i) (sortKeys l, 0) := by
  intro d
  induction d with
  | zero =>
    intro i acc hd hi hs hp
    have hil : i = l.length := by omega
    subst hil
    have e : sortKeys l = acc := sortKeys_eq hs (by simpa using hp)
    refine Ev.step (f := fun _ => some (sortKeys l, 0)) (fun k => ?_) (Ev.now _)
    simp only [gangerref03_Sort.l0]
    rw [if_neg (by omega), e]
  | succ d ih =>
    intro i acc hd hi hs hp
    have hlt : i < l.length := by omega
    have hal : acc.length < 5000000000000 := by have := hp.length_eq; simp at this; omega
    have htake : l.take (i + 1) = l.take i ++ [rd_T24 l i] := by rw [List.take_succ_eq_append_getElem hlt, rd_at l i hlt]
    have h1 := ih (i + 1) (layS (rd_T24 l i) acc) (by omega) (by omega) (layS_sorted _ _ hs) ((layS_perm _ _).trans ((hp.cons _).trans (by rw [htake]; exact (List.perm_append_singleton _ _).symm)))
    refine Ev.step (f := fun k => (gangerref03_lay.f k acc (rd_T24 l i).f0 (rd_T24 l i).f1 (rd_T24 l i).f2).bind fun t => gangerref03_Sort.l0 k l t ((i + 1 : Nat) : Int)) (fun k => ?_) (Ev.bind (lay_ev acc _ hal) h1)
    simp only [gangerref03_Sort.l0]
    rw [if_pos (by omega), if_pos (by omega), w64 _ (by omega) (by omega)]
    rfl
theorem refSort_ev (l : List S24) (hl : l.length < 5000000000000) : Ev (fun k => gangerref03_Sort.f k l) (if twiceB [] l = true then ([], 30) else (sortKeys l, 0)) := by
  unfold gangerref03_Sort.f
  refine Ev.bind (refTwice_ev l (by omega)) ?_
  cases twiceB [] l with
  | true =>
    simp only [if_true]
    exact Ev.now _
  | false =>
    simp only [Bool.false_eq_true, if_false]
    exact refSort_l0 l hl l.length 0 [] rfl (Nat.zero_le _) List.Pairwise.nil (by simp)
theorem adj_sorted (l : List S24) (h : adjLt l) : l.Pairwise (fun a b => keyLe a b = true) := by
  rw [List.pairwise_iff_getElem]
  intro i j hi hj hij
  have key : ∀ d, i + 1 + d < l.length → keyLt (rd_T24 l i) (rd_T24 l ((i + 1 + d : Nat) : Int)) = true := by
    intro d
    induction d with
    | zero => intro hd; exact h i hd
    | succ d ih => intro hd; exact keyLt_trans (ih (by omega)) (h (i + 1 + d) hd)
  have := key (j - i - 1) (by omega)
  rw [show i + 1 + (j - i - 1) = j by omega, rd_at l i hi, rd_at l j hj] at this
  simp [keyLe, keyLt_asymm this]
theorem checkK_zero {l : List S24} (h : checkK l = 0) : l.Pairwise (fun a b => keyLe a b = true) ∧ (ids l).Nodup := by
  unfold checkK at h
  split at h
  · cases h
  · rename_i hb
    split at h
    · rename_i ha
      exact ⟨adj_sorted l ha, (twice_false l).1 (by simpa using hb)⟩
    · cases h
theorem sortKeys_cons (x : S24) (l : List S24) (h : ∀ y ∈ l, keyLe x y = true) : sortKeys (x :: l) = x :: sortKeys l :=
  sortKeys_eq (by
    rw [List.pairwise_cons]
    exact ⟨fun y hy => h y ((sortKeys_perm l).mem_iff.1 hy), sortKeys_sorted l⟩) ((sortKeys_perm l).cons x)
theorem sortKeys_of_perm {l m : List S24} (h : l.Perm m) : sortKeys l = sortKeys m := sortKeys_eq (sortKeys_sorted m) ((sortKeys_perm m).trans h.symm)
theorem same_l0 (a : List S24) (hm : a.length ≤ 9223372036854775806) : ∀ (d i : Nat), a.length - i = d → Ev (fun k => gangerref03_Same.l0 k a a i) true := by
  intro d
  induction d with
  | zero =>
    intro i hd
    exact Ev.step (f := fun _ => some true) (fun k => by simp only [gangerref03_Same.l0]; rw [if_neg (by omega)]) (Ev.now _)
  | succ d ih =>
    intro i hd
    refine Ev.step (f := fun k => gangerref03_Same.l0 k a a ((i + 1 : Nat) : Int)) (fun k => ?_) (ih (i + 1) (by omega))
    simp only [gangerref03_Same.l0]
    rw [if_pos (by omega), if_pos (by omega), if_pos (by omega), w64 _ (by omega) (by omega)]
    simp
theorem same_ev (a : List S24) (hm : a.length ≤ 9223372036854775806) : Ev (fun k => gangerref03_Same.f k a a) true := by
  unfold gangerref03_Same.f
  simp only [if_true]
  exact same_l0 a hm a.length 0 rfl
theorem known_ev : Ev (fun k => gangerlaw03_known.f k) true := by
  have hs : sortKeys [(⟨5, 3, 1⟩ : S24), (⟨9, 8, 2⟩ : S24), (⟨5, 2, 7⟩ : S24)] = [(⟨9, 8, 2⟩ : S24), (⟨5, 2, 7⟩ : S24), (⟨5, 3, 1⟩ : S24)] := by
    refine sortKeys_eq (by simp [keyLe, keyLt]) ?_
    exact List.perm_append_comm (l₁ := [(⟨9, 8, 2⟩ : S24), (⟨5, 2, 7⟩ : S24)]) (l₂ := [(⟨5, 3, 1⟩ : S24)])
  have ht : twiceB [] [(⟨5, 3, 1⟩ : S24), (⟨9, 8, 2⟩ : S24), (⟨5, 2, 7⟩ : S24)] = false := by decide
  have hq := rank_Sort_eq [(⟨5, 3, 1⟩ : S24), (⟨9, 8, 2⟩ : S24), (⟨5, 2, 7⟩ : S24)] (by intro x hx; simp at hx; rcases hx with rfl | rfl | rfl <;> decide) (by simp)
  rw [ht, hs] at hq
  have hc : checkK [(⟨9, 8, 2⟩ : S24), (⟨5, 2, 7⟩ : S24), (⟨5, 3, 1⟩ : S24)] = 0 := by
    unfold checkK
    rw [if_neg (by decide), if_pos]
    intro j hj
    match j, hj with
    | 0, _ => decide
    | 1, _ => decide
  have hE := check_ev [(⟨9, 8, 2⟩ : S24), (⟨5, 2, 7⟩ : S24), (⟨5, 3, 1⟩ : S24)] (by simp) (by intro x hx; simp at hx; rcases hx with rfl | rfl | rfl <;> decide)
  rw [hc] at hE
  refine Ev.congr (f := fun k => (rank_Check.f k [(⟨9, 8, 2⟩ : S24), (⟨5, 2, 7⟩ : S24), (⟨5, 3, 1⟩ : S24)]).bind fun t => some (t == 0)) (fun k => ?_) (Ev.bind hE (Ev.now _))
  unfold gangerlaw03_known.f
  rw [hq]
  simp [rd_T24]

/-! ### arguments that are keys, and rows of keys -/
section
open Go.ChangeShapes Go.WideShapes Go.Deep
variable {H : Type} {enc : TypeId × Value → H} {w : World} {base : Nat} {spare : Nat → Bool} {held : Bool}
/-- Each field's number is of its kind. -/
def keyOk (x : S24) : Prop := (Lit.int .i64 x.f0).wf = true ∧ (Lit.int .i64 x.f1).wf = true ∧ (Lit.int .u32 x.f2).wf = true
theorem cells24 : Try.prog.cellsOf 24 = 3 := by kernel_rfl
theorem cells3 : Try.prog.cellsOf 3 = 1 := by kernel_rfl
theorem cells22 : Try.prog.cellsOf 22 = 1 := by kernel_rfl
theorem open_key {n : Nat} {cs : List Value} {x : DataW H × List MemPlace} (h : DataW.trod enc Try.prog w base spare held n 24 cs = some x) : ∃ k : S24, cs = enc24 k ∧ keyOk k := by
  obtain ⟨y0, y1, y2, m, _, hl, h0, h1, h2⟩ := trod_struct3 Try.underlying24 h
  rw [cells24] at hl
  obtain ⟨c0, c1, c2, rfl⟩ : ∃ c0 c1 c2, cs = [c0, c1, c2] := by
    match cs, hl with
    | [c0, c1, c2], _ => exact ⟨c0, c1, c2, rfl⟩
  rw [cells3] at h0 h1
  rw [cells22] at h2
  obtain ⟨a, e0, _, wa⟩ := DataW.trod_int Try.underlying3 h0
  obtain ⟨b, e1, _, wb⟩ := DataW.trod_int Try.underlying3 h1
  obtain ⟨c, e2, _, wc⟩ := DataW.trod_int Try.underlying22 h2
  simp at e0 e1 e2
  subst e0 e1 e2
  exact ⟨⟨a, b, c⟩, rfl, wa, wb, wc⟩
theorem open_keys {a : Option Addr} {len cap : Nat} {d : DataW H} {ps : List MemPlace} (h : DataW.Trod enc Try.prog w base spare held 32 (.slice a len cap) d ps) :
    ∃ l : List S24, l.length = len ∧ len ≤ cap ∧ len ≤ 9223372036854775807 ∧ Kd.C k24 w a l.length l ∧ ∀ x ∈ l, keyOk x := by
  obtain ⟨fuel, hf⟩ := h
  rcases open_slice Try.underlying32 hf with ⟨hcs, _⟩ | ⟨ad, len', cap', m, n, D, Pl, hcs, _, hl, hm, hmm, _, hx⟩
  · simp [Value.cells] at hcs
    obtain ⟨rfl, rfl, rfl⟩ := hcs
    exact ⟨[], rfl, Nat.le_refl _, by omega, ⟨rfl, by simp, fun h => absurd h (by simp)⟩, by simp⟩
  · simp [Value.cells] at hcs
    obtain ⟨rfl, rfl, rfl⟩ := hcs
    have hlm : len ≤ m := by rw [hmm]; split <;> omega
    haveI : Inhabited S24 := ⟨z24⟩
    obtain ⟨f, hf⟩ := choose_lt (α := S24) (n := len) (p := fun i k => w.cells? base (ad.add (i * 3)) 3 = some (enc24 k) ∧ keyOk k) (fun i hi => by
      obtain ⟨cs', h1, h2⟩ := hx i (by omega)
      obtain ⟨k, rfl, hk⟩ := open_key h2
      rw [cells24] at h1
      exact ⟨k, h1, hk⟩)
    have hlen : ((List.range len).map f).length = len := by simp
    have hmax : len ≤ 9223372036854775807 := by simp only [maxLen] at hm; omega
    refine ⟨(List.range len).map f, hlen, hl, hmax, ⟨rfl, by rw [hlen]; exact hmax, fun _ => ⟨ad, rfl, fun j p hp => ?_⟩⟩, ?_⟩
    · have hj : j < len := by
        have := (List.getElem?_eq_some_iff.1 hp).1
        simpa using this
      obtain rfl : f j = p := by simpa [hj] using hp
      refine ⟨enc24 (f j), rfl, k24_mk _ _, fun i u hu => ?_⟩
      obtain ⟨_, _, hat⟩ := World.cells?_some (hf j hj).1
      have hi : i < 3 := by
        have := (List.getElem?_eq_some_iff.1 hu).1
        simpa [enc24] using this
      have h3 := hat i hi
      rw [hu] at h3
      rw [show k24.sz = 3 from rfl, ← Go.Deep.add_add]
      exact h3
    · intro x hx
      obtain ⟨i, hi, rfl⟩ := List.mem_map.1 hx
      exact (hf i (by simpa using hi)).2
theorem open_keyv {P0 : World} {r : Reach} {b0 : Nat} {v : Value} {d : DataW H} {ps : List MemPlace} (hv : Value.okWide Try.prog P0 r b0 24 v) (h : DataW.Trod enc Try.prog w base spare held 24 v d ps) :
    ∃ x : S24, keyOk x ∧ v = .agg #[.int .i64 x.f0, .int .i64 x.f1, .int .u32 x.f2] := by
  obtain ⟨cs, rfl, _⟩ := okWide_struct Try.underlying24 hv
  obtain ⟨fuel, hf⟩ := h
  obtain ⟨k, hk, hw⟩ := open_key hf
  refine ⟨k, hw, ?_⟩
  have e : cs.toList = enc24 k := by simpa [Value.cells] using hk
  have e2 : cs = (enc24 k).toArray := by rw [← e]
  rw [e2]
  rfl
theorem ids_of_keys {l : List S24} (h : ∀ x ∈ l, keyOk x) : idsOk l := fun x hx => (h x hx).2.2
end

/-! #### a key put among ranked keys, a key struck -/
theorem compare_ev (x y : S24) : Ev (fun k => rank_compare.f k x.f0 x.f1 x.f2 y.f0 y.f1 y.f2) (cmpKey x y) := ⟨4, fun k hk => by
  obtain ⟨j, rfl⟩ : ∃ j, k = j + 4 := ⟨k - 4, by omega⟩
  exact compare_key j x y⟩
theorem mid64 (i j : Nat) (h : i + j ≤ 9223372036854775807) : wrap64 ((IntKind.u64.wrap (wrap64 ((i : Int) + (j : Int)))) / 2) = (((i + j) / 2 : Nat) : Int) := by
  have e1 : wrap64 ((i : Int) + (j : Int)) = ((i + j : Nat) : Int) := by rw [w64 _ (by omega) (by omega)]; omega
  have e2 : IntKind.u64.wrap (((i + j : Nat)) : Int) = ((i + j : Nat) : Int) := by
    simp only [IntKind.wrap, IntKind.signed, IntKind.bits]
    simp
    omega
  rw [e1, e2, w64 _ (by omega) (by omega)]
  omega
/-- n is the place of x: what lies ahead comes ahead of x, what lies behind does not. -/
def PlaceOf (l : List S24) (x : S24) (n : Nat) : Prop := n ≤ l.length ∧ (∀ q : Nat, q < n → keyLt (rd_T24 l q) x = true) ∧ (∀ q : Nat, n ≤ q → q < l.length → keyLt (rd_T24 l q) x = false)
theorem lay_place (x : S24) : ∀ (l : List S24) (n : Nat), PlaceOf l x n → layS x l = l.take n ++ x :: l.drop n
  | [], n, h => by
    obtain rfl : n = 0 := by have := h.1; simpa using this
    rfl
  | y :: l, 0, h => by
    have h0 := h.2.2 0 (Nat.le_refl _) (by simp)
    rw [rd_at (y :: l) 0 (by simp)] at h0
    have h0' : keyLt y x = false := h0
    simp [layS, h0']
  | y :: l, n + 1, h => by
    have h0 := h.2.1 0 (by omega)
    rw [rd_at (y :: l) 0 (by simp)] at h0
    have h0' : keyLt y x = true := h0
    have hp : PlaceOf l x n := by
      refine ⟨by have := h.1; simp at this; exact this, fun q hq => ?_, fun q hq hl => ?_⟩
      · have hql : q < l.length := by have := h.1; simp at this; omega
        have := h.2.1 (q + 1) (by omega)
        rw [rd_at _ _ (by simp; exact hql)] at this
        rw [rd_at _ _ hql]
        simpa using this
      · have := h.2.2 (q + 1) (by omega) (by simp; exact hl)
        rw [rd_at _ _ (by simp; exact hl)] at this
        rw [rd_at _ _ hl]
        simpa using this
    rw [layS, if_pos h0', lay_place x l n hp]
    rfl
theorem bs_l0 (l : List S24) (x : S24) (hm : l.length ≤ 4000000000000000000) (hs : ∀ p q : Nat, p ≤ q → q < l.length → keyLt (rd_T24 l q) x = true → keyLt (rd_T24 l p) x = true) :
    ∀ (d i j : Nat), j - i ≤ d → i ≤ j → j ≤ l.length → (∀ q : Nat, q < i → keyLt (rd_T24 l q) x = true) → (∀ q : Nat, j ≤ q → q < l.length → keyLt (rd_T24 l q) x = false) →
      ∃ (n : Nat) (b : Bool), Ev (fun k => api_Key_33.l0 k l l.length i j x.f0 x.f1 x.f2) ((n : Int), b) ∧ PlaceOf l x n := by
  have stop : ∀ (i : Nat), i ≤ l.length → (∀ q : Nat, q < i → keyLt (rd_T24 l q) x = true) → (∀ q : Nat, i ≤ q → q < l.length → keyLt (rd_T24 l q) x = false) → ∃ (n : Nat) (b : Bool), Ev (fun k => api_Key_33.l0 k l l.length i i x.f0 x.f1 x.f2) ((n : Int), b) ∧ PlaceOf l x n := by
    intro i hi h1 h2
    by_cases hlt : i < l.length
    · refine ⟨i, (cmpKey (rd_T24 l i) x == 0), ?_, hi, h1, h2⟩
      refine Ev.step (f := fun k => (rank_compare.f k (rd_T24 l i).f0 (rd_T24 l i).f1 (rd_T24 l i).f2 x.f0 x.f1 x.f2).bind fun t => some ((i : Int), (t == 0))) (fun k => ?_) (Ev.bind (compare_ev _ _) (Ev.now _))
      simp only [api_Key_33.l0]
      rw [if_neg (by omega), if_pos (by omega), if_pos (by omega), if_pos (by omega)]
    · refine ⟨i, false, ?_, hi, h1, h2⟩
      refine Ev.step (f := fun _ => some ((i : Int), false)) (fun k => ?_) (Ev.now _)
      simp only [api_Key_33.l0]
      rw [if_neg (by omega), if_neg (by omega)]
  intro d
  induction d with
  | zero =>
    intro i j hd hij hj h1 h2
    obtain rfl : j = i := by omega
    exact stop j hj h1 h2
  | succ d ih =>
    intro i j hd hij hj h1 h2
    by_cases hlt : i < j
    · have hmid1 : i ≤ (i + j) / 2 := by omega
      have hmid2 : (i + j) / 2 < j := by omega
      generalize hM : (i + j) / 2 = m at hmid1 hmid2
      have hstep : ∀ k, api_Key_33.l0 (k + 1) l l.length i j x.f0 x.f1 x.f2 = (rank_compare.f k (rd_T24 l m).f0 (rd_T24 l m).f1 (rd_T24 l m).f2 x.f0 x.f1 x.f2).bind fun t => if t < 0 then api_Key_33.l0 k l l.length ((m + 1 : Nat) : Int) j x.f0 x.f1 x.f2 else api_Key_33.l0 k l l.length i m x.f0 x.f1 x.f2 := by
        intro k
        simp only [api_Key_33.l0]
        rw [mid64 i j (by omega), hM, if_pos (by omega), if_pos (by omega), if_pos (by omega), w64 ((m : Int) + 1) (by omega) (by omega)]
        rfl
      have hneg := cmpKey_neg (rd_T24 l m) x
      by_cases hb : keyLt (rd_T24 l m) x = true
      · obtain ⟨n, b, he, hp⟩ := ih (m + 1) j (by omega) (by omega) hj (fun q hq => hs q m (by omega) (by omega) hb) h2
        refine ⟨n, b, Ev.step hstep (Ev.bind (compare_ev _ _) ?_), hp⟩
        rw [hb] at hneg
        have hc := of_decide_eq_true hneg
        simp only [hc, if_true]
        exact he
      · have hb' : keyLt (rd_T24 l m) x = false := by simpa using hb
        obtain ⟨n, b, he, hp⟩ := ih i m (by omega) hmid1 (by omega) h1 (fun q hq hql => by
          rcases Bool.eq_false_or_eq_true (keyLt (rd_T24 l q) x) with h | h
          · rw [hs m q hq hql h] at hb'; cases hb'
          · exact h)
        refine ⟨n, b, Ev.step hstep (Ev.bind (compare_ev _ _) ?_), hp⟩
        rw [hb'] at hneg
        have hc := of_decide_eq_false hneg
        simp only [hc, if_false]
        exact he
    · obtain rfl : j = i := by omega
      exact stop j hj h1 h2
theorem bs_ev (l : List S24) (x : S24) (hm : l.length ≤ 4000000000000000000) (hs : l.Pairwise (fun a b => keyLe a b = true)) : ∃ (n : Nat) (b : Bool), Ev (fun k => api_Key_33.f k l x.f0 x.f1 x.f2) ((n : Int), b) ∧ n ≤ l.length ∧ l.take n ++ x :: l.drop n = layS x l := by
  have hs' : ∀ p q : Nat, p ≤ q → q < l.length → keyLt (rd_T24 l q) x = true → keyLt (rd_T24 l p) x = true := by
    intro p q hpq hq h
    rcases Nat.eq_or_lt_of_le hpq with rfl | hlt
    · exact h
    · rw [rd_at l q hq] at h
      rw [rd_at l p (by omega)]
      have h2 := (List.pairwise_iff_getElem.1 hs) p q (by omega) hq hlt
      simp [keyLe, keyLt] at h h2 ⊢
      omega
  obtain ⟨n, b, he, hp⟩ := bs_l0 l x hm hs' l.length 0 l.length (by omega) (by omega) (Nat.le_refl _) (fun q hq => absurd hq (Nat.not_lt_zero _)) (fun q h1 h2 => absurd h2 (by omega))
  refine ⟨n, b, ?_, hp.1, (lay_place x l n hp).symm⟩
  unfold api_Key_33.f
  exact he
noncomputable def putK (l : List S24) (x : S24) : List S24 × Int := if checkK l = 0 then (if l.any (fun y => y.f2 == x.f2) = true then ([], 30) else (layS x l, 0)) else ([], checkK l)
theorem rankPut_ev (l : List S24) (x : S24) (hl : l.length < 1000000000000) (hi : idsOk l) : Ev (fun k => rank_Put.f k l x.f0 x.f1 x.f2) (putK l x) := by
  unfold rank_Put.f putK
  refine Ev.bind (check_ev l (by omega) hi) ?_
  by_cases h0 : checkK l = 0
  · simp only [h0, if_true]
    cases hany : l.any (fun y => y.f2 == x.f2) with
    | true =>
      simp only [if_true]
      exact Ev.now _
    | false =>
      simp only [Bool.false_eq_true, if_false]
      obtain ⟨n, b, he, hn, hlay⟩ := bs_ev l x (by omega) (checkK_zero h0).1
      refine Ev.bind he ?_
      simp only [Int.toNat_natCast, hlay]
      rw [if_pos ⟨by omega, by omega, by omega⟩]
      exact Ev.now _
  · simp only [h0, if_false]
    exact Ev.now _
theorem refPut_l0 (l : List S24) (x : S24) (hl : l.length < 1000000000000) : ∀ (d i : Nat), l.length - i = d → i ≤ l.length → Ev (fun k => gangerref03_Put.l0 k l i x.f0 x.f1 x.f2) (if (l.drop i).any (fun y => y.f2 == x.f2) = true then ([], 30) else (layS x l, 0)) := by
  intro d
  induction d with
  | zero =>
    intro i hd hi
    obtain rfl : i = l.length := by omega
    simp only [List.drop_length, List.any_nil, Bool.false_eq_true, if_false]
    refine Ev.step (f := fun k => (gangerref03_lay.f k l x.f0 x.f1 x.f2).bind fun t => some (t, (0 : Int))) (fun k => ?_) (Ev.bind (lay_ev l x (by omega)) (Ev.now _))
    simp only [gangerref03_Put.l0]
    rw [if_neg (by omega)]
  | succ d ih =>
    intro i hd hi
    have hlt : i < l.length := by omega
    have h1 := ih (i + 1) (by omega) (by omega)
    have hdrop : l.drop i = rd_T24 l i :: l.drop (i + 1) := by rw [List.drop_eq_getElem_cons hlt, rd_at l i hlt]
    rw [hdrop, List.any_cons]
    by_cases hb : (rd_T24 l i).f2 = x.f2
    · rw [beq_iff_eq.2 hb]
      simp only [Bool.true_or, if_true]
      refine Ev.step (f := fun _ => some (([] : List S24), (30 : Int))) (fun k => ?_) (Ev.now _)
      simp only [gangerref03_Put.l0]
      rw [if_pos (by omega), if_pos (by omega), if_pos hb]
    · rw [beq_eq_false_iff_ne.2 hb]
      simp only [Bool.false_or]
      refine Ev.step (f := fun k => gangerref03_Put.l0 k l ((i + 1 : Nat) : Int) x.f0 x.f1 x.f2) (fun k => ?_) h1
      simp only [gangerref03_Put.l0]
      rw [if_pos (by omega), if_pos (by omega), if_neg hb, w64 _ (by omega) (by omega)]
      rfl
theorem refPut_ev (l : List S24) (x : S24) (hl : l.length < 1000000000000) : Ev (fun k => gangerref03_Put.f k l x.f0 x.f1 x.f2) (putK l x) := by
  unfold gangerref03_Put.f putK
  refine Ev.bind (refCheck_ev l (by omega)) ?_
  by_cases h0 : checkK l = 0
  · simp only [h0, if_true]
    exact refPut_l0 l x hl l.length 0 rfl (Nat.zero_le _)
  · simp only [h0, if_false]
    exact Ev.now _
noncomputable def dropK (l : List S24) (i : Int) : List S24 × Bool := if checkK l = 0 then (l.filter (fun x => !(x.f2 == i)), decide ((l.filter (fun x => !(x.f2 == i))).length < l.length)) else ([], false)
theorem rankDrop_ev (l : List S24) (i : Int) (hl : l.length < 1000000000000) (hi : idsOk l) : Ev (fun k => rank_Drop.f k l i) (dropK l i) := by
  unfold rank_Drop.f dropK
  refine Ev.bind (check_ev l (by omega) hi) ?_
  by_cases h0 : checkK l = 0
  · simp only [h0, if_true]
    rw [if_pos (by omega)]
    exact Ev.now _
  · simp only [h0, if_false]
    exact Ev.now _
theorem refDrop_l0 (l : List S24) (a : Int) (hl : l.length < 1000000000000) : ∀ (d i : Nat), l.length - i = d → i ≤ l.length → Ev (fun k => gangerref03_Drop.l0 k l a ((l.take i).filter (fun x => !(x.f2 == a))) i) (l.filter (fun x => !(x.f2 == a)), decide ((l.filter (fun x => !(x.f2 == a))).length < l.length)) := by
  intro d
  induction d with
  | zero =>
    intro i hd hi
    obtain rfl : i = l.length := by omega
    refine Ev.step (f := fun _ => some (l.filter (fun x => !(x.f2 == a)), decide ((l.filter (fun x => !(x.f2 == a))).length < l.length))) (fun k => ?_) (Ev.now _)
    simp only [gangerref03_Drop.l0]
    rw [if_neg (by omega), List.take_length]
    congr 2
    have := List.length_filter_le (fun x : S24 => !(x.f2 == a)) l
    by_cases h : (l.filter (fun x => !(x.f2 == a))).length < l.length
    · rw [decide_eq_true h]
      exact bne_iff_ne.2 (by omega)
    · rw [decide_eq_false h]
      exact bne_eq_false_iff_eq.2 (by omega)
  | succ d ih =>
    intro i hd hi
    have hlt : i < l.length := by omega
    have h1 := ih (i + 1) (by omega) (by omega)
    have htake : l.take (i + 1) = l.take i ++ [rd_T24 l i] := by rw [List.take_succ_eq_append_getElem hlt, rd_at l i hlt]
    rw [htake, List.filter_append] at h1
    by_cases hb : (rd_T24 l i).f2 = a
    · rw [show [rd_T24 l i].filter (fun x => !(x.f2 == a)) = [] by simp [hb], List.append_nil] at h1
      refine Ev.step (f := fun k => gangerref03_Drop.l0 k l a ((l.take i).filter (fun x => !(x.f2 == a))) ((i + 1 : Nat) : Int)) (fun k => ?_) h1
      simp only [gangerref03_Drop.l0]
      rw [if_pos (by omega), if_pos (by omega), if_pos hb, w64 _ (by omega) (by omega)]
      rfl
    · rw [show [rd_T24 l i].filter (fun x => !(x.f2 == a)) = [rd_T24 l i] by simp [hb]] at h1
      refine Ev.step (f := fun k => gangerref03_Drop.l0 k l a ((l.take i).filter (fun x => !(x.f2 == a)) ++ [rd_T24 l i]) ((i + 1 : Nat) : Int)) (fun k => ?_) h1
      have hfl : ((l.take i).filter (fun x => !(x.f2 == a))).length ≤ i := Nat.le_trans (List.length_filter_le _ _) (by simp; omega)
      simp only [gangerref03_Drop.l0]
      rw [if_pos (by omega), if_pos (by omega), if_neg hb, if_pos (by omega), w64 _ (by omega) (by omega)]
      rfl
theorem refDrop_ev (l : List S24) (a : Int) (hl : l.length < 1000000000000) : Ev (fun k => gangerref03_Drop.f k l a) (dropK l a) := by
  unfold gangerref03_Drop.f dropK
  refine Ev.bind (refCheck_ev l (by omega)) ?_
  by_cases h0 : checkK l = 0
  · simp only [h0, if_true]
    have h := refDrop_l0 l a hl l.length 0 rfl (Nat.zero_le _)
    simpa using h
  · simp only [h0, if_false]
    exact Ev.now _
/-! #### RankPuts -/
theorem puts_l1 (l : List S24) (h0 : l.length ≤ 300) : ∀ (d i : Nat) (x : List S24), x.length - i = d → x.length ≤ 9223372036854775806 → Ev (fun k => gangerlaw03_RankPuts.l1 k l l x i) true := by
  intro d
  induction d with
  | zero =>
    intro i x hd hx
    refine Ev.step (f := fun k => (gangerref03_Same.f k l l).bind fun t => if t = true then ((gangerlaw03_known.f k).bind fun t2 => some t2) else some false) (fun k => ?_) (Ev.bind (same_ev l (by omega)) ?_)
    · simp only [gangerlaw03_RankPuts.l1]
      rw [if_neg (by omega)]
    · simp only [if_true]
      exact Ev.bind known_ev (Ev.now _)
  | succ d ih =>
    intro i x hd hx
    refine Ev.step (f := fun k => gangerlaw03_RankPuts.l1 k l l (x.set i (⟨8, (rd_T24 x i).f1, (rd_T24 x i).f2⟩ : S24)) ((i + 1 : Nat) : Int)) (fun k => ?_) (ih (i + 1) _ (by simp; omega) (by simpa using hx))
    simp only [gangerlaw03_RankPuts.l1]
    rw [if_pos (by omega), if_pos (by omega), w64 _ (by omega) (by omega), Int.toNat_natCast]
    rfl
theorem puts_l0 (l y : List S24) (h0 : l.length ≤ 300) (hy : y.length ≤ 9223372036854775806) : ∀ (d i : Nat) (x : List S24), x.length - i = d → x.length ≤ 9223372036854775806 → Ev (fun k => gangerlaw03_RankPuts.l0 k l l x y i) true := by
  intro d
  induction d with
  | zero =>
    intro i x hd hx
    refine Ev.step (f := fun k => gangerlaw03_RankPuts.l1 k l l y ((0 : Nat) : Int)) (fun k => ?_) (puts_l1 l h0 y.length 0 y rfl hy)
    simp only [gangerlaw03_RankPuts.l0]
    rw [if_neg (by omega)]
    rfl
  | succ d ih =>
    intro i x hd hx
    refine Ev.step (f := fun k => gangerlaw03_RankPuts.l0 k l l (x.set i (⟨7, (rd_T24 x i).f1, (rd_T24 x i).f2⟩ : S24)) y ((i + 1 : Nat) : Int)) (fun k => ?_) (ih (i + 1) _ (by simp; omega) (by simpa using hx))
    simp only [gangerlaw03_RankPuts.l0]
    rw [if_pos (by omega), if_pos (by omega), w64 _ (by omega) (by omega), Int.toNat_natCast]
    rfl
theorem putK_len (l : List S24) (x : S24) : (putK l x).1.length ≤ l.length + 1 := by
  unfold putK
  split
  · split
    · simp
    · have := (layS_perm x l).length_eq
      simp at this ⊢
      omega
  · simp
theorem dropK_len (l : List S24) (a : Int) : (dropK l a).1.length ≤ l.length := by
  unfold dropK
  split
  · exact List.length_filter_le _ _
  · simp
theorem RankPuts_ev (l : List S24) (x : S24) (a : Int) (h0 : idsOk l) : Ev (fun k => gangerlaw03_RankPuts.f k l x.f0 x.f1 x.f2 a) true := by
  unfold gangerlaw03_RankPuts.f
  by_cases hm : l.length > 300
  · have e : gangerlaw03_many.f l [] = some true := by
      unfold gangerlaw03_many.f
      rw [if_pos (by omega)]
    simp only [e, Option.bind_some, if_true]
    exact Ev.bind known_ev (Ev.now _)
  · have e : gangerlaw03_many.f l [] = some false := by
      unfold gangerlaw03_many.f
      rw [if_neg (by omega)]
      simp
    have c : gangerlaw03_copied.f l = some l := by
      unfold gangerlaw03_copied.f
      rw [if_pos (by simp; omega)]
      rfl
    simp only [e, Option.bind_some, Bool.false_eq_true, if_false, c]
    refine Ev.bind (rankPut_ev l x (by omega) h0) (Ev.bind (refPut_ev l x (by omega)) (Ev.bind (rankDrop_ev l a (by omega) h0) (Ev.bind (refDrop_ev l a (by omega)) ?_)))
    have h1 := putK_len l x
    have h2 := dropK_len l a
    refine Ev.bind (same_ev _ (by omega)) ?_
    simp only [if_true]
    refine Ev.bind (same_ev _ (by omega)) ?_
    simp only [if_true, bne_self_eq_false]
    refine Ev.step (f := fun k => gangerlaw03_RankPuts.l0 k l l (putK l x).1 (dropK l a).1 ((0 : Nat) : Int)) (fun k => ?_) (puts_l0 l _ (by omega) (by omega) (putK l x).1.length 0 _ rfl (by omega))
    simp only [gangerlaw03_RankPuts.j0]
    rfl

theorem RankPuts_law (l : List S24) (x : S24) (a : Int) (h0 : ∀ y ∈ l, keyOk y) (_ : keyOk x) (_ : (Lit.int .u32 a).wf = true) : Ev (fun k => gangerlaw03_RankPuts.f k l x.f0 x.f1 x.f2 a) true := RankPuts_ev l x a (ids_of_keys h0)

end Go.Proofs.Ytbljhjgmpldncaa.PR
