/- Plain laws over what the printed functions come to. -/
import Derived.Test.YtbljhjgmpldncaaPR0
import Derived.Test.YtbljhjgmpldncaaPR11
import Derived.Test.YtbljhjgmpldncaaPR12
import Derived.Test.YtbljhjgmpldncaaPR17
import Derived.Test.YtbljhjgmpldncaaPR20
import Derived.Test.YtbljhjgmpldncaaPR22
import Derived.Test.YtbljhjgmpldncaaPR25
import Derived.Test.YtbljhjgmpldncaaPR27
import Derived.Test.YtbljhjgmpldncaaPR7
import Derived.Test.YtbljhjgmpldncaaPR8
import Derived.WalkKit
import Derived.ProofKit
import Derived.OpenShut
import Derived.Deep.Slices
import Derived.Deep.Strs
import Derived.Lib.SmallJoins
import Derived.ChangeSame
namespace Go.Proofs.Ytbljhjgmpldncaa.PR
open Go.RowKit Go.Proofs.YtbljhjgmpldncaaW.PrintWords Go.Proofs.YtbljhjgmpldncaaW.PrintLast Go.Proofs.YtbljhjgmpldncaaW.PrintMore
set_option linter.unusedVariables false
set_option linter.unusedSimpArgs false
/-! ### what the keys' functions come to: plain lists -/
theorem keyLt_trans {x y z : S24} (h1 : keyLt x y = true) (h2 : keyLt y z = true) : keyLt x z = true := by simp [keyLt] at *; omega
theorem keyLt_asymm {x y : S24} (h1 : keyLt x y = true) : keyLt y x = false := by simp [keyLt] at *; omega
theorem keyLt_apart {x y : S24} (h1 : keyLt x y = false) (h2 : keyLt y x = false) : x = y := cmp_apart x y (by rw [lt_key]; exact h1) (by rw [lt_key]; exact h2)
theorem keyLe_trans (x y z : S24) (h1 : keyLe x y = true) (h2 : keyLe y z = true) : keyLe x z = true := by simp [keyLe, keyLt] at *; omega
theorem keyLe_total (x y : S24) : (keyLe x y || keyLe y x) = true := by
  rw [Bool.or_eq_true]
  simp [keyLe, keyLt]
  omega
theorem keyLe_anti {x y : S24} (h1 : keyLe x y = true) (h2 : keyLe y x = true) : x = y := keyLt_apart (by simpa [keyLe] using h2) (by simpa [keyLe] using h1)
theorem sortKeys_sorted (l : List S24) : (sortKeys l).Pairwise (fun a b => keyLe a b = true) := List.pairwise_mergeSort keyLe_trans keyLe_total l
theorem sortKeys_perm (l : List S24) : (sortKeys l).Perm l := List.mergeSort_perm l keyLe
theorem sortKeys_eq {l m : List S24} (hs : m.Pairwise (fun a b => keyLe a b = true)) (hp : m.Perm l) : sortKeys l = m :=
  List.Perm.eq_of_pairwise (le := fun a b => keyLe a b = true) (fun _ _ _ _ h1 h2 => keyLe_anti h1 h2) (sortKeys_sorted l) hs ((sortKeys_perm l).trans hp.symm)
theorem rd_at (l : List S24) (i : Nat) (h : i < l.length) : rd_T24 l (i : Int) = l[i] := by simp [rd_T24, List.getD_eq_getElem?_getD, List.getElem?_eq_getElem h]
theorem w64 (x : Int) (h0 : -9223372036854775808 ≤ x) (h1 : x ≤ 9223372036854775807) : wrap64 x = x := by unfold wrap64; omega
/-! #### have two one ID -/
/-- No ID twice. -/
def ids (l : List S24) : List Int := l.map S24.f2
theorem twiceB_iff (l : List S24) : ∀ seen : List Int, twiceB seen l = false ↔ (ids l).Nodup ∧ ∀ x ∈ ids l, x ∉ seen := by
  induction l with
  | nil => intro seen; simp [twiceB, ids]
  | cons x l ih =>
    intro seen
    simp only [twiceB, ids, List.map_cons, List.nodup_cons, List.mem_cons]
    by_cases hx : seen.contains x.f2 = true
    · rw [if_pos hx]
      constructor
      · intro h; cases h
      · rintro ⟨_, h⟩
        exact absurd (by simpa using hx) (h x.f2 (.inl rfl))
    · rw [if_neg hx, ih]
      have hx' : x.f2 ∉ seen := by simpa using hx
      simp only [ids, List.mem_cons, not_or]
      constructor
      · rintro ⟨h1, h2⟩
        exact ⟨⟨fun hm => (h2 _ hm).1 rfl, h1⟩, fun y hy => hy.elim (fun e => e ▸ hx') (fun hm => (h2 y hm).2)⟩
      · rintro ⟨⟨h1, h2⟩, h3⟩
        exact ⟨h2, fun y hm => ⟨fun e => h1 (e ▸ hm), h3 y (.inr hm)⟩⟩
theorem twice_false (l : List S24) : twiceB [] l = false ↔ (ids l).Nodup := by
  rw [twiceB_iff]
  simp
/-- The ID at a place. -/
def idAt (l : List S24) (q : Nat) : Int := (l.getD q z24).f2
theorem idAt_at (l : List S24) (q : Nat) : (rd_T24 l (q : Int)).f2 = idAt l q := by simp [rd_T24, idAt]
theorem nodup_ids (l : List S24) : (ids l).Nodup ↔ ¬ ∃ p, p < l.length ∧ ∃ q, q < p ∧ idAt l q = idAt l p := by
  unfold ids
  rw [List.nodup_iff_pairwise_ne, List.pairwise_iff_getElem]
  simp only [List.length_map, List.getElem_map]
  constructor
  · rintro h ⟨p, hp, q, hq, he⟩
    refine h q p (by omega) hp hq ?_
    simpa [idAt, List.getD_eq_getElem?_getD, List.getElem?_eq_getElem hp, List.getElem?_eq_getElem (show q < l.length by omega)] using he
  · intro h i j hi hj hij he
    refine h ⟨j, hj, i, hij, ?_⟩
    simpa [idAt, List.getD_eq_getElem?_getD, List.getElem?_eq_getElem hi, List.getElem?_eq_getElem hj] using he
/-! #### are they ranked -/
/-- Each comes ahead of the next one. -/
def adjLt (l : List S24) : Prop := ∀ j : Nat, j + 1 < l.length → keyLt (rd_T24 l j) (rd_T24 l ((j + 1 : Nat) : Int)) = true
/-- No one comes ahead of the one before. -/
def adjLe (l : List S24) : Prop := ∀ j : Nat, j + 1 < l.length → keyLt (rd_T24 l ((j + 1 : Nat) : Int)) (rd_T24 l j) = false
theorem adj_iff (l : List S24) (hn : (ids l).Nodup) : adjLe l ↔ adjLt l := by
  have hne : ∀ j : Nat, j + 1 < l.length → (rd_T24 l j).f2 ≠ (rd_T24 l ((j + 1 : Nat) : Int)).f2 := by
    intro j hj he
    rw [nodup_ids] at hn
    exact hn ⟨j + 1, hj, j, by omega, by rw [← idAt_at, ← idAt_at]; exact he⟩
  constructor
  · intro h j hj
    cases hb : keyLt (rd_T24 l j) (rd_T24 l ((j + 1 : Nat) : Int)) with
    | true => rfl
    | false => exact absurd (congrArg S24.f2 (keyLt_apart hb (h j hj))) (hne j hj)
  · intro h j hj
    exact keyLt_asymm (h j hj)
open Classical in
/-- What Check says. -/
noncomputable def checkK (l : List S24) : Int := if twiceB [] l = true then 30 else if adjLt l then 0 else 2
open Classical in
theorem sorted_l0 (l : List S24) (hm : l.length ≤ 9223372036854775806) :
    ∀ (i : Nat), i < l.length ∨ i = 0 → Ev (fun k => api_Key_40.l0 k l i) (decide (∀ j : Nat, j + 1 ≤ i → keyLt (rd_T24 l ((j + 1 : Nat) : Int)) (rd_T24 l j) = false)) := by
  intro i
  induction i with
  | zero =>
    intro _
    rw [decide_eq_true (fun j h => by omega)]
    exact Ev.step (f := fun _ => some true) (fun k => by simp only [api_Key_40.l0]; rw [if_neg (by omega)]) (Ev.now _)
  | succ i ih =>
    intro hi
    have hlt : i + 1 < l.length := by omega
    have h1 := ih (by omega)
    have hc : ∀ k, 4 ≤ k → api_Key_40.l0 (k + 1) l ((i + 1 : Nat) : Int) = if keyLt (rd_T24 l ((i + 1 : Nat) : Int)) (rd_T24 l i) = true then some false else api_Key_40.l0 k l i := by
      intro k hk
      obtain ⟨q, rfl⟩ : ∃ q, k = q + 4 := ⟨k - 4, by omega⟩
      simp only [api_Key_40.l0]
      rw [w64 _ (by omega) (by omega), show (((i + 1 : Nat) : Int) - 1) = (i : Int) by omega, if_pos (by omega), if_pos (by omega), if_pos (by omega), if_pos (by omega), if_pos (by omega), compare_key, Option.bind_some, ← cmpKey_neg]
      simp only [decide_eq_true_eq]
    cases hb : keyLt (rd_T24 l ((i + 1 : Nat) : Int)) (rd_T24 l i) with
    | true =>
      rw [decide_eq_false (fun h => by rw [h i (Nat.le_refl _)] at hb; cases hb)]
      refine ⟨5, fun k hk => ?_⟩
      obtain ⟨q, rfl⟩ : ∃ q, k = q + 1 := ⟨k - 1, by omega⟩
      show api_Key_40.l0 (q + 1) l ((i + 1 : Nat) : Int) = _
      rw [hc q (by omega), if_pos hb]
    | false =>
      have e : decide (∀ j : Nat, j + 1 ≤ i + 1 → keyLt (rd_T24 l ((j + 1 : Nat) : Int)) (rd_T24 l j) = false) = decide (∀ j : Nat, j + 1 ≤ i → keyLt (rd_T24 l ((j + 1 : Nat) : Int)) (rd_T24 l j) = false) := by
        apply decide_eq_decide.2
        constructor
        · intro h j h2
          exact h j (by omega)
        · intro h j h2
          rcases Nat.eq_or_lt_of_le h2 with h5 | h5
          · obtain rfl : j = i := by omega
            exact hb
          · exact h j (by omega)
      rw [e]
      obtain ⟨K, hK⟩ := h1
      refine ⟨K + 5, fun k hk => ?_⟩
      obtain ⟨q, rfl⟩ : ∃ q, k = q + 1 := ⟨k - 1, by omega⟩
      show api_Key_40.l0 (q + 1) l ((i + 1 : Nat) : Int) = _
      rw [hc q (by omega), if_neg (by rw [hb]; simp)]
      exact hK q (by omega)
open Classical in
theorem sorted_ev (l : List S24) (hm : l.length ≤ 9223372036854775806) : Ev (fun k => api_Key_40.f k l) (decide (adjLe l)) := by
  unfold api_Key_40.f
  rcases Nat.eq_zero_or_pos l.length with h0 | h0
  · rw [h0, w64 _ (by omega) (by omega)]
    have : decide (adjLe l) = true := decide_eq_true (fun j h => by omega)
    rw [this]
    exact Ev.step (f := fun _ => some true) (fun k => by simp only [api_Key_40.l0]; rw [if_neg (by omega)]) (Ev.now _)
  · rw [w64 _ (by omega) (by omega), show ((l.length : Int) - 1) = ((l.length - 1 : Nat) : Int) by omega]
    have h := sorted_l0 l hm (l.length - 1) (by omega)
    have e : decide (adjLe l) = decide (∀ j : Nat, j + 1 ≤ l.length - 1 → keyLt (rd_T24 l ((j + 1 : Nat) : Int)) (rd_T24 l j) = false) :=
      decide_eq_decide.2 ⟨fun h j h2 => h j (by omega), fun h j h2 => h j (by omega)⟩
    rw [e]
    exact h
open Classical in
theorem check_ev (l : List S24) (hm : l.length ≤ 9223372036854775806) (hi : idsOk l) : Ev (fun k => rank_Check.f k l) (checkK l) := by
  unfold rank_Check.f checkK
  refine Ev.bind (g := fun _ => rank_twice.f l) ⟨0, fun _ _ => by unfold rank_twice.f; rw [if_pos hi]⟩ ?_
  cases hb : twiceB [] l with
  | true =>
    simp only [if_true]
    exact Ev.now _
  | false =>
    simp only [Bool.false_eq_true, if_false]
    refine Ev.bind (sorted_ev l hm) ?_
    have e := adj_iff l ((twice_false l).1 hb)
    by_cases ha : adjLt l
    · rw [if_pos ha, decide_eq_true (e.2 ha)]
      exact Ev.now _
    · rw [if_neg ha, decide_eq_false (fun h => ha (e.1 h))]
      exact Ev.now _

/-! #### sorted, merged, the same -/
theorem twice_ev (l : List S24) (hi : idsOk l) : rank_twice.f l = some (twiceB [] l) := by unfold rank_twice.f; rw [if_pos hi]
theorem rank_Sort_eq (l : List S24) (hi : idsOk l) (hl : l.length < 5864062014805) : rank_Sort.f l = some (if twiceB [] l = true then ([], 30) else (sortKeys l, 0)) := by
  unfold rank_Sort.f
  rw [twice_ev l hi, Option.bind_some, if_pos hl]
  split <;> rfl
/-- A key at its place among ranked ones. -/
def layS (x : S24) : List S24 → List S24
  | [] => [x]
  | y :: l => if keyLt y x = true then y :: layS x l else x :: y :: l
theorem layS_perm (x : S24) : ∀ l, (layS x l).Perm (x :: l)
  | [] => List.Perm.refl _
  | y :: l => by
    unfold layS
    split
    · exact ((layS_perm x l).cons y).trans (List.Perm.swap x y l)
    · exact List.Perm.refl _
theorem layS_sorted (x : S24) : ∀ l, l.Pairwise (fun a b => keyLe a b = true) → (layS x l).Pairwise (fun a b => keyLe a b = true)
  | [], _ => List.pairwise_singleton _ _
  | y :: l, h => by
    rw [List.pairwise_cons] at h
    unfold layS
    split
    · rename_i hlt
      rw [List.pairwise_cons]
      refine ⟨fun z hz => ?_, layS_sorted x l h.2⟩
      rcases List.mem_cons.1 ((layS_perm x l).mem_iff.1 hz) with rfl | hz
      · simp [keyLe, keyLt_asymm hlt]
      · exact h.1 z hz
    · rename_i hlt
      have hxy : keyLe x y = true := by simpa [keyLe] using hlt
      rw [List.pairwise_cons, List.pairwise_cons]
      refine ⟨fun z hz => ?_, h⟩
      rcases List.mem_cons.1 hz with rfl | hz
      · exact hxy
      · exact keyLe_trans _ _ _ hxy (h.1 z hz)
theorem adj_sorted (l : List S24) (h : adjLt l) : l.Pairwise (fun a b => keyLe a b = true) := by
  rw [List.pairwise_iff_getElem]
  intro i j hi hj hij
  have key : ∀ d, i + 1 + d < l.length → keyLt (rd_T24 l i) (rd_T24 l ((i + 1 + d : Nat) : Int)) = true := by
    intro d
    induction d with
    | zero => intro hd; exact h i hd
    | succ d ih => intro hd; exact keyLt_trans (ih (by omega)) (h (i + 1 + d) hd)
  have := key (j - i - 1) (by omega)
  rw [show i + 1 + (j - i - 1) = j by omega, rd_at l i hi, rd_at l j hj] at this
  simp [keyLe, keyLt_asymm this]
theorem checkK_zero {l : List S24} (h : checkK l = 0) : l.Pairwise (fun a b => keyLe a b = true) ∧ (ids l).Nodup := by
  unfold checkK at h
  split at h
  · cases h
  · rename_i hb
    split at h
    · rename_i ha
      exact ⟨adj_sorted l ha, (twice_false l).1 (by simpa using hb)⟩
    · cases h
theorem sortKeys_of_perm {l m : List S24} (h : l.Perm m) : sortKeys l = sortKeys m := sortKeys_eq (sortKeys_sorted m) ((sortKeys_perm m).trans h.symm)
theorem same_l0 (a : List S24) (hm : a.length ≤ 9223372036854775806) : ∀ (d i : Nat), a.length - i = d → Ev (fun k => gangerref03_Same.l0 k a a i) true := by
  intro d
  induction d with
  | zero =>
    intro i hd
    exact Ev.step (f := fun _ => some true) (fun k => by simp only [gangerref03_Same.l0]; rw [if_neg (by omega)]) (Ev.now _)
  | succ d ih =>
    intro i hd
    refine Ev.step (f := fun k => gangerref03_Same.l0 k a a ((i + 1 : Nat) : Int)) (fun k => ?_) (ih (i + 1) (by omega))
    simp only [gangerref03_Same.l0]
    rw [if_pos (by omega), if_pos (by omega), if_pos (by omega), w64 _ (by omega) (by omega)]
    simp
theorem same_ev (a : List S24) (hm : a.length ≤ 9223372036854775806) : Ev (fun k => gangerref03_Same.f k a a) true := by
  unfold gangerref03_Same.f
  simp only [if_true]
  exact same_l0 a hm a.length 0 rfl
theorem known_ev : Ev (fun k => gangerlaw03_known.f k) true := by
  have hs : sortKeys [(⟨5, 3, 1⟩ : S24), (⟨9, 8, 2⟩ : S24), (⟨5, 2, 7⟩ : S24)] = [(⟨9, 8, 2⟩ : S24), (⟨5, 2, 7⟩ : S24), (⟨5, 3, 1⟩ : S24)] := by
    refine sortKeys_eq (by simp [keyLe, keyLt]) ?_
    exact List.perm_append_comm (l₁ := [(⟨9, 8, 2⟩ : S24), (⟨5, 2, 7⟩ : S24)]) (l₂ := [(⟨5, 3, 1⟩ : S24)])
  have ht : twiceB [] [(⟨5, 3, 1⟩ : S24), (⟨9, 8, 2⟩ : S24), (⟨5, 2, 7⟩ : S24)] = false := by decide
  have hq := rank_Sort_eq [(⟨5, 3, 1⟩ : S24), (⟨9, 8, 2⟩ : S24), (⟨5, 2, 7⟩ : S24)] (by intro x hx; simp at hx; rcases hx with rfl | rfl | rfl <;> decide) (by simp)
  rw [ht, hs] at hq
  have hc : checkK [(⟨9, 8, 2⟩ : S24), (⟨5, 2, 7⟩ : S24), (⟨5, 3, 1⟩ : S24)] = 0 := by
    unfold checkK
    rw [if_neg (by decide), if_pos]
    intro j hj
    match j, hj with
    | 0, _ => decide
    | 1, _ => decide
  have hE := check_ev [(⟨9, 8, 2⟩ : S24), (⟨5, 2, 7⟩ : S24), (⟨5, 3, 1⟩ : S24)] (by simp) (by intro x hx; simp at hx; rcases hx with rfl | rfl | rfl <;> decide)
  rw [hc] at hE
  refine Ev.congr (f := fun k => (rank_Check.f k [(⟨9, 8, 2⟩ : S24), (⟨5, 2, 7⟩ : S24), (⟨5, 3, 1⟩ : S24)]).bind fun t => some (t == 0)) (fun k => ?_) (Ev.bind hE (Ev.now _))
  unfold gangerlaw03_known.f
  rw [hq]
  simp [rd_T24]

/-! ### arguments that are keys, and rows of keys -/
section
open Go.ChangeShapes Go.WideShapes Go.Deep
variable {H : Type} {enc : TypeId × Value → H} {w : World} {base : Nat} {spare : Nat → Bool} {held : Bool}
/-- Each field's number is of its kind. -/
def keyOk (x : S24) : Prop := (Lit.int .i64 x.f0).wf = true ∧ (Lit.int .i64 x.f1).wf = true ∧ (Lit.int .u32 x.f2).wf = true
theorem cells24 : Try.prog.cellsOf 24 = 3 := by kernel_rfl
theorem cells3 : Try.prog.cellsOf 3 = 1 := by kernel_rfl
theorem cells22 : Try.prog.cellsOf 22 = 1 := by kernel_rfl
theorem open_key {n : Nat} {cs : List Value} {x : DataW H × List MemPlace} (h : DataW.trod enc Try.prog w base spare held n 24 cs = some x) : ∃ k : S24, cs = enc24 k ∧ keyOk k := by
  obtain ⟨y0, y1, y2, m, _, hl, h0, h1, h2⟩ := trod_struct3 Try.underlying24 h
  rw [cells24] at hl
  obtain ⟨c0, c1, c2, rfl⟩ : ∃ c0 c1 c2, cs = [c0, c1, c2] := by
    match cs, hl with
    | [c0, c1, c2], _ => exact ⟨c0, c1, c2, rfl⟩
  rw [cells3] at h0 h1
  rw [cells22] at h2
  obtain ⟨a, e0, _, wa⟩ := DataW.trod_int Try.underlying3 h0
  obtain ⟨b, e1, _, wb⟩ := DataW.trod_int Try.underlying3 h1
  obtain ⟨c, e2, _, wc⟩ := DataW.trod_int Try.underlying22 h2
  simp at e0 e1 e2
  subst e0 e1 e2
  exact ⟨⟨a, b, c⟩, rfl, wa, wb, wc⟩
theorem open_keys {a : Option Addr} {len cap : Nat} {d : DataW H} {ps : List MemPlace} (h : DataW.Trod enc Try.prog w base spare held 32 (.slice a len cap) d ps) :
    ∃ l : List S24, l.length = len ∧ len ≤ cap ∧ len ≤ 9223372036854775807 ∧ Kd.C k24 w a l.length l ∧ ∀ x ∈ l, keyOk x := by
  obtain ⟨fuel, hf⟩ := h
  rcases open_slice Try.underlying32 hf with ⟨hcs, _⟩ | ⟨ad, len', cap', m, n, D, Pl, hcs, _, hl, hm, hmm, _, hx⟩
  · simp [Value.cells] at hcs
    obtain ⟨rfl, rfl, rfl⟩ := hcs
    exact ⟨[], rfl, Nat.le_refl _, by omega, ⟨rfl, by simp, fun h => absurd h (by simp)⟩, by simp⟩
  · simp [Value.cells] at hcs
    obtain ⟨rfl, rfl, rfl⟩ := hcs
    have hlm : len ≤ m := by rw [hmm]; split <;> omega
    haveI : Inhabited S24 := ⟨z24⟩
    obtain ⟨f, hf⟩ := choose_lt (α := S24) (n := len) (p := fun i k => w.cells? base (ad.add (i * 3)) 3 = some (enc24 k) ∧ keyOk k) (fun i hi => by
      obtain ⟨cs', h1, h2⟩ := hx i (by omega)
      obtain ⟨k, rfl, hk⟩ := open_key h2
      rw [cells24] at h1
      exact ⟨k, h1, hk⟩)
    have hlen : ((List.range len).map f).length = len := by simp
    have hmax : len ≤ 9223372036854775807 := by simp only [maxLen] at hm; omega
    refine ⟨(List.range len).map f, hlen, hl, hmax, ⟨rfl, by rw [hlen]; exact hmax, fun _ => ⟨ad, rfl, fun j p hp => ?_⟩⟩, ?_⟩
    · have hj : j < len := by
        have := (List.getElem?_eq_some_iff.1 hp).1
        simpa using this
      obtain rfl : f j = p := by simpa [hj] using hp
      refine ⟨enc24 (f j), rfl, k24_mk _ _, fun i u hu => ?_⟩
      obtain ⟨_, _, hat⟩ := World.cells?_some (hf j hj).1
      have hi : i < 3 := by
        have := (List.getElem?_eq_some_iff.1 hu).1
        simpa [enc24] using this
      have h3 := hat i hi
      rw [hu] at h3
      rw [show k24.sz = 3 from rfl, ← Go.Deep.add_add]
      exact h3
    · intro x hx
      obtain ⟨i, hi, rfl⟩ := List.mem_map.1 hx
      exact (hf i (by simpa using hi)).2
theorem open_keyv {P0 : World} {r : Reach} {b0 : Nat} {v : Value} {d : DataW H} {ps : List MemPlace} (hv : Value.okWide Try.prog P0 r b0 24 v) (h : DataW.Trod enc Try.prog w base spare held 24 v d ps) :
    ∃ x : S24, keyOk x ∧ v = .agg #[.int .i64 x.f0, .int .i64 x.f1, .int .u32 x.f2] := by
  obtain ⟨cs, rfl, _⟩ := okWide_struct Try.underlying24 hv
  obtain ⟨fuel, hf⟩ := h
  obtain ⟨k, hk, hw⟩ := open_key hf
  refine ⟨k, hw, ?_⟩
  have e : cs.toList = enc24 k := by simpa [Value.cells] using hk
  have e2 : cs = (enc24 k).toArray := by rw [← e]
  rw [e2]
  rfl
theorem ids_of_keys {l : List S24} (h : ∀ x ∈ l, keyOk x) : idsOk l := fun x hx => (h x hx).2.2
end

/-! #### a key put among ranked keys, a key struck -/
theorem compare_ev (x y : S24) : Ev (fun k => rank_compare.f k x.f0 x.f1 x.f2 y.f0 y.f1 y.f2) (cmpKey x y) := ⟨4, fun k hk => by
  obtain ⟨j, rfl⟩ : ∃ j, k = j + 4 := ⟨k - 4, by omega⟩
  exact compare_key j x y⟩
theorem mid64 (i j : Nat) (h : i + j ≤ 9223372036854775807) : wrap64 ((IntKind.u64.wrap (wrap64 ((i : Int) + (j : Int)))) / 2) = (((i + j) / 2 : Nat) : Int) := by
  have e1 : wrap64 ((i : Int) + (j : Int)) = ((i + j : Nat) : Int) := by rw [w64 _ (by omega) (by omega)]; omega
  have e2 : IntKind.u64.wrap (((i + j : Nat)) : Int) = ((i + j : Nat) : Int) := by
    simp only [IntKind.wrap, IntKind.signed, IntKind.bits]
    simp
    omega
  rw [e1, e2, w64 _ (by omega) (by omega)]
  omega
/-- n is the place of x: what lies ahead comes ahead of x, what lies behind does not. -/
def PlaceOf (l : List S24) (x : S24) (n : Nat) : Prop := n ≤ l.length ∧ (∀ q : Nat, q < n → keyLt (rd_T24 l q) x = true) ∧ (∀ q : Nat, n ≤ q → q < l.length → keyLt (rd_T24 l q) x = false)
theorem lay_place (x : S24) : ∀ (l : List S24) (n : Nat), PlaceOf l x n → layS x l = l.take n ++ x :: l.drop n
  | [], n, h => by
    obtain rfl : n = 0 := by have := h.1; simpa using this
    rfl
  | y :: l, 0, h => by
    have h0 := h.2.2 0 (Nat.le_refl _) (by simp)
    rw [rd_at (y :: l) 0 (by simp)] at h0
    have h0' : keyLt y x = false := h0
    simp [layS, h0']
  | y :: l, n + 1, h => by
    have h0 := h.2.1 0 (by omega)
    rw [rd_at (y :: l) 0 (by simp)] at h0
    have h0' : keyLt y x = true := h0
    have hp : PlaceOf l x n := by
      refine ⟨by have := h.1; simp at this; exact this, fun q hq => ?_, fun q hq hl => ?_⟩
      · have hql : q < l.length := by have := h.1; simp at this; omega
        have := h.2.1 (q + 1) (by omega)
        rw [rd_at _ _ (by simp; exact hql)] at this
        rw [rd_at _ _ hql]
        simpa using this
      · have := h.2.2 (q + 1) (by omega) (by simp; exact hl)
        rw [rd_at _ _ (by simp; exact hl)] at this
        rw [rd_at _ _ hl]
        simpa using this
    rw [layS, if_pos h0', lay_place x l n hp]
    rfl
theorem bs_l0 (l : List S24) (x : S24) (hm : l.length ≤ 4000000000000000000) (hs : ∀ p q : Nat, p ≤ q → q < l.length → keyLt (rd_T24 l q) x = true → keyLt (rd_T24 l p) x = true) :
    ∀ (d i j : Nat), j - i ≤ d → i ≤ j → j ≤ l.length → (∀ q : Nat, q < i → keyLt (rd_T24 l q) x = true) → (∀ q : Nat, j ≤ q → q < l.length → keyLt (rd_T24 l q) x = false) →
      ∃ (n : Nat) (b : Bool), Ev (fun k => api_Key_33.l0 k l l.length i j x.f0 x.f1 x.f2) ((n : Int), b) ∧ PlaceOf l x n := by
  have stop : ∀ (i : Nat), i ≤ l.length → (∀ q : Nat, q < i → keyLt (rd_T24 l q) x = true) → (∀ q : Nat, i ≤ q → q < l.length → keyLt (rd_T24 l q) x = false) → ∃ (n : Nat) (b : Bool), Ev (fun k => api_Key_33.l0 k l l.length i i x.f0 x.f1 x.f2) ((n : Int), b) ∧ PlaceOf l x n := by
    intro i hi h1 h2
    by_cases hlt : i < l.length
    · refine ⟨i, (cmpKey (rd_T24 l i) x == 0), ?_, hi, h1, h2⟩
      refine Ev.step (f := fun k => (rank_compare.f k (rd_T24 l i).f0 (rd_T24 l i).f1 (rd_T24 l i).f2 x.f0 x.f1 x.f2).bind fun t => some ((i : Int), (t == 0))) (fun k => ?_) (Ev.bind (compare_ev _ _) (Ev.now _))
      simp only [api_Key_33.l0]
      rw [if_neg (by omega), if_pos (by omega), if_pos (by omega), if_pos (by omega)]
    · refine ⟨i, false, ?_, hi, h1, h2⟩
      refine Ev.step (f := fun _ => some ((i : Int), false)) (fun k => ?_) (Ev.now _)
      simp only [api_Key_33.l0]
      rw [if_neg (by omega), if_neg (by omega)]
  intro d
  induction d with
  | zero =>
    intro i j hd hij hj h1 h2
    obtain rfl : j = i := by omega
    exact stop j hj h1 h2
  | succ d ih =>
    intro i j hd hij hj h1 h2
    by_cases hlt : i < j
    · have hmid1 : i ≤ (i + j) / 2 := by omega
      have hmid2 : (i + j) / 2 < j := by omega
      generalize hM : (i + j) / 2 = m at hmid1 hmid2
      have hstep : ∀ k, api_Key_33.l0 (k + 1) l l.length i j x.f0 x.f1 x.f2 = (rank_compare.f k (rd_T24 l m).f0 (rd_T24 l m).f1 (rd_T24 l m).f2 x.f0 x.f1 x.f2).bind fun t => if t < 0 then api_Key_33.l0 k l l.length ((m + 1 : Nat) : Int) j x.f0 x.f1 x.f2 else api_Key_33.l0 k l l.length i m x.f0 x.f1 x.f2 := by
        intro k
        simp only [api_Key_33.l0]
        rw [mid64 i j (by omega), hM, if_pos (by omega), if_pos (by omega), if_pos (by omega), w64 ((m : Int) + 1) (by omega) (by omega)]
        rfl
      have hneg := cmpKey_neg (rd_T24 l m) x
      by_cases hb : keyLt (rd_T24 l m) x = true
      · obtain ⟨n, b, he, hp⟩ := ih (m + 1) j (by omega) (by omega) hj (fun q hq => hs q m (by omega) (by omega) hb) h2
        refine ⟨n, b, Ev.step hstep (Ev.bind (compare_ev _ _) ?_), hp⟩
        rw [hb] at hneg
        have hc := of_decide_eq_true hneg
        simp only [hc, if_true]
        exact he
      · have hb' : keyLt (rd_T24 l m) x = false := by simpa using hb
        obtain ⟨n, b, he, hp⟩ := ih i m (by omega) hmid1 (by omega) h1 (fun q hq hql => by
          rcases Bool.eq_false_or_eq_true (keyLt (rd_T24 l q) x) with h | h
          · rw [hs m q hq hql h] at hb'; cases hb'
          · exact h)
        refine ⟨n, b, Ev.step hstep (Ev.bind (compare_ev _ _) ?_), hp⟩
        rw [hb'] at hneg
        have hc := of_decide_eq_false hneg
        simp only [hc, if_false]
        exact he
    · obtain rfl : j = i := by omega
      exact stop j hj h1 h2
theorem bs_ev (l : List S24) (x : S24) (hm : l.length ≤ 4000000000000000000) (hs : l.Pairwise (fun a b => keyLe a b = true)) : ∃ (n : Nat) (b : Bool), Ev (fun k => api_Key_33.f k l x.f0 x.f1 x.f2) ((n : Int), b) ∧ n ≤ l.length ∧ l.take n ++ x :: l.drop n = layS x l := by
  have hs' : ∀ p q : Nat, p ≤ q → q < l.length → keyLt (rd_T24 l q) x = true → keyLt (rd_T24 l p) x = true := by
    intro p q hpq hq h
    rcases Nat.eq_or_lt_of_le hpq with rfl | hlt
    · exact h
    · rw [rd_at l q hq] at h
      rw [rd_at l p (by omega)]
      have h2 := (List.pairwise_iff_getElem.1 hs) p q (by omega) hq hlt
      simp [keyLe, keyLt] at h h2 ⊢
      omega
  obtain ⟨n, b, he, hp⟩ := bs_l0 l x hm hs' l.length 0 l.length (by omega) (by omega) (Nat.le_refl _) (fun q hq => absurd hq (Nat.not_lt_zero _)) (fun q h1 h2 => absurd h2 (by omega))
  refine ⟨n, b, ?_, hp.1, (lay_place x l n hp).symm⟩
  unfold api_Key_33.f
  exact he
noncomputable def putK (l : List S24) (x : S24) : List S24 × Int := if checkK l = 0 then (if l.any (fun y => y.f2 == x.f2) = true then ([], 30) else (layS x l, 0)) else ([], checkK l)
theorem rankPut_ev (l : List S24) (x : S24) (hl : l.length < 1000000000000) (hi : idsOk l) : Ev (fun k => rank_Put.f k l x.f0 x.f1 x.f2) (putK l x) := by
  unfold rank_Put.f putK
  refine Ev.bind (check_ev l (by omega) hi) ?_
  by_cases h0 : checkK l = 0
  · simp only [h0, if_true]
    cases hany : l.any (fun y => y.f2 == x.f2) with
    | true =>
      simp only [if_true]
      exact Ev.now _
    | false =>
      simp only [Bool.false_eq_true, if_false]
      obtain ⟨n, b, he, hn, hlay⟩ := bs_ev l x (by omega) (checkK_zero h0).1
      refine Ev.bind he ?_
      simp only [Int.toNat_natCast, hlay]
      rw [if_pos ⟨by omega, by omega, by omega⟩]
      exact Ev.now _
  · simp only [h0, if_false]
    exact Ev.now _
noncomputable def dropK (l : List S24) (i : Int) : List S24 × Bool := if checkK l = 0 then (l.filter (fun x => !(x.f2 == i)), decide ((l.filter (fun x => !(x.f2 == i))).length < l.length)) else ([], false)
theorem rankDrop_ev (l : List S24) (i : Int) (hl : l.length < 1000000000000) (hi : idsOk l) : Ev (fun k => rank_Drop.f k l i) (dropK l i) := by
  unfold rank_Drop.f dropK
  refine Ev.bind (check_ev l (by omega) hi) ?_
  by_cases h0 : checkK l = 0
  · simp only [h0, if_true]
    rw [if_pos (by omega)]
    exact Ev.now _
  · simp only [h0, if_false]
    exact Ev.now _
/-! #### RankPuts -/
/-! #### RankBack -/
theorem checkK_of (l : List S24) (hs : l.Pairwise (fun a b => keyLe a b = true)) (hn : (ids l).Nodup) : checkK l = 0 := by
  have h1 : adjLe l := fun j hj => by
    have h := (List.pairwise_iff_getElem.1 hs) j (j + 1) (by omega) hj (by omega)
    rw [rd_at l (j + 1) hj, rd_at l j (by omega)]
    simpa [keyLe] using h
  unfold checkK
  rw [(twice_false l).2 hn, if_neg (by simp), if_pos ((adj_iff l hn).1 h1)]
theorem lay_sort (x : S24) (m : List S24) : layS x (sortKeys m) = sortKeys (m ++ [x]) :=
  (sortKeys_eq (layS_sorted x _ (sortKeys_sorted m)) ((layS_perm x _).trans (((sortKeys_perm m).cons x).trans (List.perm_append_singleton x m).symm))).symm
theorem ids_perm {l m : List S24} (h : l.Perm m) : (ids l).Perm (ids m) := h.map _
theorem idsOk_perm {l m : List S24} (h : l.Perm m) (hm : idsOk m) : idsOk l := fun x hx => hm x (h.mem_iff.1 hx)
theorem putK_sort (m : List S24) (x : S24) (hn : (ids (m ++ [x])).Nodup) : putK (sortKeys m) x = (sortKeys (m ++ [x]), 0) := by
  have hm : (ids m).Nodup ∧ ∀ y ∈ m, y.f2 ≠ x.f2 := by
    unfold ids at hn
    rw [List.map_append, List.nodup_append] at hn
    exact ⟨hn.1, fun y hy => hn.2.2 _ (List.mem_map_of_mem hy) _ (by simp)⟩
  unfold putK
  rw [if_pos (checkK_of _ (sortKeys_sorted m) ((ids_perm (sortKeys_perm m)).nodup_iff.2 hm.1)), if_neg, lay_sort]
  rw [Bool.not_eq_true, List.any_eq_false]
  intro y hy
  have := hm.2 y ((sortKeys_perm m).mem_iff.1 hy)
  simpa using this
def rotK (l : List S24) (r : Nat) : List S24 := l.drop r ++ l.take r
theorem rotK_perm (l : List S24) (r : Nat) : (rotK l r).Perm l := by
  unfold rotK
  exact List.perm_append_comm.trans (by rw [List.take_append_drop])
theorem rotK_get (l : List S24) (r i : Nat) (hr : r < l.length) (hi : i < l.length) : (rotK l r)[i]? = some (rd_T24 l (((i + r) % l.length : Nat) : Int)) := by
  have hlt : (i + r) % l.length < l.length := Nat.mod_lt _ (by omega)
  rw [rd_at l _ hlt]
  unfold rotK
  by_cases h : i + r < l.length
  · have e : (i + r) % l.length = r + i := by rw [Nat.mod_eq_of_lt h]; omega
    rw [List.getElem?_append_left (by rw [List.length_drop]; omega), List.getElem?_drop, List.getElem?_eq_getElem (by omega)]
    congr 1
    congr 1
    omega
  · have e : (i + r) % l.length = i + r - l.length := by rw [Nat.mod_eq_sub_mod (by omega), Nat.mod_eq_of_lt (by omega)]
    rw [List.getElem?_append_right (by rw [List.length_drop]; omega), List.length_drop, List.getElem?_take_of_lt (by omega), List.getElem?_eq_getElem (by omega)]
    congr 1
    congr 1
    omega
def samK (z y : S24) : Bool := y.f0 == z.f0 && (y.f1 == z.f1 && y.f2 == z.f2)
theorem count_one : ∀ (l : List S24) (z : S24), (ids l).Nodup → z ∈ l → l.countP (samK z) = 1
  | [], _, _, h => by cases h
  | y :: l, z, hn, hz => by
    have hc : (∀ x ∈ l, x.f2 ≠ y.f2) ∧ (ids l).Nodup := by
      unfold ids at hn
      rw [List.map_cons, List.nodup_cons] at hn
      exact ⟨fun x hx e => hn.1 (by rw [← e]; exact List.mem_map_of_mem hx), hn.2⟩
    rw [List.countP_cons]
    rcases List.mem_cons.1 hz with rfl | hz'
    · have h0 : l.countP (samK z) = 0 := List.countP_eq_zero.2 (fun x hx h => hc.1 x hx (by simp [samK] at h; exact h.2.2))
      rw [h0, if_pos (by simp [samK])]
    · rw [count_one l z hc.2 hz', if_neg]
      intro h
      simp [samK] at h
      exact hc.1 z hz' h.2.2.symm
theorem wrapu64 (a : Int) : 0 ≤ IntKind.u64.wrap a := by
  simp only [IntKind.wrap, IntKind.signed, IntKind.bits]
  simp
  omega
theorem wrapu64_nat (n : Nat) (h : n ≤ 1000000) : IntKind.u64.wrap (n : Int) = n := by
  simp only [IntKind.wrap, IntKind.signed, IntKind.bits]
  simp
  omega
theorem turned (a : Int) (i n : Nat) (hn : 0 < n) (h : n ≤ 60) (hi : i < n) : Int.tmod (wrap64 ((i : Int) + (wrap64 (Int.tmod (IntKind.u64.wrap a) (IntKind.u64.wrap (n : Int)))))) (n : Int) = (((i + (IntKind.u64.wrap a % n).toNat) % n : Nat) : Int) := by
  have h0 := wrapu64 a
  rw [wrapu64_nat n (by omega)]
  have e1 : Int.tmod (IntKind.u64.wrap a) (n : Int) = IntKind.u64.wrap a % n := Int.tmod_eq_emod_of_nonneg h0
  have e2 : 0 ≤ IntKind.u64.wrap a % (n : Int) := Int.emod_nonneg _ (by omega)
  have e3 : IntKind.u64.wrap a % (n : Int) < n := Int.emod_lt_of_pos _ (by omega)
  rw [e1]
  generalize IntKind.u64.wrap a % (n : Int) = q at e2 e3 ⊢
  obtain ⟨r, rfl⟩ := Int.eq_ofNat_of_zero_le e2
  have e4 : wrap64 (r : Int) = r := w64 _ (by omega) (by omega)
  have e5 : wrap64 ((i : Int) + (r : Int)) = ((i + r : Nat) : Int) := by rw [w64 _ (by omega) (by omega)]; omega
  rw [e4, e5, Int.toNat_natCast, Int.tmod_eq_emod_of_nonneg (by omega)]
  exact (Int.natCast_emod (i + r) n).symm
theorem back_j3 (l : List S24) (x : S24) (h60 : l.length ≤ 60) (hn : (ids l).Nodup) (hi : idsOk l) (hx : (Lit.int .u32 x.f2).wf = true) : Ev (fun k => gangerlaw03_RankBack.j3 k (sortKeys l) false x.f0 x.f1 x.f2) true := by
  have hlen : (sortKeys l).length = l.length := (sortKeys_perm l).length_eq
  have his : idsOk (sortKeys l) := idsOk_perm (sortKeys_perm l) hi
  refine Ev.step (f := fun k => (rank_Put.f k (sortKeys l) x.f0 x.f1 x.f2).bind fun bt => if bt.2 = 0 then ((rank_Drop.f k bt.1 x.f2).bind fun bt2 => (if bt2.2 = true then ((gangerref03_Same.f k bt2.1 (sortKeys l)).bind fun t => (if t = true then ((gangerlaw03_known.f k).bind fun t2 => some t2) else some false)) else some false)) else (if bt.2 = 30 then ((gangerlaw03_known.f k).bind fun t => some t) else some false)) (fun k => ?_) ?_
  · simp only [gangerlaw03_RankBack.j3]
    rfl
  refine Ev.bind (rankPut_ev _ x (by omega) his) ?_
  cases hany : (sortKeys l).any (fun y => y.f2 == x.f2) with
  | true =>
    have e : putK (sortKeys l) x = ([], 30) := by
      unfold putK
      rw [if_pos (checkK_of _ (sortKeys_sorted l) ((ids_perm (sortKeys_perm l)).nodup_iff.2 hn)), if_pos hany]
    simp only [e]
    exact Ev.bind known_ev (Ev.now _)
  | false =>
    have hne : ∀ y ∈ l, y.f2 ≠ x.f2 := fun y hy => by
      have := (List.any_eq_false.1 hany) y ((sortKeys_perm l).mem_iff.2 hy)
      simpa using this
    have hn2 : (ids (l ++ [x])).Nodup := by
      unfold ids
      rw [List.map_append, List.nodup_append]
      refine ⟨hn, by simp, fun a ha b hb => ?_⟩
      obtain ⟨y, hy, rfl⟩ := List.mem_map.1 ha
      simp at hb
      subst hb
      exact hne y hy
    have hi2 : idsOk (l ++ [x]) := fun y hy => by
      rcases List.mem_append.1 hy with h | h
      · exact hi y h
      · simp at h
        subst h
        exact hx
    rw [putK_sort l x hn2]
    simp only [if_true]
    have hl2 : (sortKeys (l ++ [x])).length = l.length + 1 := by rw [(sortKeys_perm _).length_eq]; simp
    refine Ev.bind (rankDrop_ev _ x.f2 (by omega) (idsOk_perm (sortKeys_perm _) hi2)) ?_
    have hf : (sortKeys (l ++ [x])).filter (fun y => !(y.f2 == x.f2)) = sortKeys l := by
      symm
      refine sortKeys_eq ((sortKeys_sorted _).filter _) ?_
      have h1 := (sortKeys_perm (l ++ [x])).filter (fun y => !(y.f2 == x.f2))
      have h2 : (l ++ [x]).filter (fun y => !(y.f2 == x.f2)) = l := by
        rw [List.filter_append, List.filter_eq_self.2 (fun y hy => by simpa using hne y hy)]
        simp
      rw [h2] at h1
      exact h1
    have e : dropK (sortKeys (l ++ [x])) x.f2 = (sortKeys l, true) := by
      unfold dropK
      rw [if_pos (checkK_of _ (sortKeys_sorted _) ((ids_perm (sortKeys_perm _)).nodup_iff.2 hn2)), hf, decide_eq_true (by omega)]
    simp only [e, if_true]
    refine Ev.bind (same_ev _ (by omega)) ?_
    simp only [if_true]
    exact Ev.bind known_ev (Ev.now _)
theorem back_l2 (l : List S24) (x : S24) (i : Nat) (h60 : l.length ≤ 60) (hi : i < l.length) (hend : Ev (fun k => gangerlaw03_RankBack.l1 k l (sortKeys l) (sortKeys l) ((i + 1 : Nat) : Int) x.f0 x.f1 x.f2) true) :
    ∀ (d j c : Nat), (sortKeys l).length - j = d → c + ((sortKeys l).drop j).countP (samK (rd_T24 l i)) = 1 → Ev (fun k => gangerlaw03_RankBack.l2 k l (sortKeys l) (sortKeys l) i c j x.f0 x.f1 x.f2) true := by
  have hlen : (sortKeys l).length = l.length := (sortKeys_perm l).length_eq
  intro d
  induction d with
  | zero =>
    intro j c hd hc
    rw [List.drop_eq_nil_of_le (by omega), List.countP_nil] at hc
    refine Ev.step (fun k => ?_) hend
    simp only [gangerlaw03_RankBack.l2]
    rw [if_neg (by omega), if_pos (by omega), w64 _ (by omega) (by omega)]
    rfl
  | succ d ih =>
    intro j c hd hc
    have hj : j < (sortKeys l).length := by omega
    rw [List.drop_eq_getElem_cons hj, ← rd_at _ j hj, List.countP_cons] at hc
    by_cases hs : samK (rd_T24 l i) (rd_T24 (sortKeys l) j) = true
    · rw [if_pos hs] at hc
      unfold samK at hs
      refine Ev.step (f := fun k => gangerlaw03_RankBack.l2 k l (sortKeys l) (sortKeys l) i ((c + 1 : Nat) : Int) ((j + 1 : Nat) : Int) x.f0 x.f1 x.f2) (fun k => ?_) (ih (j + 1) (c + 1) (by omega) (by omega))
      simp only [gangerlaw03_RankBack.l2]
      rw [if_pos (by omega), if_pos (by omega), if_pos (by omega), if_pos (by omega), if_pos hs, w64 _ (by omega) (by omega), w64 _ (by omega) (by omega)]
      rfl
    · rw [if_neg hs] at hc
      unfold samK at hs
      refine Ev.step (f := fun k => gangerlaw03_RankBack.l2 k l (sortKeys l) (sortKeys l) i c ((j + 1 : Nat) : Int) x.f0 x.f1 x.f2) (fun k => ?_) (ih (j + 1) c (by omega) (by omega))
      simp only [gangerlaw03_RankBack.l2]
      rw [if_pos (by omega), if_pos (by omega), if_pos (by omega), if_pos (by omega), if_neg hs, w64 _ (by omega) (by omega)]
      rfl
theorem back_l1 (l : List S24) (x : S24) (h60 : l.length ≤ 60) (hn : (ids l).Nodup) (hi : idsOk l) (hx : (Lit.int .u32 x.f2).wf = true) : ∀ (d i : Nat), l.length - i = d → Ev (fun k => gangerlaw03_RankBack.l1 k l (sortKeys l) (sortKeys l) i x.f0 x.f1 x.f2) true := by
  have hlen : (sortKeys l).length = l.length := (sortKeys_perm l).length_eq
  intro d
  induction d with
  | zero =>
    intro i hd
    refine Ev.step (f := fun k => (gangerref03_Same.f k (sortKeys l) (sortKeys l)).bind fun t => if t = true then ((rank_Check.f k (sortKeys l)).bind fun t2 => gangerlaw03_RankBack.j3 k (sortKeys l) (t2 != 0) x.f0 x.f1 x.f2) else gangerlaw03_RankBack.j3 k (sortKeys l) true x.f0 x.f1 x.f2) (fun k => ?_) (Ev.bind (same_ev _ (by omega)) ?_)
    · simp only [gangerlaw03_RankBack.l1]
      rw [if_neg (by omega), if_pos (by omega)]
    · simp only [if_true]
      refine Ev.bind (check_ev _ (by omega) (idsOk_perm (sortKeys_perm l) hi)) ?_
      rw [checkK_of _ (sortKeys_sorted l) ((ids_perm (sortKeys_perm l)).nodup_iff.2 hn)]
      exact back_j3 l x h60 hn hi hx
  | succ d ih =>
    intro i hd
    have hlt : i < l.length := by omega
    have hc : ((sortKeys l).drop 0).countP (samK (rd_T24 l i)) = 1 := by
      rw [List.drop_zero, (sortKeys_perm l).countP_eq]
      exact count_one l _ hn (by rw [rd_at l i hlt]; exact List.getElem_mem _)
    refine Ev.step (f := fun k => gangerlaw03_RankBack.l2 k l (sortKeys l) (sortKeys l) i ((0 : Nat) : Int) ((0 : Nat) : Int) x.f0 x.f1 x.f2) (fun k => ?_) (back_l2 l x i h60 hlt (ih (i + 1) (by omega)) _ 0 0 rfl (by rw [hc]))
    simp only [gangerlaw03_RankBack.l1]
    rw [if_pos (by omega)]
    rfl
theorem back_l0 (l : List S24) (a : Int) (x : S24) (h60 : l.length ≤ 60) (hn : (ids l).Nodup) (hi : idsOk l) (hx : (Lit.int .u32 x.f2).wf = true) : ∀ (d i : Nat), l.length - i = d → i ≤ l.length → Ev (fun k => gangerlaw03_RankBack.l0 k l a (sortKeys l) (sortKeys ((rotK l (IntKind.u64.wrap a % l.length).toNat).take i)) i x.f0 x.f1 x.f2) true := by
  intro d
  induction d with
  | zero =>
    intro i hd hil
    obtain rfl : i = l.length := by omega
    have hp := rotK_perm l (IntKind.u64.wrap a % l.length).toNat
    rw [List.take_of_length_le (by rw [hp.length_eq]; exact Nat.le_refl _), sortKeys_of_perm hp]
    refine Ev.step (f := fun k => gangerlaw03_RankBack.l1 k l (sortKeys l) (sortKeys l) ((0 : Nat) : Int) x.f0 x.f1 x.f2) (fun k => ?_) (back_l1 l x h60 hn hi hx l.length 0 rfl)
    simp only [gangerlaw03_RankBack.l0]
    rw [if_neg (by omega)]
    rfl
  | succ d ih =>
    intro i hd hil
    have hlt : i < l.length := by omega
    have hr : (IntKind.u64.wrap a % (l.length : Int)).toNat < l.length := by
      have e2 : 0 ≤ IntKind.u64.wrap a % (l.length : Int) := Int.emod_nonneg _ (by omega)
      have e3 : IntKind.u64.wrap a % (l.length : Int) < l.length := Int.emod_lt_of_pos _ (by omega)
      omega
    have hturn := turned a i l.length (by omega) h60 hlt
    generalize (IntKind.u64.wrap a % (l.length : Int)).toNat = r at *
    have hg := rotK_get l r i hr hlt
    have hml : (i + r) % l.length < l.length := Nat.mod_lt _ (by omega)
    have hp := rotK_perm l r
    have htk : (rotK l r).take (i + 1) = (rotK l r).take i ++ [rd_T24 l (((i + r) % l.length : Nat) : Int)] := by
      rw [List.take_add_one, hg]
      rfl
    have hn2 : (ids ((rotK l r).take i ++ [rd_T24 l (((i + r) % l.length : Nat) : Int)])).Nodup := by
      rw [← htk]
      have h1 : (ids (rotK l r)).Nodup := (ids_perm hp).nodup_iff.2 hn
      exact h1.sublist ((List.take_sublist _ _).map _)
    have hl1 : ((rotK l r).take i).length ≤ 60 := by rw [List.length_take]; omega
    have his : idsOk (sortKeys ((rotK l r).take i)) := idsOk_perm (sortKeys_perm _) (fun y hy => idsOk_perm hp hi y (List.mem_of_mem_take hy))
    refine Ev.step (f := fun k => (rank_Put.f k (sortKeys ((rotK l r).take i)) (rd_T24 l (((i + r) % l.length : Nat) : Int)).f0 (rd_T24 l (((i + r) % l.length : Nat) : Int)).f1 (rd_T24 l (((i + r) % l.length : Nat) : Int)).f2).bind fun bt => if bt.2 = 0 then gangerlaw03_RankBack.l0 k l a (sortKeys l) bt.1 ((i + 1 : Nat) : Int) x.f0 x.f1 x.f2 else some false) (fun k => ?_) (Ev.bind (rankPut_ev _ _ (by rw [(sortKeys_perm _).length_eq]; omega) his) ?_)
    · simp only [gangerlaw03_RankBack.l0]
      rw [if_pos (by omega), if_neg (by rw [wrapu64_nat _ (by omega)]; omega), if_neg (by omega), hturn, if_pos (by omega), if_pos (by omega), w64 ((i : Int) + 1) (by omega) (by omega)]
      rfl
    · rw [putK_sort _ _ hn2, ← htk]
      simp only [if_true]
      exact ih (i + 1) (by omega) (by omega)
theorem RankBack_ev (l : List S24) (a : Int) (x : S24) (hi : idsOk l) (hx : (Lit.int .u32 x.f2).wf = true) : Ev (fun k => gangerlaw03_RankBack.f k l a x.f0 x.f1 x.f2) true := by
  unfold gangerlaw03_RankBack.f
  by_cases hm : l.length > 60
  · simp only [show (l.length : Int) > 60 by omega, if_true]
    exact Ev.bind known_ev (Ev.now _)
  · simp only [show ¬ (l.length : Int) > 60 by omega, if_false]
    rw [rank_Sort_eq l hi (by omega)]
    simp only [Option.bind_some]
    cases hb : twiceB [] l with
    | true =>
      simp only [if_true]
      exact Ev.bind known_ev (Ev.now _)
    | false =>
      simp only [Bool.false_eq_true, if_false, if_true]
      have h := back_l0 l a x (by omega) ((twice_false l).1 hb) hi hx l.length 0 rfl (Nat.zero_le _)
      simpa [sortKeys] using h
theorem RankBack_law (l : List S24) (a : Int) (x : S24) (h0 : ∀ y ∈ l, keyOk y) (_ : (Lit.int .i64 a).wf = true) (hx : keyOk x) : Ev (fun k => gangerlaw03_RankBack.f k l a x.f0 x.f1 x.f2) true := RankBack_ev l a x (ids_of_keys h0) hx.2.2

end Go.Proofs.Ytbljhjgmpldncaa.PR
