/- Contracts of the program's functions, one plain Lean function for each, written by a program of this session's over the kit's print; Lean checks every line. -/
import Derived.Test.YtbljhjgmpldncaaPR0
import Derived.Test.YtbljhjgmpldncaaPR4
import Derived.Test.YtbljhjgmpldncaaPR7
import Derived.Test.YtbljhjgmpldncaaPR8
import Derived.Test.YtbljhjgmpldncaaPR9
import Derived.Shelf.SlGeneric
import Derived.Shelf.SlSortCmp.NoneTotal
import Derived.Ground.SlsfProg
namespace Go.Proofs.Ytbljhjgmpldncaa.PR
open Go.RowKit Go.Proofs.YtbljhjgmpldncaaW.PrintWords Go.Proofs.YtbljhjgmpldncaaW.PrintLast Go.Proofs.YtbljhjgmpldncaaW.PrintMore
attribute [local go_sem] max2_int min2_int max_two min_two max_three min_three max_four min_four   -- for this text's walks alone
set_option linter.unusedVariables false
set_option linter.unusedSimpArgs false

/-! ### rank_Sort: function 22: by hand, over the library's own contract of slices.SortFunc -/
def sortKey_ren : Go.Shelf.Ren := ⟨fun | 6 => 39 | 15 => 51 | 14 => 50 | 28 => 63 | 29 => 64 | 20 => 55 | 21 => 56 | 22 => 57 | 23 => 58 | 24 => 59 | 25 => 60 | 26 => 61 | 27 => 62 | 46 => 66 | 47 => 67 | 48 => 68 | 49 => 69 | 50 => 70 | 57 => 71 | n => n, fun | 22 => 32 | 24 => 24 | 25 => 51 | 3 => 3 | 39 => 46 | 0 => 0 | 53 => 22 | 55 => 49 | 4 => 4 | 46 => 82 | 45 => 81 | 50 => 59 | 5 => 5 | 9 => 9 | 66 => 90 | 70 => 94 | 76 => 96 | 77 => 97 | n => n, fun | n => n⟩
theorem sortKey : Go.Proofs.SlLaysF0.n6 Try.prog sortKey_ren := {
  mixed := by kernel_rfl
  f6 := ⟨Try.f39.name, by decide, Try.func39.trans (congrArg some (by kernel_rfl))⟩
  f14 := ⟨Try.f50.name, by decide, Try.func50.trans (congrArg some (by kernel_rfl))⟩
  f15 := Try.func51.trans (congrArg some (by kernel_rfl))
  f20 := ⟨Try.f55.name, by decide, Try.func55.trans (congrArg some (by kernel_rfl))⟩
  f21 := ⟨Try.f56.name, by decide, Try.func56.trans (congrArg some (by kernel_rfl))⟩
  f22 := ⟨Try.f57.name, by decide, Try.func57.trans (congrArg some (by kernel_rfl))⟩
  f23 := ⟨Try.f58.name, by decide, Try.func58.trans (congrArg some (by kernel_rfl))⟩
  f24 := ⟨Try.f59.name, by decide, Try.func59.trans (congrArg some (by kernel_rfl))⟩
  f25 := ⟨Try.f60.name, by decide, Try.func60.trans (congrArg some (by kernel_rfl))⟩
  f26 := ⟨Try.f61.name, by decide, Try.func61.trans (congrArg some (by kernel_rfl))⟩
  f27 := ⟨Try.f62.name, by decide, Try.func62.trans (congrArg some (by kernel_rfl))⟩
  f28 := Try.func63.trans (congrArg some (by kernel_rfl))
  f29 := Try.func64.trans (congrArg some (by kernel_rfl))
  f46 := ⟨Try.f66.name, by decide, Try.func66.trans (congrArg some (by kernel_rfl))⟩
  f47 := Try.func67.trans (congrArg some (by kernel_rfl))
  f48 := Try.func68.trans (congrArg some (by kernel_rfl))
  f49 := ⟨Try.f69.name, by decide, Try.func69.trans (congrArg some (by kernel_rfl))⟩
  f50 := ⟨Try.f70.name, by decide, Try.func70.trans (congrArg some (by kernel_rfl))⟩
  f57 := ⟨Try.f71.name, by decide, Try.func71.trans (congrArg some (by kernel_rfl))⟩
  t0 := Try.underlying0
  a0 := Try.isAgg0
  z0 := Try.sizeOf0
  v0 := Try.zeroValue0
  t3 := Try.underlying3
  a3 := Try.isAgg3
  z3 := Try.sizeOf3
  v3 := Try.zeroValue3
  t4 := Try.underlying4
  a4 := Try.isAgg4
  z4 := Try.sizeOf4
  v4 := Try.zeroValue4
  t5 := Try.underlying5
  a5 := Try.isAgg5
  z5 := Try.sizeOf5
  v5 := Try.zeroValue5
  t9 := Try.underlying9
  a9 := Try.isAgg9
  z9 := Try.sizeOf9
  v9 := Try.zeroValue9
  t22 := Try.underlying32
  a22 := Try.isAgg32
  z22 := Try.sizeOf32
  v22 := Try.zeroValue32
  t25 := Try.underlying51
  a25 := Try.isAgg51
  z25 := Try.sizeOf51
  v25 := Try.zeroValue51
  t39 := Try.underlying46
  a39 := Try.isAgg46
  z39 := Try.sizeOf46
  v39 := Try.zeroValue46
  t45 := Try.underlying81
  a45 := Try.isAgg81
  z45 := Try.sizeOf81
  v45 := Try.zeroValue81
  t46 := Try.underlying82
  a46 := Try.isAgg82
  z46 := Try.sizeOf82
  v46 := Try.zeroValue82
  t50 := Try.underlying59
  a50 := Try.isAgg59
  z50 := Try.sizeOf59
  v50 := Try.zeroValue59
  t53 := Try.underlying22
  a53 := Try.isAgg22
  z53 := Try.sizeOf22
  v53 := Try.zeroValue22
  t55 := Try.underlying49
  a55 := Try.isAgg49
  z55 := Try.sizeOf49
  v55 := Try.zeroValue49
  t66 := Try.underlying90
  a66 := Try.isAgg90
  z66 := Try.sizeOf90
  v66 := Try.zeroValue90
  t70 := Try.underlying94
  a70 := Try.isAgg94
  z70 := Try.sizeOf94
  v70 := Try.zeroValue94
  t76 := Try.underlying96
  a76 := Try.isAgg96
  z76 := Try.sizeOf96
  v76 := Try.zeroValue96
  t77 := Try.underlying97
  a77 := Try.isAgg97
  z77 := Try.sizeOf97
  v77 := Try.zeroValue97 }
instance : Inhabited S24 := ⟨z24⟩
def enc24 (x : S24) : List Value := [.int .i64 x.f0, .int .i64 x.f1, .int .u32 x.f2]
theorem plain24 : Plain k24 3 enc24 where
  sz := rfl
  len := fun _ => rfl
  one := fun x u hu => by
    simp [enc24] at hu
    rcases hu with rfl | rfl | rfl <;> rfl
  M := fun w base ok x cs => ⟨k24_openM, fun h => by rw [h]; exact k24_mkM w base ok x⟩
  K := fun w x cs => ⟨k24_open, fun h => by rw [h]; exact k24_mk w x⟩
def cmp3 (a b : Int) : Int := if a < b then -1 else if a > b then 1 else 0
def cmpKey (x y : S24) : Int := if cmp3 y.f0 x.f0 ≠ 0 then cmp3 y.f0 x.f0 else if cmp3 x.f1 y.f1 ≠ 0 then cmp3 x.f1 y.f1 else cmp3 x.f2 y.f2
theorem compare_int (a b : Int) : cmp_Compare_int.f a b = some (cmp3 a b) := by
  unfold cmp_Compare_int.f cmp_isNaN_int.f cmp3
  simp
  split
  · rfl
  · split <;> rfl
theorem compare_u32 (a b : Int) : cmp_Compare_uint32.f a b = some (cmp3 a b) := by
  unfold cmp_Compare_uint32.f cmp_isNaN_uint32.f cmp3
  simp
  split
  · rfl
  · split <;> rfl
theorem wrap_1 : wrap64 (0 + 1) = 1 := by unfold wrap64; omega
theorem wrap_2 : wrap64 (1 + 1) = 2 := by unfold wrap64; omega
theorem wrap_3 : wrap64 (2 + 1) = 3 := by unfold wrap64; omega
theorem or3 (k : Nat) (a b c : Int) : cmp_Or_int.f (k + 4) [a, b, c] = some (if a ≠ 0 then a else if b ≠ 0 then b else c) := by
  unfold cmp_Or_int.f
  simp only [cmp_Or_int.l0, wrap_1, wrap_2, wrap_3, show rd [a, b, c] 0 = a from rfl, show rd [a, b, c] 1 = b from rfl, show rd [a, b, c] 2 = c from rfl]
  by_cases ha : a = 0
  · by_cases hb : b = 0
    · by_cases hc : c = 0
      · simp [ha, hb, hc]
      · simp [ha, hb, hc]
    · simp [ha, hb]
  · simp [ha]
theorem compare_key (k : Nat) (x y : S24) : rank_compare.f (k + 4) x.f0 x.f1 x.f2 y.f0 y.f1 y.f2 = some (cmpKey x y) := by
  unfold rank_compare.f
  rw [compare_int, compare_int, compare_u32]
  simp only [Option.bind_some]
  rw [or3]
  rfl
/-- Does a key come ahead of another one? -/
def keyLt (x y : S24) : Bool := decide (x.f0 > y.f0 ∨ x.f0 = y.f0 ∧ (x.f1 < y.f1 ∨ x.f1 = y.f1 ∧ x.f2 < y.f2))
theorem cmpKey_neg (x y : S24) : decide (cmpKey x y < 0) = keyLt x y := by
  unfold cmpKey cmp3 keyLt
  rw [Bool.eq_iff_iff]
  simp only [decide_eq_true_eq]
  repeat' split
  all_goals omega
theorem lt_key (x y : S24) : ltOf cmpKey x y = keyLt x y := by
  unfold ltOf
  exact cmpKey_neg x y
theorem swoKey : Go.Sort.SWO (ltOf cmpKey) where
  irrefl x := by rw [lt_key]; simp [keyLt]
  trans x y z h1 h2 := by rw [lt_key] at *; simp [keyLt] at *; omega
  ntrans x y z h1 h2 := by rw [lt_key] at *; simp [keyLt] at *; omega
theorem cmpLays25 (blk off size : Nat) (w : World) : CmpLays Try.prog 25 #[] enc24 3 cmpKey blk off size w := fun m os dk _ x y => by
  have h := rank_compare.callsG 4 x.f0 x.f1 x.f2 y.f0 y.f1 y.f2 _ (sortWorldK enc24 3 w blk off m dk os) (compare_key 0 x y)
  exact h
def keyLe (x y : S24) : Bool := !keyLt y x
def sortKeys (l : List S24) : List S24 := l.mergeSort keyLe
theorem cmp_apart (x y : S24) (h1 : ltOf cmpKey x y = false) (h2 : ltOf cmpKey y x = false) : x = y := by
  rw [lt_key] at *
  obtain ⟨a, b, c⟩ := x
  obtain ⟨a', b', c'⟩ := y
  simp [keyLt] at *
  omega
/-- slices.SortFunc over a row of the call's own. -/
theorem sortFunc_own {w0 W : World} {ok : Nat → Prop} (A : Option Addr) (n c : Nat) (xs : List S24) (hn : n = xs.length) (hR : Kd.R k24 24 W w0.heap.size ok (.slice A n c) xs) (hB : Below w0.heap.size w0 W) (hl : xs.length < 5864062014805) :
    Calls Try.prog 39 #[.slice A n c, .func (.func 25) #[] #[]] W fun e w' => e = .returned (.tuple #[]) ∧ Kd.R k24 24 w' w0.heap.size ok (.slice A n c) (sortKeys xs) ∧ Below w0.heap.size w0 w' := by
  have eg : ∀ args w, (callFunc 25 args).run Try.prog w = .ok (.enter 25 args) w := enters_of Try.func25 (by kernel_rfl) rfl
  cases A with
  | none =>
    have h0 : xs = [] := by
      rcases (plain24.own hR).2 with ⟨h1, h2⟩ | ⟨g, cap, cur, h1, _⟩
      · exact List.length_eq_zero_iff.1 h2
      · cases h1
    subst h0
    have hn0 : n = 0 := hn
    subst hn0
    have h := AnyF.slices_SortFunc_none (P := Try.prog) (ρ := sortKey_ren) { sortKey with } none c (.func (.func 25) #[] #[]) W
    refine Calls.mono h ?_
    rintro e w' ⟨rfl, rfl⟩
    exact ⟨rfl, by simpa [sortKeys] using hR, hB⟩
  | some ad =>
    obtain ⟨g, rfl⟩ : ∃ g, ad = ⟨g, 0, none⟩ := by
      rcases (plain24.own hR).2 with ⟨h1, _⟩ | ⟨g, cap, cur, h1, _⟩
      · cases h1
      · injection h1 with h1
        injection h1 with h1
        exact ⟨g, h1⟩
    obtain ⟨hH, hg, hbg⟩ := plain24.holds hR
    have h := AnyQ.slices_SortFunc_total sortKey 3 Try.isAgg24 Try.sizeOf24 enc24 plain24.len plain24.one cmpKey swoKey 25 #[] g 0 c xs.toArray W eg (cmpLays25 g 0 _ W) hH hg (by simp; omega) cmp_apart
    subst hn
    refine Calls.mono h ?_
    rintro e w' ⟨rfl, m, os, rfl⟩
    have hs : (xs.mergeSort fun x y => !(ltOf cmpKey) y x) = sortKeys xs := by
      unfold sortKeys
      congr 1
      funext x y
      rw [lt_key]
      rfl
    rw [show xs.toArray.toList = xs from rfl, hs]
    refine ⟨rfl, plain24.sorted hR (by simp [sortKeys]) m os, ?_⟩
    exact hB.grown (sortWorldK_grown W g m _ os) hB.size (fun k hk => by injection hk with hk; omega)
def rank_Sort.f (l0 : List S24) : Option (List S24 × Int) := (rank_twice.f l0).bind fun t => if t = true then some ([], 30) else if l0.length < 5864062014805 then some (sortKeys l0, 0) else none
set_option maxHeartbeats 1000000 in
set_option maxRecDepth 100000 in
theorem rank_Sort.calls (A0 : Option Addr) (c0 : Nat) (l0 : List S24) (r1 : List S24) (r2 : Int) (w : World) (hr0 : Kd.C k24 w A0 l0.length l0) (hc0 : l0.length ≤ c0) (h : rank_Sort.f l0 = some (r1, r2)) :
    Calls Try.prog 22 #[.slice A0 l0.length c0] w fun e w' => ∃ v0_ : Value, e = .returned (.tuple #[v0_, .int .i64 r2]) ∧ Kd.R k24 24 w' w.heap.size (fun _ => True) v0_ r1 ∧ Below w.heap.size w w' := by
  unfold rank_Sort.f at h
  obtain ⟨t, ht, h⟩ := Option.bind_eq_some_iff.1 h
  have HT := Aside0.mk ht
  have HR0 := Aside0.mk hr0
  have HC0 := Aside0.mk hc0
  clear ht hr0 hc0
  cases t with
  | true =>
    rw [if_pos rfl] at h
    cases h
    go_enter Try.func22, Try.ntmps22
    go_wp2_with fail
    refine (rank_twice.calls A0 c0 l0 true _ HR0.out HC0.out HT.out).mono ?_
    rintro e w1 ⟨rfl, hb⟩
    have HB := Aside0.mk hb
    clear hb
    go_wp2_with fail
    go_ret2
    exact ⟨_, rfl, Kd.R_nil _ _ _ _ _, HB.out⟩
  | false =>
    rw [if_neg (by simp)] at h
    split at h
    · have HL := Aside0.mk ‹l0.length < 5864062014805›
      cases h
      rename_i hll
      clear hll
      go_enter Try.func22, Try.ntmps22
      go_wp2_with fail
      refine (rank_twice.calls A0 c0 l0 false _ HR0.out HC0.out HT.out).mono ?_
      rintro e w1 ⟨rfl, hb⟩
      have HB := Aside0.mk hb
      clear hb
      go_wp2_with fail
      refine (slices_Clone.calls A0 c0 l0 l0 _ (Kd.C_below HR0.out HB.out) HC0.out (by unfold slices_Clone.f; rw [if_pos HL.out])).mono ?_
      rintro e w2 ⟨v, rfl, ho, hb⟩
      have HO := Aside0.mk (Kd.R_lower ho HB.out.size)
      have HB2 := Aside0.mk (below_step HB.out hb)
      clear ho hb HB
      obtain ⟨A, c, rfl⟩ := Kd.R_slice HO.out
      go_wp2_with fail
      refine (sortFunc_own A l0.length c l0 rfl HO.out HB2.out HL.out).mono ?_
      rintro e w3 ⟨rfl, ho, hb⟩
      have HO3 := Aside0.mk ho
      have HB3 := Aside0.mk hb
      clear ho hb HB2 HO
      go_wp2_with fail
      go_ret2
      exact ⟨_, rfl, HO3.out, HB3.out⟩
    · simp at h

end Go.Proofs.Ytbljhjgmpldncaa.PR
