/- Contracts of the program's functions, one plain Lean function for each, written by a program of this session's over the kit's print; Lean checks every line. -/
import Derived.Test.YtbljhjgmpldncaaPR0
import Derived.Maps.OwnOps
import Derived.Maps.OwnSet
import Derived.Maps.Views
namespace Go.Proofs.Ytbljhjgmpldncaa.PR
open Go.RowKit Go.Proofs.YtbljhjgmpldncaaW.PrintWords Go.Proofs.YtbljhjgmpldncaaW.PrintLast Go.Proofs.YtbljhjgmpldncaaW.PrintMore
attribute [local go_sem] max2_int min2_int max_two min_two max_three min_three max_four min_four   -- for this text's walks alone
set_option linter.unusedVariables false
set_option linter.unusedSimpArgs false

/-! ### rank_twice: function 28: by hand -/
/-- A map of the call's own whose elements are bools: what it says of each key. -/
def BMap (P : Program) (k e : TypeId) (w : World) (b n : Nat) (f : Lit → Bool) : Prop :=
  ∃ D : DataW Unit, w.ownsMap P k (plainElem P e) b n D ∧ Go.Maps.IsMap D ∧ ∀ kl, D.atKey kl (.lit (.bool false)) = .lit (.bool (f kl))
noncomputable def updK (f : Lit → Bool) (kl : Lit) (x : Bool) : Lit → Bool := fun l => @ite _ (l = kl) (Classical.propDecidable _) x (f l)
theorem updK_same (f : Lit → Bool) (kl : Lit) (x : Bool) : updK f kl x kl = x := by simp [updK]
theorem updK_other (f : Lit → Bool) {kl l : Lit} (x : Bool) (h : l ≠ kl) : updK f kl x l = f l := by simp [updK, h]
theorem BMap.made (P : Program) (k e : TypeId) (w : World) : BMap P k e (w.alloc (.map #[] 0)) w.heap.size 0 (fun _ => false) :=
  ⟨_, World.ownsMap_made w P k _, Go.Maps.isMap_empty, fun _ => rfl⟩
theorem BMap.kept {P : Program} {k e : TypeId} {w w' : World} {b n : Nat} {f : Lit → Bool} {row : Option Nat} (h : BMap P k e w b n f) (hg : w.grownBy w' row) (hne : some b ≠ row) : BMap P k e w' b n f := by
  obtain ⟨D, h1, h2, h3⟩ := h
  exact ⟨D, h1.kept hg hne, h2, h3⟩
theorem BMap.below {P : Program} {k e : TypeId} {w w' : World} {b n : Nat} {f : Lit → Bool} (h : BMap P k e w b n f) (hb : Below w.heap.size w w') : BMap P k e w' b n f := h.kept (grown_of_below hb none) (by simp)
theorem BMap.look {P : Program} {k e t : TypeId} {w : World} {b n : Nat} {f : Lit → Bool} (h : BMap P k e w b n f) (K : Go.Maps.Keyed P k) (ht : P.underlying t = some (.map k e)) (he : P.underlying e = some .bool) (hz : (zeroValue e).run P w = .ok (.bool false) w)
    {key : Value} {kl : Lit} (hkey : keyOf P k key = some kl) : (Instr.lookup t (.map (some b)) key false).run P w = .ok (.bool (f kl)) w := by
  obtain ⟨D, h1, h2, h3⟩ := h
  obtain ⟨v, ps, hrun, hv⟩ := h1.lookup K ht hz (plainElem_bool he false) hkey
  rw [h3] at hv
  have : v = .bool (f kl) := by
    unfold plainElem at hv
    rw [he] at hv
    cases v <;> simp at hv
    rw [hv.1]
  rw [hrun, this]
theorem BMap.put {P : Program} {k e t : TypeId} {w : World} {b n : Nat} {f : Lit → Bool} (h : BMap P k e w b n f) (K : Go.Maps.Keyed P k) (ht : P.underlying t = some (.map k e)) (he : P.underlying e = some .bool) (hn : n < maxLen)
    {key : Value} {kl : Lit} (hkey : keyOf P k key = some kl) (hk : WideAt.IsKeyLit kl) (x : Bool) : ∃ w', (Instr.mapUpdate t (.map (some b)) key (.bool x)).run P w = .ok () w' ∧ BMap P k e w' b (n + 1) (updK f kl x) ∧ w.grownBy w' (some b) := by
  obtain ⟨D, h1, h2, h3⟩ := h
  obtain ⟨w', hrun, h1', hg⟩ := h1.update K ht hn hkey (plainElem_bool he x)
  refine ⟨w', hrun, ⟨_, h1', h2.put _ _, fun l => ?_⟩, hg⟩
  by_cases hl : l = kl
  · subst hl
    rw [updK_same, Go.Maps.atKey_put_same h2 hk]
  · rw [updK_other _ _ hl, Go.Maps.atKey_put_other hl, h3]
section
variable {P : Program} {ops : Array Oper} {rest : List Oper} {o : Oper} {a : Act} {Q : Exit → Act → World → Prop}
theorem BMap.wp_look {w : World} {k e : TypeId} {b n : Nat} {f : Lit → Bool} (h : BMap P k e w b n f) (hg : o.guard = none) (m x : Operand) (t : TypeId) (hop : o.op = Op.lookup t m x false)
    (K : Go.Maps.Keyed P k) (ht : P.underlying t = some (.map k e)) (he : P.underlying e = some .bool) (hz : (zeroValue e).run P w = .ok (.bool false) w)
    (hm : a.eval m = .map (some b)) (key : Value) (kl : Lit) (hx : a.eval x = key) (hkey : keyOf P k key = some kl)
    (y : Bool) (hy : f kl = y) (hK : wpList P ops Q rest (a.put o.dst (.bool y)) w) : wpList P ops Q (o :: rest) a w := by
  refine wpList_plain hg fun K' hK' => ?_
  have hrun := h.look K ht he hz hkey
  rw [hy] at hrun
  unfold Oper.wp
  simp [execOp, hop, hm, hx, hrun, Result.andThen]
  exact hK' _ _ hK
theorem BMap.wp_put {w : World} {k e : TypeId} {b n : Nat} {f : Lit → Bool} (h : BMap P k e w b n f) (hg : o.guard = none) (m x v : Operand) (t : TypeId) (hop : o.op = Op.mapUpdate t m x v)
    (K : Go.Maps.Keyed P k) (ht : P.underlying t = some (.map k e)) (he : P.underlying e = some .bool) (hn : n < maxLen)
    (hm : a.eval m = .map (some b)) (key : Value) (kl : Lit) (y : Bool) (hx : a.eval x = key) (hv : a.eval v = .bool y) (hkey : keyOf P k key = some kl) (hk : WideAt.IsKeyLit kl)
    (hK : ∀ w', BMap P k e w' b (n + 1) (updK f kl y) → w.grownBy w' (some b) → wpList P ops Q rest (a.put o.dst undef) w') : wpList P ops Q (o :: rest) a w := by
  refine wpList_plain hg fun K' hK' => ?_
  obtain ⟨w', hrun, r1, r2⟩ := h.put K ht he hn hkey hk y
  unfold Oper.wp
  simp [execOp, hop, hm, hx, hv, hrun, Result.andThen]
  exact hK' _ _ (hK w' r1 r2)
end
/-- Have two one ID? (IDs that are 32 bits.) -/
def idsOk (l : List S24) : Prop := ∀ x ∈ l, (Lit.int .u32 x.f2).wf = true
instance (l : List S24) : Decidable (idsOk l) := by unfold idsOk; infer_instance
def twiceB : List Int → List S24 → Bool
  | _, [] => false
  | seen, x :: l => if seen.contains x.f2 then true else twiceB (x.f2 :: seen) l
def rank_twice.f (l0 : List S24) : Option Bool := if idsOk l0 then some (twiceB [] l0) else none
theorem key22 : Go.Maps.Keyed Try.prog 22 := Go.Maps.int_keyed Try.underlying22
theorem zero4 (w : World) : (zeroValue 4).run Try.prog w = .ok (.bool false) w := by kernel_rfl
theorem twice_drop (l : List S24) (i : Nat) (hi : i < l.length) (seen : List Int) : twiceB seen (l.drop i) = if seen.contains (rd_T24 l i).f2 then true else twiceB ((rd_T24 l i).f2 :: seen) (l.drop (i + 1)) := by
  rw [List.drop_eq_getElem_cons hi]
  simp [twiceB, rd_T24, List.getD_eq_getElem?_getD, List.getElem?_eq_getElem hi]
theorem twice_drop' (l : List S24) (x : Int) (h0 : 0 ≤ x) (hlt : x < l.length) (seen : List Int) : twiceB seen (l.drop x.toNat) = if seen.contains (rd_T24 l x).f2 then true else twiceB ((rd_T24 l x).f2 :: seen) (l.drop (x + 1).toNat) := by
  obtain ⟨i, rfl⟩ := Int.eq_ofNat_of_zero_le h0
  rw [show ((i : Int) + 1).toNat = i + 1 by omega]
  exact twice_drop l i (by omega) seen
set_option maxHeartbeats 1000000 in
set_option maxRecDepth 100000 in
theorem rank_twice.calls (A0 : Option Addr) (c0 : Nat) (l0 : List S24) (r : Bool) (w : World) (hr0 : Kd.C k24 w A0 l0.length l0) (hc0 : l0.length ≤ c0) (h : rank_twice.f l0 = some r) :
    Calls Try.prog 28 #[.slice A0 l0.length c0] w fun e w' => e = .returned (.bool r) ∧ Below w.heap.size w w' := by
  obtain ⟨hids, hr⟩ : idsOk l0 ∧ twiceB [] l0 = r := by
    unfold rank_twice.f at h
    split at h
    · exact ⟨‹_›, by simpa using h⟩
    · simp at h
  clear h
  have hm0 : l0.length ≤ 9223372036854775807 := hr0.2.1
  have HR := Aside0.mk hr
  have HR0 := Aside0.mk hr0
  have HI := Aside0.mk hids
  clear hr hr0 hids
  have hmm := @run_makeMap Try.prog
  have hu24 := Try.underlying24
  have hB0 := Aside0.mk (Below.refl w.heap.size w)
  go_enter Try.func28, Try.ntmps28
  go_wp2_with fail
  go_loopw [9] (fun v wr => ∃ (x : Int) (seen : List Int) (f : Lit → Bool), v = .int .i64 x ∧ 0 ≤ x ∧ x ≤ l0.length ∧ Aside0 (twiceB seen (l0.drop x.toNat) = r) ∧ Aside0 (BMap Try.prog 22 4 wr w.heap.size x.toNat f) ∧ Aside0 (∀ x : Int, f (.int .u32 x) = seen.contains x) ∧ Aside0 (Below w.heap.size w wr)) (fun v _ => l0.length - (intOf v).toNat)
  case atStart => exact ⟨0, [], _, rfl, by omega, by omega, by simpa using HR, ⟨BMap.made _ _ _ _⟩, ⟨fun _ => rfl⟩, ⟨below_alloc hB0.out _⟩⟩
  case round =>
    clear hB0 HR
    obtain ⟨x, seen, f, rfl, h0, hi, HT, HM, HF, HB⟩ := hrel
    by_cases hlt : x < l0.length
    · obtain ⟨ad, e1, g0, g1, g2⟩ := at_T24 (Kd.C_below HR0.out (HB.out)) x h0 hlt
      cases e1
      have hwf : (Lit.int .u32 (rd_T24 l0 x).f2).wf = true := HI.out _ (by rw [rd_T24, List.getD_eq_getElem?_getD, List.getElem?_eq_getElem (by omega), Option.getD_some]; exact List.getElem_mem _)
      have HT' := HT.out
      rw [twice_drop' l0 x h0 hlt] at HT'
      have HM1 := HM.out.below (below_alloc (Below.refl _ _) (.cells #[.int .i64 (rd_T24 l0 x).f0, .int .i64 (rd_T24 l0 x).f1, .int .u32 (rd_T24 l0 x).f2] 24))
      have HB1 := below_alloc HB.out (.cells #[.int .i64 (rd_T24 l0 x).f0, .int .i64 (rd_T24 l0 x).f1, .int .u32 (rd_T24 l0 x).f2] 24)
      have hcf0 := HF.out (rd_T24 l0 x).f2
      have HM1' := Aside0.mk HM1
      have HB1' := Aside0.mk HB1
      have hwf' := Aside0.mk hwf
      have hszl := HB.out.size
      clear HM HB HM1 HB1 hwf HT
      by_cases hc : seen.contains (rd_T24 l0 x).f2 = true
      · have hcf := Aside0.mk (hcf0.trans hc)
        clear hcf0
        rw [if_pos hc] at HT'
        clear hc
        subst HT'
        go_wp2_with (at_lookup; go_loud (refine BMap.wp_look HM1'.out rfl _ _ 72 rfl key22 Try.underlying72 Try.underlying4 (zero4 _) rfl _ _ rfl (Go.Maps.keyOf_int_mk Try.underlying22 hwf'.out) _ hcf.out ?_))
        go_ret
        exact ⟨rfl, HB1'.out⟩
      · rw [Bool.not_eq_true] at hc
        have hcf := Aside0.mk (hcf0.trans hc)
        clear hcf0
        rw [hc, if_neg (by simp)] at HT'
        have HT := Aside0.mk HT'
        clear HT'
        have hc' := Aside0.mk hc
        clear hc
        have hsz : w.heap.size < wr.heap.size + 1 := by omega
        go_wp2_with (first | (at_lookup; refine BMap.wp_look HM1'.out rfl _ _ 72 rfl key22 Try.underlying72 Try.underlying4 (zero4 _) rfl _ _ rfl (Go.Maps.keyOf_int_mk Try.underlying22 hwf'.out) _ hcf.out ?_) | (at_mapUpdate; go_loud (refine BMap.wp_put HM1'.out rfl _ _ _ 72 rfl key22 Try.underlying72 Try.underlying4 ?hn rfl _ _ true rfl rfl (Go.Maps.keyOf_int_mk Try.underlying22 hwf'.out) ?hk ?_; (case hn => (simp only [maxLen]; omega)); (case hk => trivial); intro w1 HM2 HG2)))
        go_roundw
        case measure => simp [intOf]; omega
        case rel =>
          refine ⟨x + 1, (rd_T24 l0 x).f2 :: seen, updK f (Lit.int IntKind.u32 (rd_T24 l0 x).f2) true, rfl, by omega, by omega, HT, ⟨?_⟩, ⟨fun y => ?_⟩, ⟨?_⟩⟩
          · rw [show (x + 1).toNat = x.toNat + 1 by omega]
            exact HM2
          · by_cases hy : y = (rd_T24 l0 x).f2
            · subst hy
              simp [updK_same]
            · rw [updK_other _ _ (by simpa using hy), HF.out]
              simp [hy]
          · exact pw_below_grown HB1'.out _ (by simp; omega) HG2 (by simp)
    · go_wp2_with fail
      go_ret
      have HT' := HT.out
      rw [List.drop_eq_nil_of_le (by omega)] at HT'
      exact ⟨by rw [← HT']; rfl, HB.out⟩

end Go.Proofs.Ytbljhjgmpldncaa.PR
