/- Contracts of the program's functions, one plain Lean function for each, written by a program of this session's over the kit's print; Lean checks every line. -/
import Derived.Test.YtbljhjgmpldncaaPR0
import Derived.WalkSpells
namespace Go.Proofs.Ytbljhjgmpldncaa.PR
open Go.RowKit Go.Proofs.YtbljhjgmpldncaaW.PrintWords Go.Proofs.YtbljhjgmpldncaaW.PrintLast Go.Proofs.YtbljhjgmpldncaaW.PrintMore
attribute [local go_sem] max2_int min2_int max_two min_two max_three min_three max_four min_four   -- for this text's walks alone
set_option linter.unusedVariables false
set_option linter.unusedSimpArgs false

/-! ### slices_Clone: function 35: by hand -/
def slices_Clone.f (l0 : List S24) : Option (List S24) := if l0.length < 5864062014805 then some l0 else none
theorem R_made0 {α : Type} (d : Kd α) (e : Nat) (W : World) (base : Nat) (hb : base ≤ W.heap.size) : Kd.R d e (W.alloc (.cells #[] e)) base (fun _ => True) (.slice (some ⟨W.heap.size, 0, none⟩) 0 0) [] :=
  ⟨fun _ _ => trivial, by simpa using OwnRow.lit (R := d.M (W.alloc (.cells #[] e)) base (fun k => True ∧ some k ≠ Value.ownBlock (.slice (some ⟨W.heap.size, 0, none⟩) 0 0))) (e := e) (size := d.sz) W base (Reps.none _ _) hb (by simp)⟩
set_option maxHeartbeats 1000000 in
set_option maxRecDepth 100000 in
theorem slices_Clone.calls (A0 : Option Addr) (c0 : Nat) (l0 : List S24) (r : List S24) (w : World) (hr0 : Kd.C k24 w A0 l0.length l0) (hc0 : l0.length ≤ c0) (h : slices_Clone.f l0 = some r) :
    Calls Try.prog 35 #[.slice A0 l0.length c0] w fun e w' => ∃ v0_ : Value, e = .returned v0_ ∧ Kd.R k24 24 w' w.heap.size (fun _ => True) v0_ r ∧ Below w.heap.size w w' := by
  obtain ⟨hl, rfl⟩ : l0.length < 5864062014805 ∧ l0 = r := by
    unfold slices_Clone.f at h
    split at h
    · exact ⟨‹_›, by simpa using h⟩
    · simp at h
  clear h
  have HL := Aside0.mk hl
  have HR0 := Aside0.mk hr0
  have HC0 := Aside0.mk hc0
  clear hl hr0 hc0
  have HB := Aside0.mk (Below.refl w.heap.size w)
  cases A0 with
  | none =>
    have h0 : l0 = [] := by
      cases l0 with
      | nil => rfl
      | cons x l => obtain ⟨ad, e, _⟩ := HR0.out.2.2 (by simp); cases e
    subst h0
    have heq := fun W => Lib.run_eql_slice_nil (P := Try.prog) W 32 24 none 0 c0 0 0 Try.underlying32
    go_enter Try.func35, Try.ntmps35
    go_wp2_with fail
    go_ret
    exact ⟨_, rfl, Kd.R_nil _ _ _ _ _, HB.out⟩
  | some ad =>
    have heq := fun W => Lib.run_eql_slice_nil (P := Try.prog) W 32 24 (some ad) l0.length c0 0 0 Try.underlying32
    go_enter Try.func35, Try.ntmps35
    go_wp2_with (first | ((with_reducible refine gate_builtin (b := .append) (xs := #[.tmp 5, .tmp 6]) rfl ?_); at_builtin; go_loud (refine Kd.R_append_rows k24 (w0 := w) w.heap.size rfl (.tmp 5) (.tmp 6) 32 24 (.agg #[(.int .i64 0), (.int .i64 0), (.int .u32 0)]) 24 rfl Try.underlying32 info24 rfl (by decide) (by omega) (.slice (some ⟨w.heap.size, 0, none⟩) 0 0) ([] : List S24) l0 _ _ _ (fun _ => True) (fun _ => False) rfl rfl ?aO ?aR (fun _ _ h => h) (fun _ h => h.elim) ?aF ?aB ?aS ?aL ?_); (case aR => exact Kd.C_alloc HR0.out _); (case aB => exact below_alloc HB.out _); (case aF => exact (fun _ _ => trivial)); (case aO => exact R_made0 _ _ _ _ (Nat.le_refl _)); (case aS => simp); (case aL => have := HL.out; simp; omega); intro v177 w3 ho hb hg hat))
    go_ret
    exact ⟨_, rfl, by simpa using ho, hb⟩

end Go.Proofs.Ytbljhjgmpldncaa.PR
