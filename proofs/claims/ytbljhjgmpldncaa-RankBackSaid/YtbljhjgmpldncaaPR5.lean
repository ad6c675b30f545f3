/- Contracts of the program's functions, one plain Lean function for each, written by a program of this session's over the kit's print; Lean checks every line. -/
import Derived.Test.YtbljhjgmpldncaaPR0
import Derived.Laws.CopyOwn
import Derived.Lib.Overlaps
import Derived.Lib.AppendZerosOnto
import Derived.Laws.Externs
namespace Go.Proofs.Ytbljhjgmpldncaa.PR
open Go.RowKit Go.Proofs.YtbljhjgmpldncaaW.PrintWords Go.Proofs.YtbljhjgmpldncaaW.PrintLast Go.Proofs.YtbljhjgmpldncaaW.PrintMore
attribute [local go_sem] max2_int min2_int max_two min_two max_three min_three max_four min_four   -- for this text's walks alone
set_option linter.unusedVariables false
set_option linter.unusedSimpArgs false

/-! ### copy over elements of k cells -/
section
theorem run_copy_rowK {P : Program} (w : World) (dT sT ty elem : TypeId) (k : Nat) (g o dLen dCap : Nat) (a : Addr) (sLen sCap : Nat) (cur : List Value) (t : TypeId) (cs : List Value)
    (hu : P.underlying dT = some (.slice elem)) (hs : (P.info? elem).map (·.size) = some k)
    (hg : w.heap[g]? = some (.cells cur.toArray t (0, 0))) (hn : cs.length = Nat.min sLen dLen * k)
    (hsrc : ∀ j v, cs[j]? = some v → w.cell? (a.add j) = some v) (hfit : o + cs.length ≤ cur.length) (h1 : ∀ v ∈ cs, v.oneCell' = true) :
    (Builtin.copy_ #[dT, sT] ty #[.slice (some ⟨g, o, none⟩) dLen dCap, .slice (some a) sLen sCap]).run P w =
      .ok (goInt (Nat.min sLen dLen)) (w.setRow g (splice cur o cs).toArray) := by
  have hl := run_loadCells_list (P := P) w a cs hsrc
  have hst := run_storeCells_at P g o t cs 0 cur.toArray w hg (by simpa using hfit) h1
  cases hq : P.info? elem with
  | none => simp [hq] at hs
  | some i =>
    have hi : i.size = k := by simpa [hq] using hs
    simp [Builtin.copy_, run_underlying hu, Builtin.lenOf, Builtin.firstCells, sizeOf, typeInfo, hq, hi, ← hn, hl, hst, splice]
theorem wpList_copyK {P : Program} {w : World} {ops : Array Oper} {rest : List Oper} {o : Oper} {a : Act} {Q : Exit → Act → World → Prop} (hgd : o.guard = none) (d s : Operand) (dT sT : TypeId)
    (ho : o.op = .call { callee := .builtin .copy, args := #[d, s], argTypes := #[dT, sT] }) (elem : TypeId) (k : Nat) (hu : P.underlying dT = some (.slice elem)) (hsz : (P.info? elem).map (·.size) = some k)
    (g off dLen dCap : Nat) (ad : Addr) (sLen sCap : Nat) (hd : a.eval d = .slice (some ⟨g, off, none⟩) dLen dCap) (hs : a.eval s = .slice (some ad) sLen sCap)
    (cur : List Value) (t : TypeId) (hg : w.heap[g]? = some (.cells cur.toArray t (0, 0))) (cs : List Value) (hn : cs.length = Nat.min sLen dLen * k)
    (hsrc : ∀ j v, cs[j]? = some v → w.cell? (ad.add j) = some v) (hfit : off + cs.length ≤ cur.length) (h1 : ∀ v ∈ cs, v.oneCell' = true) (B : Nat) (w0 : World) (hb : Below B w0 w) (hBg : B ≤ g)
    (h : ∀ w', Aside0 (w'.heap[g]? = some (.cells (splice cur off cs).toArray t (0, 0))) → Aside0 (Below B w0 w') → Aside0 (w.grownBy w' (some g)) → wpList P ops Q rest (a.put o.dst (goInt (Nat.min sLen dLen))) w') : wpList P ops Q (o :: rest) a w := by
  refine wpList_plain hgd fun K hK => ?_
  have hrun := run_copy_rowK (P := P) w dT sT o.type elem k g off dLen dCap ad sLen sCap cur t cs hu hsz hg hn hsrc hfit h1
  unfold Oper.wp
  simp only [execOp, ho, resolve, invoke, builtin, Sem.run_bind, Sem.run_pure, Result.andThen_ok, List.map_toArray, List.map_cons, List.map_nil, hd, hs, hrun]
  exact hK _ _ (h _ ⟨setRow_heap w g _ _ t _ hg⟩ ⟨below_setRow hb hBg _⟩ ⟨⟨rfl, rfl, rfl, by simp [World.setRow], fun j _ hne => setRow_other w g j _ (fun e => hne (by rw [e]))⟩⟩)
theorem step_copyK {P : Program} {ops : Array Oper} {o : Oper} {a : Act} {w : World} {K : Act → World → Prop} {Q : Exit → Act → World → Prop} {E : Prop} (hgd : o.guard = none) (d s : Operand) (dT sT : TypeId)
    (ho : o.op = .call { callee := .builtin .copy, args := #[d, s], argTypes := #[dT, sT] }) (elem : TypeId) (k : Nat) (hu : P.underlying dT = some (.slice elem)) (hsz : (P.info? elem).map (·.size) = some k)
    (g off dLen dCap : Nat) (ad : Addr) (sLen sCap : Nat) (hd : a.eval d = .slice (some ⟨g, off, none⟩) dLen dCap) (hs : a.eval s = .slice (some ad) sLen sCap)
    (cur : List Value) (t : TypeId) (hg : w.heap[g]? = some (.cells cur.toArray t (0, 0))) (cs : List Value) (hn : cs.length = Nat.min sLen dLen * k)
    (hsrc : ∀ j v, cs[j]? = some v → w.cell? (ad.add j) = some v) (hfit : off + cs.length ≤ cur.length) (h1 : ∀ v ∈ cs, v.oneCell' = true) (B : Nat) (w0 : World) (hb : Below B w0 w) (hBg : B ≤ g)
    (h : ∀ w', Aside0 (w'.heap[g]? = some (.cells (splice cur off cs).toArray t (0, 0))) → Aside0 (Below B w0 w') → Aside0 (w.grownBy w' (some g)) → K (a.put o.dst (goInt (Nat.min sLen dLen))) w') :
    if Region.wanted o (yielded ops a.tmps) = true then Oper.wp P o a w K Q else E := by
  have hw : Region.wanted o (yielded ops a.tmps) = true := by simp [Region.wanted, hgd]
  rw [if_pos hw]
  have hrun := run_copy_rowK (P := P) w dT sT o.type elem k g off dLen dCap ad sLen sCap cur t cs hu hsz hg hn hsrc hfit h1
  unfold Oper.wp
  simp only [execOp, ho, resolve, invoke, builtin, Sem.run_bind, Sem.run_pure, Result.andThen_ok, List.map_toArray, List.map_cons, List.map_nil, hd, hs, hrun]
  exact h _ ⟨setRow_heap w g _ _ t _ hg⟩ ⟨below_setRow hb hBg _⟩ ⟨⟨rfl, rfl, rfl, by simp [World.setRow], fun j _ hne => setRow_other w g j _ (fun e => hne (by rw [e]))⟩⟩
/-- The row behind the two copies of Insert where there is room. -/
theorem splice_shift' {α : Type} (cur : List α) (p q k : Nat) (x : List α) (hx : x.length = k) (h1 : p ≤ q) (hc : q + k ≤ cur.length) :
    (splice (splice cur (p + k) ((cur.take q).drop p)) p x).take (q + k) = (cur.take q).take p ++ (x ++ (cur.take q).drop p) := by
  have hl : ((cur.take q).drop p).length = q - p := by rw [List.length_drop, List.length_take, Nat.min_eq_left (by omega)]
  have hlT : (cur.take (p + k)).length = p + k := by rw [List.length_take, Nat.min_eq_left (by omega)]
  generalize hT : (cur.take q).drop p = T at *
  unfold splice
  have e1 : (cur.take (p + k) ++ (T ++ cur.drop (p + k + T.length))).take p = cur.take p := by
    rw [List.take_append_of_le_length (by omega), List.take_take, Nat.min_eq_left (by omega)]
  have e2 : (cur.take (p + k) ++ (T ++ cur.drop (p + k + T.length))).drop (p + x.length) = T ++ cur.drop (p + k + T.length) := by
    rw [hx, List.drop_append, List.drop_eq_nil_of_le (by omega), List.nil_append, hlT, Nat.sub_self, List.drop_zero]
  have hlp : (cur.take p).length = p := by rw [List.length_take, Nat.min_eq_left (by omega)]
  rw [e1, e2, List.take_take, Nat.min_eq_left h1, List.take_append, List.take_of_length_le (by omega), hlp]
  congr 1
  rw [List.take_append, List.take_of_length_le (by omega), hx]
  congr 1
  rw [List.take_append_of_le_length (by omega), List.take_of_length_le (by omega)]
theorem splice_shift {α : Type} (cur : List α) (i n k : Nat) (x : List α) (hx : x.length = k) (hi : i ≤ n) (hc : (n + 1) * k ≤ cur.length) :
    (splice (splice cur ((i + 1) * k) ((cur.take (n * k)).drop (i * k))) (i * k) x).take ((n + 1) * k) = (cur.take (n * k)).take (i * k) ++ (x ++ (cur.take (n * k)).drop (i * k)) := by
  rw [Nat.succ_mul] at hc
  rw [Nat.succ_mul, Nat.succ_mul]
  exact splice_shift' cur _ _ k x hx (Nat.mul_le_mul_right _ hi) hc
/-- The row behind the two copies of Insert into a new row. -/
theorem splice_new' {α : Type} (A Z : List α) (p q k : Nat) (x T : List α) (hx : x.length = k) (hA : A.length = p) (hT : T.length = q - p) (h1 : p ≤ q) (hZ : q + k ≤ (A ++ Z).length) :
    (splice (splice (A ++ Z) p x) (p + k) T).take (q + k) = A ++ (x ++ T) := by
  rw [List.length_append] at hZ
  unfold splice
  have e1 : (A ++ Z).take p = A := by rw [← hA]; simp
  rw [e1]
  have e2 : (A ++ (x ++ (A ++ Z).drop (p + x.length))).take (p + k) = A ++ x := by
    rw [← List.append_assoc, List.take_append_of_le_length (by rw [List.length_append]; omega), List.take_of_length_le (by rw [List.length_append]; omega)]
  rw [e2, List.take_append, List.take_of_length_le (by rw [List.length_append]; omega), List.append_assoc, List.length_append]
  congr 1
  congr 1
  rw [List.take_append_of_le_length (by omega), List.take_of_length_le (by omega)]
theorem splice_new {α : Type} (A Z : List α) (i n k : Nat) (x T : List α) (hx : x.length = k) (hA : A.length = i * k) (hT : T.length = n * k - i * k) (hi : i ≤ n) (hZ : (n + 1) * k ≤ (A ++ Z).length) :
    (splice (splice (A ++ Z) (i * k) x) ((i + 1) * k) T).take ((n + 1) * k) = A ++ (x ++ T) := by
  rw [Nat.succ_mul] at hZ
  rw [Nat.succ_mul, Nat.succ_mul]
  exact splice_new' A Z _ _ k x T hx hA hT (Nat.mul_le_mul_right _ hi) hZ
/-- append(s[:i], make([]T, m)...) where there is no room: a new row. -/
theorem wpList_append_zeros_new {P : Program} {w : World} {ops : Array Oper} {rest : List Oper} {o : Oper} {a : Act} {Q : Exit → Act → World → Prop} (hgd : o.guard = none) (s x : Operand) (t tn e : TypeId) (z : Value) (k bytes : Nat)
    (ho : o.op = .call { callee := .builtin .append, args := #[s, x], argTypes := #[t, tn] }) (ht : P.underlying t = some (.slice e)) (htn : P.underlying tn = some (.int .i64))
    (hinfo : (P.info? e).map (fun i => (i.zero, i.size, i.bytes)) = some (some z, k, bytes)) (hz : z.cells.size = k) (hk : 0 < k)
    (ad : Addr) (n c m : Nat) (u : Value) (hs : a.eval s = .slice (some ad) n c) (hx : a.eval x = u) (hu : u = .int .i64 (m : Int)) (olds : List Value) (hol : olds.length = n * k) (hold : ∀ j v, olds[j]? = some v → w.cell? (ad.add j) = some v)
    (hm : 0 < m) (hg : c < n + m) (hbig : (n + m) * bytes ≤ 140737488355328) (hmax : n + m ≤ maxLen)
    (h : ∀ (w' : World) (G : Nat) (Z : List Value), n + m ≤ G → G ≤ maxLen → Aside0 ((olds ++ Z).length = G * k) → Aside0 (w'.heap[w.heap.size]? = some (.cells (olds ++ Z).toArray e (0, 0))) → Aside0 (Below w.heap.size w w') → wpList P ops Q rest (a.put o.dst (.slice (some ⟨w.heap.size, 0, none⟩) (n + m) G)) w') : wpList P ops Q (o :: rest) a w := by
  subst hu
  obtain ⟨i0, hi0, hq⟩ := Option.map_eq_some_iff.1 hinfo
  simp only [Prod.mk.injEq] at hq
  obtain ⟨hz0, hz1, hz2⟩ := hq
  have hfirst : (Builtin.firstCells i0.size n (.slice (some ad) n c)).run P w.drew = .ok olds.toArray w.drew := by
    rw [hz1]
    exact run_firstCells_some w.drew k n ad n c olds hol (fun j v hj => hold j v hj)
  have h63 : ((n + m : Nat) : Int) ≤ 9223372036854775807 := by unfold maxLen at hmax; omega
  have hrun := Lib.run_append_grow_zeros (P := P) w t tn o.type e i0 z .i64 .i64 ht htn hi0 hz0 (some ad) n c olds hfirst m hm (by omega) hg h63 (by rw [hz2]; have : m * bytes ≤ (n + m) * bytes := Nat.mul_le_mul_right _ (by omega); omega) (by rw [hz2]; exact growslice_fits hg hbig)
  refine Lib.wpList_append_run w hgd s x t tn ho _ _ hs hx _ _ hrun ?_
  have hG1 := grownCap_ge w (n + m) c e
  have hG2 := grownCap_le_maxLen w (n + m) c e hmax
  generalize grownCap w (n + m) c e = G at hG1 hG2 ⊢
  have hzc : ∀ q, (Builtin.zeroCells z.cells q).size = q * k := fun q => by simp [Builtin.zeroCells, hz]
  have harr : olds.toArray ++ Builtin.zeroCells z.cells m ++ Builtin.zeroCells z.cells (G - (n + m)) = (olds ++ ((Builtin.zeroCells z.cells m).toList ++ (Builtin.zeroCells z.cells (G - (n + m))).toList)).toArray := by
    apply Array.ext'
    simp
  rw [harr]
  refine h (w.drew.alloc (.cells (olds ++ ((Builtin.zeroCells z.cells m).toList ++ (Builtin.zeroCells z.cells (G - (n + m))).toList)).toArray e)) G ((Builtin.zeroCells z.cells m).toList ++ (Builtin.zeroCells z.cells (G - (n + m))).toList) hG1 hG2 (Aside0.mk ?_) (Aside0.mk ?_) (Aside0.mk ?_)
  · have e1 : (Builtin.zeroCells z.cells m).toList.length = m * k := by rw [Array.length_toList, hzc]
    have e2 : (Builtin.zeroCells z.cells (G - (n + m))).toList.length = (G - (n + m)) * k := by rw [Array.length_toList, hzc]
    rw [List.length_append, List.length_append, e1, e2, hol, ← Nat.add_mul, ← Nat.add_mul]
    congr 1
    omega
  · exact heap_alloc_new w.drew _
  · exact below_alloc (below_drew1 (Below.refl _ _)) _
/-- A whole element stored into a row that is known. -/
theorem wpList_storeK {P : Program} {w : World} {ops : Array Oper} {rest : List Oper} {o : Oper} {a : Act} {Q : Exit → Act → World → Prop} (hgd : o.guard = none) (ty : TypeId) (x y : Operand) (ho : o.op = .store ty x y) (k : Nat) (hsz : (P.info? ty).map (·.size) = some k)
    (g off : Nat) (vs : List Value) (hx : a.eval x = .pointer (some ⟨g, off, none⟩)) (hy : (a.eval y).cells = vs.toArray) (hvs : vs.length = k)
    (cur : List Value) (t : TypeId) (hg : w.heap[g]? = some (.cells cur.toArray t (0, 0))) (hfit : off + k ≤ cur.length) (h1 : ∀ v ∈ vs, v.oneCell' = true) (B : Nat) (w0 : World) (hb : Below B w0 w) (hBg : B ≤ g)
    (h : ∀ w', Aside0 (w'.heap[g]? = some (.cells (splice cur off vs).toArray t (0, 0))) → Aside0 (Below B w0 w') → Aside0 (w.grownBy w' (some g)) → wpList P ops Q rest (a.put o.dst undef) w') : wpList P ops Q (o :: rest) a w := by
  refine wpList_plain hgd fun K hK => ?_
  have hst := run_storeCells_at P g off t vs 0 cur.toArray w hg (by simpa using (by omega : off + vs.length ≤ cur.length)) h1
  have hrun : (Instr.storeAt ty (.pointer (some ⟨g, off, none⟩)) (a.eval y)).run P w = .ok () (w.setRow g (splice cur off vs).toArray) := by
    cases hq : P.info? ty with
    | none => simp [hq] at hsz
    | some i =>
      have hi : i.size = k := by simpa [hq] using hsz
      simp [Instr.storeAt, Instr.sureAddr, storeVar, hy, sizeOf, typeInfo, hq, hi, hvs, hst, splice]
  unfold Oper.wp execOp
  simp only [ho, hx, Sem.run_bind, Sem.run_pure, hrun, Result.andThen_ok]
  exact hK _ _ (h _ ⟨setRow_heap w g _ _ t _ hg⟩ ⟨below_setRow hb hBg _⟩ ⟨⟨rfl, rfl, rfl, by simp [World.setRow], fun j _ hne => setRow_other w g j _ (fun e => hne (by rw [e]))⟩⟩)
/-- clear(s[i:]) over a row that is known: what lies behind turns; what lies ahead stays. -/
theorem wpList_clearK {P : Program} {w : World} {ops : Array Oper} {rest : List Oper} {o : Oper} {a : Act} {Q : Exit → Act → World → Prop} (hgd : o.guard = none) (d : Operand) (dT elem : TypeId) (k : Nat) (z : Value)
    (ho : o.op = .call { callee := .builtin .clear, args := #[d], argTypes := #[dT] }) (hu : P.underlying dT = some (.slice elem)) (hz : ∀ w, (zeroValue elem).run P w = .ok z w) (hzk : z.cells.size = k) (hz1 : ∀ v ∈ z.cells.toList, v.oneCell' = true)
    (ad : Addr) (g off n c : Nat) (had : 0 < n → ad = ⟨g, off, none⟩) (hd : a.eval d = .slice (some ad) n c) (cur : List Value) (t : TypeId) (hg : w.heap[g]? = some (.cells cur.toArray t (0, 0))) (hfit : off + n * k ≤ cur.length) (B : Nat) (w0 : World) (hb : Below B w0 w) (hBg : B ≤ g)
    (h : ∀ (w' : World) (cur' : List Value), cur'.length = cur.length → Aside0 (cur'.take off = cur.take off) → Aside0 (w'.heap[g]? = some (.cells cur'.toArray t (0, 0))) → Aside0 (Below B w0 w') → wpList P ops Q rest (a.put o.dst (.tuple #[])) w') : wpList P ops Q (o :: rest) a w := by
  refine wpList_plain hgd fun K hK => ?_
  cases n with
  | zero =>
    have hrun : (Builtin.clear_ #[dT] o.type #[.slice (some ad) 0 c]).run P w = .ok (.tuple #[]) w := by simp [Builtin.clear_, run_underlying hu]
    unfold Oper.wp execOp
    simp only [ho, resolve, invoke, builtin, Sem.run_bind, Sem.run_pure, Result.andThen_ok, List.map_toArray, List.map_cons, List.map_nil, hd, hrun]
    exact hK _ _ (h _ cur rfl ⟨rfl⟩ ⟨hg⟩ ⟨hb⟩)
  | succ n =>
    obtain rfl := had (by omega)
    have hzl : ((Builtin.zeroCells z.cells (n + 1)).toList).length = (n + 1) * k := by simp [Builtin.zeroCells, hzk]
    have hall : ∀ v ∈ (Builtin.zeroCells z.cells (n + 1)).toList, v.oneCell' = true := fun v hv => by
      simp only [Builtin.zeroCells, Array.toList_map, Array.toList_range, List.mem_map, List.mem_range] at hv
      obtain ⟨i, hi, rfl⟩ := hv
      have hk0 : 0 < z.cells.size := Nat.pos_of_ne_zero fun e => by rw [e] at hi; simp at hi
      have hlt := Nat.mod_lt i hk0
      rw [getElem!_pos z.cells _ hlt]
      exact hz1 _ (Array.getElem_mem_toList hlt)
    have hst := run_storeCells_at P g off t (Builtin.zeroCells z.cells (n + 1)).toList 0 cur.toArray w hg (by rw [hzl]; simpa using hfit) hall
    have hrun : (Builtin.clear_ #[dT] o.type #[.slice (some ⟨g, off, none⟩) (n + 1) c]).run P w = .ok (.tuple #[]) (w.setRow g (splice cur off (Builtin.zeroCells z.cells (n + 1)).toList).toArray) := by
      simp [Builtin.clear_, run_underlying hu, hz, hst, splice]
    unfold Oper.wp execOp
    simp only [ho, resolve, invoke, builtin, Sem.run_bind, Sem.run_pure, Result.andThen_ok, List.map_toArray, List.map_cons, List.map_nil, hd, hrun]
    refine hK _ _ (h _ (splice cur off (Builtin.zeroCells z.cells (n + 1)).toList) (length_splice _ _ _ (by rw [hzl]; exact hfit)) ⟨?_⟩ ⟨setRow_heap w g _ _ t _ hg⟩ ⟨below_setRow hb hBg _⟩)
    unfold splice
    rw [List.take_append_of_le_length (by rw [List.length_take]; omega), List.take_take, Nat.min_self]
end

end Go.Proofs.Ytbljhjgmpldncaa.PR
