/- A region that leaves its order open, by an invariant over what has been carried out: one obligation an operation, whatever the order. -/
import Derived.Test.YtbjnpomcgcbflaaDoorBase
import Derived.Orders
set_option linter.unusedVariables false
set_option linter.unusedSimpArgs false
namespace Go.Proofs.YtbjnpomcgcbflaaDoor
open Go.RowKit Go.Deep

theorem getD_set_any (l : Array Bool) (i j : Nat) (hi : i < l.size) : ((l.setIfInBounds i true).getD j false = true) ↔ (l.getD j false = true ∨ j = i) := by
  by_cases h : j = i
  · subst h
    simp [Array.getD_eq_getD_getElem?, hi]
  · have : (l.setIfInBounds i true)[j]? = l[j]? := by
      rw [Array.getElem?_setIfInBounds]
      rw [if_neg (fun e => h e.symm)]
    simp [Array.getD_eq_getD_getElem?, this, h]
theorem count_set (l : List Bool) : ∀ (i : Nat), l[i]? = some false → (l.set i true).count false + 1 = l.count false := by
  induction l with
  | nil => intro i h; simp at h
  | cons b l ih =>
    intro i h
    cases i with
    | zero =>
      simp at h
      subst h
      simp
    | succ i =>
      have := ih i (by simpa using h)
      simp only [List.set_cons_succ, List.count_cons]
      omega

theorem set_self (t : Array Value) (i : Nat) : t.setIfInBounds i (t.getD i undef) = t := by
  apply Array.ext_getElem?
  intro j
  rw [Array.getElem?_setIfInBounds]
  by_cases h : i = j
  · subst h
    by_cases hi : i < t.size
    · simp [hi, Array.getD_eq_getD_getElem?]
    · simp [hi]
  · rw [if_neg h]

theorem heap_keep {w w' : World} {b : Nat} {o : Obj} (h : w.heap[b]? = some o) (hb : Below w.heap.size w w') : w'.heap[b]? = some o := (hb.block b (Array.getElem?_eq_some_iff.1 h).1).trans h
theorem type_ne {w : World} {b b' : Nat} {c c' : Array Value} {t t' : TypeId} {f f' : Nat × Nat} (h : w.heap[b]? = some (.cells c t f)) (h' : w.heap[b']? = some (.cells c' t' f')) (hn : t ≠ t') : b ≠ b' := by
  intro e
  subst e
  rw [h] at h'
  injection h' with h'
  injection h' with _ ht _
  exact hn ht

theorem wp_region_inv {P : Program} {id : Nat} {ops : Array Oper} {Q : Exit → Act → World → Prop} {a : Act} {w : World} (hm : P.follows .mixedOrders = true)
    (hlt : ∀ i o, ops[i]? = some o → ∀ e ∈ o.after, Region.binds .any e = true → e.on < i)
    (I : (Nat → Prop) → Act → World → Prop) (h0 : I (fun _ => False) a w.drew)
    (hs : ∀ (D : Nat → Prop) (i : Nat) (o : Oper) (a : Act) (w : World), ops[i]? = some o → ¬ D i → (∀ e ∈ o.after, Region.binds .any e = true → D e.on) → I D a w →
      ∀ K : Act → World → Prop, (∀ a w, I (fun j => D j ∨ j = i) a w → K a w) → if Region.wanted o (yielded ops a.tmps) then o.wp P a w K Q else K (a.put o.dst undef) w)
    (h1 : ∀ (D : Nat → Prop) (a : Act) (w : World), (∀ i, i < ops.size → D i) → I D a w → Q .normal a w) : (Code.region id ops true).wp P Q a w := by
  have key : ∀ (fuel : Nat) (listed : Array Bool) (a : Act) (w : World), listed.size = ops.size → listed.toList.count false ≤ fuel → I (fun j => listed.getD j false = true) a w → wpAny P .any ops Q fuel listed a w := by
    intro fuel
    induction fuel with
    | zero =>
      intro listed a w hsz hc hi
      have hall : ∀ i, i < ops.size → listed.getD i false = true := by
        intro i hi
        have hne : false ∉ listed.toList := List.count_eq_zero.1 (by omega)
        cases hv : listed.getD i false with
        | true => rfl
        | false =>
          refine absurd ?_ hne
          have : listed[i]? = some false := by
            rw [Array.getD_eq_getD_getElem?, Array.getElem?_eq_getElem (by omega)] at hv
            rw [Array.getElem?_eq_getElem (by omega)]
            simpa using hv
          exact List.mem_of_getElem? (i := i) (by simpa using this)
      refine ⟨?_, h1 _ _ _ hall hi⟩
      rw [List.eq_nil_iff_forall_not_mem]
      intro j hj
      obtain ⟨hjf, o, ho, _⟩ := mem_ready.1 hj
      have hjs : j < ops.size := (Array.getElem?_eq_some_iff.1 ho).1
      have := hall j hjs
      rw [Array.getD_eq_getD_getElem?, Array.getElem?_eq_getElem (by omega)] at this hjf
      simp at this hjf
      rw [this] at hjf
      cases hjf
    | succ fuel ih =>
      intro listed a w hsz hc hi
      refine ⟨fun hr => ?_, fun i hir => ?_⟩
      · refine h1 _ _ _ (fun i hi => ?_) hi
        -- the least that is not listed would be ready
        induction i using Nat.strongRecOn with
        | _ i ihl =>
          cases hv : listed.getD i false with
          | true => rfl
          | false =>
            exfalso
            have hmem : i ∈ Region.ready .any ops listed := by
              refine mem_ready.2 ⟨?_, ops[i], Array.getElem?_eq_getElem hi, fun e he hb => ihl _ (hlt i _ (Array.getElem?_eq_getElem hi) e he hb) (by have := hlt i _ (Array.getElem?_eq_getElem hi) e he hb; omega)⟩
              rw [Array.getD_eq_getD_getElem?, Array.getElem?_eq_getElem (by omega)] at hv ⊢
              simpa using hv
            rw [hr] at hmem
            cases hmem
      · obtain ⟨hif, o, ho, hpre⟩ := mem_ready.1 hir
        have his : i < ops.size := (Array.getElem?_eq_some_iff.1 ho).1
        have hif' : ¬ (listed.getD i false = true) := by
          rw [Array.getD_eq_getD_getElem?, Array.getElem?_eq_getElem (by omega)] at hif ⊢
          simp at hif ⊢
          exact hif
        have hst := hs _ i o a w ho hif' hpre hi _ (fun _ _ h => h)
        have hle : listed[i]? = some false := by
          rw [Array.getD_eq_getD_getElem?, Array.getElem?_eq_getElem (by omega)] at hif
          rw [Array.getElem?_eq_getElem (by omega)]
          simpa using hif
        have hcount := count_set listed.toList i (by simpa using hle)
        have hnext : ∀ a w, I (fun j => listed.getD j false = true ∨ j = i) a w → wpAny P .any ops Q fuel (listed.setIfInBounds i true) a w := fun a w h => by
          refine ih _ a w (by simpa using hsz) (by simp only [Array.toList_setIfInBounds]; omega) ?_
          have e : (fun j => (listed.setIfInBounds i true).getD j false = true) = (fun j => listed.getD j false = true ∨ j = i) := by
            funext j
            exact propext (getD_set_any listed i j (by omega))
          rw [e]
          exact h
        unfold wpOp
        rw [ho]
        simp only
        split
        · rename_i hw
          rw [if_pos hw] at hst
          left
          unfold Oper.wp at hst ⊢
          generalize (execOp a.eval o).run P w = r at *
          cases r with
          | ok n w' =>
            cases n with
            | value v => exact hnext _ _ hst
            | skip => exact hnext _ _ hst
            | defer d => exact hnext _ _ hst
            | enter f args =>
              exact Calls.mono hst fun e w'' he => by
                cases e with
                | returned v => exact hnext _ _ he
                | panicked c => exact he
                | outgrown => exact he
            | row r args => exact Rows.mono hst fun v w'' h => hnext _ _ h
            | _ => exact hst
          | halt h w' =>
            cases h with
            | panic v => exact hst
            | _ => exact hst
        · rename_i hw
          rw [if_neg hw] at hst
          exact hnext _ _ hst
  exact wp_region_any hm (key ops.size _ a _ (by simp) (by simp [List.count_replicate]) (by
    have e : (fun j => (Array.replicate ops.size false).getD j false = true) = (fun _ => False) := by
      funext j
      refine propext ⟨fun h => ?_, fun h => h.elim⟩
      rw [Array.getD_eq_getD_getElem?] at h
      by_cases hj : j < ops.size
      · simp [hj] at h
      · simp [hj] at h
    rw [e]
    exact h0))

/-- A region of a function's code, by its number. -/
def regionOf (n : Nat) : Code → Option Code
  | .region id ops d => if id = n then some (.region id ops d) else none
  | .seq a b => match regionOf n a with
    | some c => some c
    | none => regionOf n b
  | .block _ c => regionOf n c
  | .loop c => regionOf n c
  | .scope c => regionOf n c
  | .cond _ a b => match regionOf n a with
    | some c => some c
    | none => regionOf n b
  | _ => none
def regOf (f : Func) (n : Nat) : Code := (f.body.bind (regionOf n)).getD .skip

/-! ### The same over what the slots hold: no frame written out -/
def evalS (σ : Nat → Value) : Operand → Value
  | .tmp t => σ t
  | .const v => v
  | .global g => .pointer (some ⟨g, 0, none⟩)
  | .func f => .func (.func f) #[] #[]
def putS (σ : Nat → Value) (d : Option Tmp) (v : Value) : Nat → Value :=
  match d with
  | some d => fun t => if t = d then v else σ t
  | none => σ
def wantedS (ops : Array Oper) (o : Oper) (σ : Nat → Value) : Bool :=
  match o.guard with
  | none => true
  | some (j, want) => (match ((ops[j]?).bind (·.dst)) with | some d => (match σ d with | .bool b => some b | _ => none) | none => none) == some want
/-- What an operation comes to, over what the slots hold. -/
def uponS (P : Program) (a : Act) (K : Value → World → Prop) (Q : Exit → Act → World → Prop) : Result Next → Prop
  | .ok (.value v) w' => K v w'
  | .ok .skip w' => K undef w'
  | .ok (.enter f args) w' => Calls P f args w' fun
      | .returned v, w'' => K v w''
      | .panicked chain, w'' => Q (.panic chain) a w''
      | .outgrown, _ => LetsOut Q
  | .ok (.row row args) w' => Rows P row args w' fun v w'' => K v w''
  | _ => False
def stepS (P : Program) (o : Oper) (σ : Nat → Value) (a : Act) (w : World) (K : Value → World → Prop) (Q : Exit → Act → World → Prop) : Prop := uponS P a K Q ((execOp (evalS σ) o).run P w)

attribute [simp, go_sem] evalS uponS
theorem stepS_load_mid {P : Program} {o : Oper} {σ : Nat → Value} {a : Act} {w : World} {K : Value → World → Prop} {Q : Exit → Act → World → Prop} (ty : TypeId) (x : Operand) (ho : o.op = .load ty x)
    (b off : Nat) (hx : evalS σ x = .pointer (some ⟨b, off, none⟩)) (cs : List Value) (d : TypeDesc) (hc : w.rangeAt b off cs)
    (hu : P.underlying ty = some d) (hd : d.isRow = true) (hi : (P.info? ty).map (·.size) = some cs.length) (h : K (.agg cs.toArray) w) : stepS P o σ a w K Q := by
  unfold stepS execOp
  simp only [ho, hx, Instr.loadAt, Instr.sureAddr, Sem.run_bind, Sem.run_pure, Result.andThen_ok, run_loadVar_mid w b off ty cs d hc hu hd hi]
  exact h
theorem stepS_store_row {P : Program} {o : Oper} {σ : Nat → Value} {a : Act} {w : World} {K : Value → World → Prop} {Q : Exit → Act → World → Prop} (ty : TypeId) (x y : Operand) (ho : o.op = .store ty x y)
    (g : Nat) (cells : Array Value) (hx : evalS σ x = .pointer (some ⟨g, 0, none⟩)) (hy : evalS σ y = .agg cells)
    (t : TypeId) (old : Array Value) (hg : w.heap[g]? = some (.cells old t (0, 0))) (hi : (P.info? ty).map (·.size) = some cells.size)
    (hold : old.size = cells.size) (h1 : cells.all (·.oneCell') = true) (h : K undef (w.setRow g cells)) : stepS P o σ a w K Q := by
  unfold stepS execOp
  simp only [ho, hx, hy, Instr.storeAt, Instr.sureAddr, Sem.run_bind, Sem.run_pure, Result.andThen_ok, run_storeVar_row w g t ty old cells hg hi hold h1]
  exact h
def setAll (t : Array Value) (σ : Nat → Value) : List Nat → Array Value
  | [] => t
  | d :: ds => setAll (t.setIfInBounds d (σ d)) σ ds
theorem size_setAll (σ : Nat → Value) : ∀ (ds : List Nat) (t : Array Value), (setAll t σ ds).size = t.size
  | [], _ => rfl
  | d :: ds, t => by simp [setAll, size_setAll σ ds]
theorem get_setAll (σ : Nat → Value) : ∀ (ds : List Nat) (t : Array Value) (j : Nat), j < t.size → (setAll t σ ds)[j]? = if j ∈ ds then some (σ j) else t[j]?
  | [], t, j, _ => by simp [setAll]
  | d :: ds, t, j, h => by
    rw [setAll, get_setAll σ ds _ j (by simpa using h)]
    by_cases h1 : j ∈ ds
    · simp [h1]
    · rw [if_neg h1, Array.getElem?_setIfInBounds]
      by_cases h2 : d = j
      · subst h2
        simp [h]
      · have : j ∉ d :: ds := by
          intro hm
          rcases List.mem_cons.1 hm with rfl | hm
          · exact h2 rfl
          · exact h1 hm
        rw [if_neg h2, if_neg this]
theorem getD_setAll {σ : Nat → Value} {ds : List Nat} {t : Array Value} (hd : ∀ d ∈ ds, d < t.size) (hσ : ∀ j, j ∉ ds → σ j = t.getD j undef) (j : Nat) : (setAll t σ ds).getD j undef = σ j := by
  by_cases hj : j < t.size
  · rw [Array.getD_eq_getD_getElem?, get_setAll σ ds t j hj]
    by_cases h : j ∈ ds
    · simp [h]
    · rw [if_neg h, hσ j h, Array.getD_eq_getD_getElem?]
  · have h : j ∉ ds := fun h => hj (hd j h)
    rw [hσ j h, Array.getD_eq_getD_getElem?, Array.getD_eq_getD_getElem?, Array.getElem?_eq_none (by rw [size_setAll]; omega), Array.getElem?_eq_none (by omega)]

theorem eval_setAll {σ : Nat → Value} {ds : List Nat} {t : Array Value} {df : List Deferred} (hd : ∀ d ∈ ds, d < t.size) (hσ : ∀ j, j ∉ ds → σ j = t.getD j undef) : (⟨setAll t σ ds, df⟩ : Act).eval = evalS σ := by
  funext x
  cases x with
  | tmp j => exact getD_setAll hd hσ j
  | _ => rfl
theorem put_setAll {σ : Nat → Value} {ds : List Nat} {t : Array Value} {df : List Deferred} (hd : ∀ d ∈ ds, d < t.size) {d : Option Tmp} (hdm : ∀ x, d = some x → x ∈ ds) (v : Value) :
    (⟨setAll t σ ds, df⟩ : Act).put d v = ⟨setAll t (putS σ d v) ds, df⟩ := by
  cases d with
  | none => rfl
  | some d =>
    have hm := hdm d rfl
    simp only [Act.put, Act.mk.injEq, and_true]
    apply Array.ext_getElem?
    intro j
    by_cases hj : j < t.size
    · rw [Array.getElem?_setIfInBounds, get_setAll _ ds t j hj, get_setAll _ ds t j hj, size_setAll]
      by_cases h : d = j
      · subst h
        simp [hm, hj, putS]
      · rw [if_neg h]
        have : ¬ j = d := fun e => h e.symm
        simp [putS, this]
    · rw [Array.getElem?_eq_none (by simp [size_setAll]; omega), Array.getElem?_eq_none (by simp [size_setAll]; omega)]

def dstsL (ops : List Oper) : List Nat := ops.filterMap (·.dst)

theorem wp_region_sig {P : Program} {id : Nat} {l : List Oper} {Q : Exit → Act → World → Prop} {a0 : Act} {w : World} (hm : P.follows .mixedOrders = true)
    (hlt : ∀ i o, l.toArray[i]? = some o → ∀ e ∈ o.after, Region.binds .any e = true → e.on < i)
    (hd : ∀ d ∈ dstsL l, d < a0.tmps.size)
    (I : (Nat → Prop) → (Nat → Value) → World → Prop) (h0 : I (fun _ => False) (fun t => a0.tmps.getD t undef) w.drew)
    (hs : ∀ (D : Nat → Prop) (i : Nat) (o : Oper) (σ : Nat → Value) (a : Act) (w : World), l.toArray[i]? = some o → ¬ D i → (∀ e ∈ o.after, Region.binds .any e = true → D e.on) → I D σ w →
      ∀ K : Value → World → Prop, (∀ v w', I (fun j => D j ∨ j = i) (putS σ o.dst v) w' → K v w') → if wantedS l.toArray o σ then stepS P o σ a w K Q else K undef w)
    (h1 : ∀ (D : Nat → Prop) (σ : Nat → Value) (w : World), (∀ i, i < l.length → D i) → (∀ t, t ∉ dstsL l → σ t = a0.tmps.getD t undef) → I D σ w → Q .normal ⟨setAll a0.tmps σ (dstsL l), a0.defers⟩ w) :
    (Code.region id l.toArray true).wp P Q a0 w := by
  refine wp_region_inv hm hlt (fun D a w => ∃ σ, a = ⟨setAll a0.tmps σ (dstsL l), a0.defers⟩ ∧ (∀ t, t ∉ dstsL l → σ t = a0.tmps.getD t undef) ∧ I D σ w) ?_ ?_ ?_
  · refine ⟨fun t => a0.tmps.getD t undef, ?_, fun _ _ => rfl, h0⟩
    have : setAll a0.tmps (fun t => a0.tmps.getD t undef) (dstsL l) = a0.tmps := by
      apply Array.ext_getElem?
      intro j
      by_cases hj : j < a0.tmps.size
      · rw [get_setAll _ _ _ _ hj]
        by_cases hmem : j ∈ dstsL l
        · rw [if_pos hmem]
          have e : a0.tmps.getD j undef = a0.tmps[j] := by unfold Array.getD; rw [dif_pos hj]; rfl
          rw [Array.getElem?_eq_getElem hj]
          exact congrArg some e
        · rw [if_neg hmem]
      · rw [Array.getElem?_eq_none (by rw [size_setAll]; omega), Array.getElem?_eq_none (by omega)]
    rw [this]
  · intro D i o a w ho hD hpre ⟨σ, ha, hσ, hI⟩ K hK
    subst ha
    have hdm : ∀ x, o.dst = some x → x ∈ dstsL l := fun x hx => by
      unfold dstsL
      rw [List.mem_filterMap]
      exact ⟨o, List.mem_of_getElem? (i := i) (by simpa using ho), hx⟩
    have hwant : Region.wanted o (yielded l.toArray (setAll a0.tmps σ (dstsL l))) = wantedS l.toArray o σ := by
      unfold Region.wanted wantedS
      cases o.guard with
      | none => rfl
      | some g =>
        obtain ⟨j, want⟩ := g
        simp only
        congr 1
        unfold yielded
        cases hjd : (l.toArray[j]?).bind (·.dst) with
        | none => rfl
        | some d =>
          simp only [Option.bind_some]
          have hdl : d ∈ dstsL l := by
            obtain ⟨oj, hoj, hdj⟩ := Option.bind_eq_some_iff.1 hjd
            unfold dstsL
            rw [List.mem_filterMap]
            exact ⟨oj, List.mem_of_getElem? (i := j) (by simpa using hoj), hdj⟩
          rw [get_setAll σ _ _ d (hd d hdl), if_pos hdl]
          cases σ d <;> rfl
    have hkk : ∀ v w', I (fun j => D j ∨ j = i) (putS σ o.dst v) w' → K ((⟨setAll a0.tmps σ (dstsL l), a0.defers⟩ : Act).put o.dst v) w' := fun v w' hI' => by
      rw [put_setAll hd hdm v]
      refine hK _ _ ⟨putS σ o.dst v, rfl, fun t ht => ?_, hI'⟩
      cases hod : o.dst with
      | none => exact hσ t ht
      | some d =>
        have hne : ¬ t = d := fun e => ht (e ▸ hdm d hod)
        simp only [putS, if_neg hne]
        exact hσ t ht
    have hst := hs D i o σ ⟨setAll a0.tmps σ (dstsL l), a0.defers⟩ w ho hD hpre hI (fun v w' => K ((⟨setAll a0.tmps σ (dstsL l), a0.defers⟩ : Act).put o.dst v) w') hkk
    rw [hwant]
    split
    · rename_i hw
      rw [if_pos hw] at hst
      unfold stepS at hst
      unfold Oper.wp
      rw [eval_setAll hd hσ]
      generalize (execOp (evalS σ) o).run P w = r at *
      cases r with
      | ok n w' => cases n <;> first | exact hst | exact hst.elim
      | halt h w' => exact hst.elim
    · rename_i hw
      rw [if_neg hw] at hst
      exact hst
  · intro D a w hall ⟨σ, ha, hσ, hI⟩
    subst ha
    exact h1 D σ w (fun i hi => hall i (by simpa using hi)) hσ hI
end Go.Proofs.YtbjnpomcgcbflaaDoor
