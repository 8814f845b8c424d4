/- A region that leaves its order open, by one fact an operation that stays true in every later world: what an operation yields is shown from the facts of those ahead of it alone. -/
import Derived.Test.YtbjnpomcgcbflaaDoorReg
import Derived.Test.YtbjnpomcgcbflaaDoorA3
import Derived.Deep.Cut
import Derived.Deep.LoopGhost
import Derived.Outline
set_option linter.unusedVariables false
set_option linter.unusedSimpArgs false
namespace Go.Proofs.YtbjnpomcgcbflaaDoor
open Go.RowKit Go.Deep

def slotS (σ : Nat → Value) : Option Tmp → Value
  | some d => σ d
  | none => undef
def slotAt (l : List Oper) (j : Nat) (σ : Nat → Value) : Value := match l[j]? with
  | some o => slotS σ o.dst
  | none => undef
def predB (o : Oper) (j : Nat) : Bool := o.after.toList.any fun e => e.on == j && Region.binds .any e
/-- No operation of the list that writes slot t may come up ahead of operation i. -/
def freeB (l : List Oper) (i t : Nat) : Bool := l.all fun o => match o.dst with
  | some d => !(d == t) || predB o i
  | none => true
def aheadB (l : List Oper) : Bool := (List.range l.length).all fun i => match l[i]? with
  | some o => o.after.all fun e => !Region.binds .any e || decide (e.on < i)
  | none => true
def nodupB : List Nat → Bool
  | [] => true
  | d :: ds => !ds.contains d && nodupB ds
def resV (d : Option Tmp) (v : Value) : Value := match d with
  | some _ => v
  | none => undef
/-- What is to be shown of an operation. -/
def Ob (P : Program) (Q : Exit → Act → World → Prop) (a0 : Act) (I : World → Prop) (S : World → World → Prop) (l : List Oper) (F : Nat → Value → World → Prop) (i : Nat) (o : Oper) : Prop :=
  ∀ (σ : Nat → Value) (a : Act) (w : World), I w → (∀ t, freeB l i t = true → σ t = a0.tmps.getD t undef) → (∀ j, predB o j = true → F j (slotAt l j σ) w) →
    ∀ K : Value → World → Prop, (∀ v w', S w w' → F i (resV o.dst v) w' → K v w') → if wantedS l.toArray o σ then stepS P o σ a w K Q else K undef w
inductive Obs (P : Program) (Q : Exit → Act → World → Prop) (a0 : Act) (I : World → Prop) (S : World → World → Prop) (l : List Oper) (F : Nat → Value → World → Prop) : Nat → List Oper → Prop
  | nil (i : Nat) : Obs P Q a0 I S l F i []
  | cons {i : Nat} {o : Oper} {r : List Oper} (h : Ob P Q a0 I S l F i o) (hr : Obs P Q a0 I S l F (i + 1) r) : Obs P Q a0 I S l F i (o :: r)
theorem Obs.get {P : Program} {Q : Exit → Act → World → Prop} {a0 : Act} {I : World → Prop} {S : World → World → Prop} {l : List Oper} {F : Nat → Value → World → Prop} {i : Nat} {r : List Oper} (h : Obs P Q a0 I S l F i r) :
    ∀ (k : Nat) (o : Oper), r[k]? = some o → Ob P Q a0 I S l F (i + k) o := by
  induction h with
  | nil i => intro k o hk; simp at hk
  | cons h hr ih =>
    intro k o hk
    cases k with
    | zero =>
      simp at hk
      subst hk
      exact h
    | succ k =>
      have := ih k o (by simpa using hk)
      rwa [Nat.add_assoc, Nat.add_comm 1 k] at this

theorem nodupB_inj : ∀ (l : List Oper), nodupB (dstsL l) = true → ∀ (i j : Nat) (o p : Oper) (d : Nat), l[i]? = some o → l[j]? = some p → o.dst = some d → p.dst = some d → i = j := by
  intro l
  induction l with
  | nil => intro _ i j o p d hi; simp at hi
  | cons x l ih =>
    intro hn i j o p d hi hj ho hp
    have hmem : ∀ (k : Nat) (q : Oper), l[k]? = some q → q.dst = some d → d ∈ dstsL l := fun k q hk hq => by
      unfold dstsL
      rw [List.mem_filterMap]
      exact ⟨q, List.mem_of_getElem? hk, hq⟩
    have htail : nodupB (dstsL l) = true ∧ (x.dst = some d → d ∉ dstsL l) := by
      unfold dstsL at hn
      rw [List.filterMap_cons] at hn
      cases hx : x.dst with
      | none => rw [hx] at hn; exact ⟨hn, fun h => by cases h⟩
      | some e =>
        rw [hx] at hn
        simp only [nodupB, Bool.and_eq_true, Bool.not_eq_true', List.contains_eq_mem, decide_eq_false_iff_not] at hn
        refine ⟨hn.2, fun h => ?_⟩
        cases h
        exact hn.1
    cases i with
    | zero =>
      cases j with
      | zero => rfl
      | succ j =>
        simp at hi hj
        subst hi
        exact absurd (hmem j p hj hp) (htail.2 ho)
    | succ i =>
      cases j with
      | zero =>
        simp at hi hj
        subst hj
        exact absurd (hmem i o hi ho) (htail.2 hp)
      | succ j =>
        simp at hi hj
        rw [ih htail.1 i j o p d hi hj ho hp]

def drewIf (d : Bool) (w : World) : World := if d then w.drew else w
theorem drewIf_ext (d : Bool) (w : World) : Below w.heap.size w (drewIf d w) := by
  cases d
  · exact Below.refl _ _
  · exact drew_ext w
theorem wp_region_invb (d0 : Bool) {P : Program} {id : Nat} {ops : Array Oper} {Q : Exit → Act → World → Prop} {a : Act} {w : World} (hm : P.follows .mixedOrders = true)
    (hlt : ∀ i o, ops[i]? = some o → ∀ e ∈ o.after, Region.binds .any e = true → e.on < i)
    (I : (Nat → Prop) → Act → World → Prop) (h0 : I (fun _ => False) a (drewIf d0 w))
    (hs : ∀ (D : Nat → Prop) (i : Nat) (o : Oper) (a : Act) (w : World), ops[i]? = some o → ¬ D i → (∀ e ∈ o.after, Region.binds .any e = true → D e.on) → I D a w →
      ∀ K : Act → World → Prop, (∀ a w, I (fun j => D j ∨ j = i) a w → K a w) → if Region.wanted o (yielded ops a.tmps) then o.wp P a w K Q else K (a.put o.dst undef) w)
    (h1 : ∀ (D : Nat → Prop) (a : Act) (w : World), (∀ i, i < ops.size → D i) → I D a w → Q .normal a w) : (Code.region id ops d0).wp P Q a w := by
  cases d0 with
  | true => exact wp_region_inv hm hlt I h0 hs h1
  | false =>
    refine wp_region ?_
    have key : ∀ (n i : Nat) (a : Act) (w : World), i + n = ops.size → I (fun j => j < i) a w → wpOps P ops Q (List.range' i n) a w := by
      intro n
      induction n with
      | zero =>
        intro i a w hi hI
        simp only [List.range'_zero, wpOps]
        exact h1 _ a w (fun k hk => by omega) hI
      | succ n ih =>
        intro i a w hi hI
        rw [List.range'_succ, wpOps_cons]
        have hil : i < ops.size := by omega
        have ho : ops[i]? = some ops[i] := Array.getElem?_eq_getElem hil
        have hst := hs (fun j => j < i) i ops[i] a w ho (by omega) (fun e he hb => hlt i _ ho e he hb) hI (wpOps P ops Q (List.range' (i + 1) n)) (fun a w h => by
          refine ih (i + 1) a w (by omega) ?_
          have e : (fun j => j < i + 1) = (fun j => j < i ∨ j = i) := by
            funext j
            exact propext (by omega)
          rw [e]
          exact h)
        unfold wpOp
        rw [ho]
        simp only
        split
        · rename_i hw
          rw [if_pos hw] at hst
          exact .inl hst
        · rename_i hw
          rw [if_neg hw] at hst
          exact hst
    have e : (fun j : Nat => j < 0) = (fun _ => False) := funext fun j => propext ⟨fun h => absurd h (Nat.not_lt_zero _), False.elim⟩
    have := key ops.size 0 a w (by omega) (by rw [e]; exact h0)
    rwa [← List.range_eq_range'] at this
theorem wp_region_sigb (d0 : Bool) {P : Program} {id : Nat} {l : List Oper} {Q : Exit → Act → World → Prop} {a0 : Act} {w : World} (hm : P.follows .mixedOrders = true)
    (hlt : ∀ i o, l.toArray[i]? = some o → ∀ e ∈ o.after, Region.binds .any e = true → e.on < i)
    (hd : ∀ d ∈ dstsL l, d < a0.tmps.size)
    (I : (Nat → Prop) → (Nat → Value) → World → Prop) (h0 : I (fun _ => False) (fun t => a0.tmps.getD t undef) (drewIf d0 w))
    (hs : ∀ (D : Nat → Prop) (i : Nat) (o : Oper) (σ : Nat → Value) (a : Act) (w : World), l.toArray[i]? = some o → ¬ D i → (∀ e ∈ o.after, Region.binds .any e = true → D e.on) → I D σ w →
      ∀ K : Value → World → Prop, (∀ v w', I (fun j => D j ∨ j = i) (putS σ o.dst v) w' → K v w') → if wantedS l.toArray o σ then stepS P o σ a w K Q else K undef w)
    (h1 : ∀ (D : Nat → Prop) (σ : Nat → Value) (w : World), (∀ i, i < l.length → D i) → (∀ t, t ∉ dstsL l → σ t = a0.tmps.getD t undef) → I D σ w → Q .normal ⟨setAll a0.tmps σ (dstsL l), a0.defers⟩ w) :
    (Code.region id l.toArray d0).wp P Q a0 w := by
  refine wp_region_invb d0 hm hlt (fun D a w => ∃ σ, a = ⟨setAll a0.tmps σ (dstsL l), a0.defers⟩ ∧ (∀ t, t ∉ dstsL l → σ t = a0.tmps.getD t undef) ∧ I D σ w) ?_ ?_ ?_
  · refine ⟨fun t => a0.tmps.getD t undef, ?_, fun _ _ => rfl, h0⟩
    have : setAll a0.tmps (fun t => a0.tmps.getD t undef) (dstsL l) = a0.tmps := by
      apply Array.ext_getElem?
      intro j
      by_cases hj : j < a0.tmps.size
      · rw [get_setAll _ _ _ _ hj]
        by_cases hmem : j ∈ dstsL l
        · rw [if_pos hmem]
          have e : a0.tmps.getD j undef = a0.tmps[j] := by unfold Array.getD; rw [dif_pos hj]; rfl
          rw [Array.getElem?_eq_getElem hj]
          exact congrArg some e
        · rw [if_neg hmem]
      · rw [Array.getElem?_eq_none (by rw [size_setAll]; omega), Array.getElem?_eq_none (by omega)]
    rw [this]
  · intro D i o a w ho hD hpre ⟨σ, ha, hσ, hI⟩ K hK
    subst ha
    have hdm : ∀ x, o.dst = some x → x ∈ dstsL l := fun x hx => by
      unfold dstsL
      rw [List.mem_filterMap]
      exact ⟨o, List.mem_of_getElem? (i := i) (by simpa using ho), hx⟩
    have hwant : Region.wanted o (yielded l.toArray (setAll a0.tmps σ (dstsL l))) = wantedS l.toArray o σ := by
      unfold Region.wanted wantedS
      cases o.guard with
      | none => rfl
      | some g =>
        obtain ⟨j, want⟩ := g
        simp only
        congr 1
        unfold yielded
        cases hjd : (l.toArray[j]?).bind (·.dst) with
        | none => rfl
        | some d =>
          simp only [Option.bind_some]
          have hdl : d ∈ dstsL l := by
            obtain ⟨oj, hoj, hdj⟩ := Option.bind_eq_some_iff.1 hjd
            unfold dstsL
            rw [List.mem_filterMap]
            exact ⟨oj, List.mem_of_getElem? (i := j) (by simpa using hoj), hdj⟩
          rw [get_setAll σ _ _ d (hd d hdl), if_pos hdl]
          cases σ d <;> rfl
    have hkk : ∀ v w', I (fun j => D j ∨ j = i) (putS σ o.dst v) w' → K ((⟨setAll a0.tmps σ (dstsL l), a0.defers⟩ : Act).put o.dst v) w' := fun v w' hI' => by
      rw [put_setAll hd hdm v]
      refine hK _ _ ⟨putS σ o.dst v, rfl, fun t ht => ?_, hI'⟩
      cases hod : o.dst with
      | none => exact hσ t ht
      | some d =>
        have hne : ¬ t = d := fun e => ht (e ▸ hdm d hod)
        simp only [putS, if_neg hne]
        exact hσ t ht
    have hst := hs D i o σ ⟨setAll a0.tmps σ (dstsL l), a0.defers⟩ w ho hD hpre hI (fun v w' => K ((⟨setAll a0.tmps σ (dstsL l), a0.defers⟩ : Act).put o.dst v) w') hkk
    rw [hwant]
    split
    · rename_i hw
      rw [if_pos hw] at hst
      unfold stepS at hst
      unfold Oper.wp
      rw [eval_setAll hd hσ]
      generalize (execOp (evalS σ) o).run P w = r at *
      cases r with
      | ok n w' => cases n <;> first | exact hst | exact hst.elim
      | halt h w' => exact hst.elim
    · rename_i hw
      rw [if_neg hw] at hst
      exact hst
  · intro D a w hall ⟨σ, ha, hσ, hI⟩
    subst ha
    exact h1 D σ w (fun i hi => hall i (by simpa using hi)) hσ hI
theorem wp_region_facts (d0 : Bool) {P : Program} {id : Nat} {l : List Oper} {Q : Exit → Act → World → Prop} {a0 : Act} {w0 : World} (hm : P.follows .mixedOrders = true) (hlt : aheadB l = true)
    (n : Nat) (hd : (dstsL l).all (fun d => decide (d < n)) = true) (hn : a0.tmps.size = n) (hnd : nodupB (dstsL l) = true)
    (I : World → Prop) (S : World → World → Prop) (hI0 : I (drewIf d0 w0)) (hIS : ∀ w w', I w → S w w' → I w')
    (F : Nat → Value → World → Prop) (hF : ∀ i v w w', F i v w → S w w' → F i v w')
    (hs : Obs P Q a0 I S l F 0 l)
    (h1 : ∀ (σ : Nat → Value) (w : World), I w → (∀ i, i < l.length → F i (slotAt l i σ) w) → Q .normal ⟨setAll a0.tmps σ (dstsL l), a0.defers⟩ w) :
    (Code.region id l.toArray d0).wp P Q a0 w0 := by
  have hlt' : ∀ i o, l.toArray[i]? = some o → ∀ e ∈ o.after, Region.binds .any e = true → e.on < i := by
    intro i o ho e he hb
    have hi : i < l.length := by
      have := (Array.getElem?_eq_some_iff.1 ho).1
      simpa using this
    have := List.all_eq_true.1 hlt i (by simpa using hi)
    rw [show l[i]? = some o by simpa using ho] at this
    simp only [Array.all_eq_true_iff_forall_mem] at this
    have := this e he
    simpa [hb] using this
  refine wp_region_sigb d0 hm hlt' (fun d h => ?_) (fun D σ w => I w ∧ (∀ t, (∀ q o, l[q]? = some o → o.dst = some t → ¬ D q) → σ t = a0.tmps.getD t undef) ∧ (∀ i, i < l.length → D i → F i (slotAt l i σ) w) ∧ ∀ q o, l[q]? = some o → D q → ∀ j, predB o j = true → D j) ?_ ?_ ?_
  · have := List.all_eq_true.1 hd d h
    rw [hn]
    simpa using this
  · exact ⟨hI0, fun t _ => rfl, fun _ _ h => h.elim, fun _ _ _ h => h.elim⟩
  · intro D i o σ a w ho hD hpre ⟨hB, hσ, hf, hcl⟩ K hK
    have hol : l[i]? = some o := by simpa using ho
    have hob := hs.get i o hol
    rw [Nat.zero_add] at hob
    refine hob σ a w hB (fun t ht => hσ t fun q oq hq hqt hDq => ?_) (fun j hj => ?_) K (fun v w' hB' hFi => ?_)
    · have h1 := List.all_eq_true.1 ht oq (List.mem_of_getElem? hq)
      rw [hqt] at h1
      simp only [beq_self_eq_true, Bool.not_true, Bool.false_or] at h1
      exact hD (hcl q oq hq hDq i h1)
    · unfold predB at hj
      rw [List.any_eq_true] at hj
      simp only [Bool.and_eq_true, beq_iff_eq] at hj
      obtain ⟨e, he, rfl, hb⟩ := hj
      have he := Array.mem_toList_iff.1 he
      refine hf _ ?_ (hpre e he hb)
      have := hlt' i o ho e he hb
      have hi : i < l.length := (List.getElem?_eq_some_iff.1 hol).1
      omega
    · refine hK v w' ⟨hIS _ _ hB hB', fun t ht => ?_, fun k hk hDk => ?_, fun q oq hq hDq j hj => ?_⟩
      · cases hod : o.dst with
        | none => exact hσ t fun q oq hq hqt hDq => ht q oq hq hqt (.inl hDq)
        | some d =>
          have hne : ¬ t = d := fun e => by
            subst e
            exact ht i o hol hod (.inr rfl)
          simp only [putS, if_neg hne]
          exact hσ t fun q oq hq hqt hDq => ht q oq hq hqt (.inl hDq)
      · have hki : ∃ p, l[k]? = some p := ⟨_, List.getElem?_eq_getElem hk⟩
        obtain ⟨p, hp⟩ := hki
        by_cases hke : k = i
        · subst hke
          rw [hol] at hp
          cases hp
          have e : slotAt l k (putS σ o.dst v) = slotS (putS σ o.dst v) o.dst := by unfold slotAt; rw [hol]
          rw [e]
          cases hod : o.dst with
          | none => simpa [slotS, resV, hod] using hFi
          | some d => simpa [slotS, putS, resV, hod] using hFi
        · have hDk' : D k := by
            rcases hDk with h | h
            · exact h
            · exact absurd h hke
          have e : slotAt l k (putS σ o.dst v) = slotAt l k σ := by
            unfold slotAt
            rw [hp]
            cases hpd : p.dst with
            | none => simp [slotS, hpd]
            | some d =>
              cases hod : o.dst with
              | none => simp [slotS, putS, hpd]
              | some d' =>
                have hdd : ¬ d = d' := fun e => hke (nodupB_inj l hnd k i p o d hp hol hpd (e ▸ hod))
                simp [slotS, putS, hdd, hpd]
          rw [e]
          exact hF _ _ _ _ (hf k hk hDk') hB'
      · rcases hDq with h | h
        · exact .inl (hcl q oq hq h j hj)
        · subst h
          rw [hol] at hq
          cases hq
          unfold predB at hj
          rw [List.any_eq_true] at hj
          simp only [Bool.and_eq_true, beq_iff_eq] at hj
          obtain ⟨e, he, rfl, hb⟩ := hj
          exact .inl (hpre e (Array.mem_toList_iff.1 he) hb)
  · intro D σ w hall _ ⟨hB, _, hf, _⟩
    exact h1 σ w hB (fun i hi => hf i hi (hall i hi))

/-! ### What operations yield -/
def baL (s : ByteArray) : List UInt8 := s.data.toList
theorem baL_inj {a b : ByteArray} (h : baL a = baL b) : a = b := ByteArray.ext (Array.toList_inj.1 h)
theorem baL_length (s : ByteArray) : (baL s).length = s.size := by simp [baL]
/-- A slice of the bytes l. -/
def SlB (l : List UInt8) (v : Value) (w : World) : Prop := ∃ A c, v = .slice A l.length c ∧ l.length ≤ c ∧ c ≤ 9223372036854775807 ∧ Seg w A (bvs l)
theorem SlB.below {l : List UInt8} {v : Value} {w w' : World} (h : SlB l v w) (hb : Below w.heap.size w w') : SlB l v w' := by
  obtain ⟨A, c, rfl, h1, h2, h3⟩ := h
  exact ⟨A, c, rfl, h1, h2, h3.below hb⟩
theorem RetB.sl {w w' : World} {l : List UInt8} {e : Ending} (h : RetB w l e w') : ∃ v, e = .returned v ∧ SlB l v w' ∧ Below w.heap.size w w' := by
  obtain ⟨A, c, rfl, h1, h2, h3, h4⟩ := h
  exact ⟨_, rfl, ⟨A, c, rfl, h1, h2, h3⟩, h4⟩
theorem cell_later {w w' : World} {p : Addr} {v : Value} (hb : Below w.heap.size w w') (h : w.cell? p = some v) : w'.cell? p = some v := (hb.cell (p := p) (World.block_lt_of_cell? w _ h)).trans h
theorem rangeAt_later {w w' : World} {b o : Nat} {cs : List Value} (hb : Below w.heap.size w w') (h : w.rangeAt b o cs) : w'.rangeAt b o cs := fun j v hv => cell_later hb (h j v hv)
theorem wantedS_of {l : List Oper} {o : Oper} {σ : Nat → Value} {j : Nat} {want g : Bool} {d : Nat} (ho : o.guard = some (j, want)) (hj : (l.toArray[j]?).bind (·.dst) = some d) (hg : σ d = .bool g) : wantedS l.toArray o σ = (some g == some want) := by
  unfold wantedS
  rw [ho]
  simp only [hj, hg]

section
variable {P : Program} {o : Oper} {σ : Nat → Value} {a : Act} {w : World} {K : Value → World → Prop} {Q : Exit → Act → World → Prop}
theorem stepS_move (x : Operand) (ho : o.op = .move x) (v : Value) (hx : evalS σ x = v) (h : K v w) : stepS P o σ a w K Q := by
  subst hx
  unfold stepS execOp
  simp only [ho]
  exact h
theorem stepS_assign (x : Operand) (ho : o.op = .assign x) (v : Value) (hx : evalS σ x = v) (h : K v w) : stepS P o σ a w K Q := by
  subst hx
  unfold stepS execOp
  simp only [ho]
  exact h
theorem stepS_call (f : FuncId) {fn : Func} (hf : P.funcs[f]? = some fn) (hname : (fn.name == "runtime.NumGoroutine") = false) (hb : fn.body.isSome = true) (xs : Array Operand) (ts : Array TypeId) (ho : o.op = .call { callee := .value (.func f), args := xs, argTypes := ts }) (args : Array Value) (hx : xs.map (evalS σ) = args)
    (h : Calls P f args w fun e w' => ∃ v, e = .returned v ∧ K v w') : stepS P o σ a w K Q := by
  obtain ⟨c, hc⟩ := Option.isSome_iff_exists.1 hb
  have hrun : ∀ args, (callFunc f args).run P w = .ok (.enter f args) w := fun args => by
    have h1 : fn.name ≠ "runtime.NumGoroutine" := by simpa using hname
    simp [callFunc, hf, h1, hc]
  unfold stepS execOp
  simp only [ho, resolve, invoke, Sem.run_bind, Sem.run_pure, Result.andThen_ok, evalS]
  go_simp
  show Calls P f args w _
  refine h.mono ?_
  rintro e w' ⟨v, rfl, hk⟩
  exact hk
theorem stepS_pick (c x y : Operand) (ho : o.op = .pick c x y) (g : Bool) (hc : evalS σ c = .bool g) (v : Value) (hv : v = if g = true then evalS σ x else evalS σ y) (h : K v w) : stepS P o σ a w K Q := by
  subst hv
  unfold stepS execOp
  simp only [ho, hc]
  cases g <;> exact h
theorem pick_and {G R : Bool} {v : Value} (h : G = true → v = .bool R) : (.bool (G && R) : Value) = if G = true then v else .bool false := by cases G <;> simp_all
theorem pick_or {G R : Bool} {v : Value} (h : G = false → v = .bool R) : (.bool (G || R) : Value) = if G = true then .bool true else v := by cases G <;> simp_all
theorem stepS_conv_bs (src dst e : TypeId) (x : Operand) (ho : o.op = .convert src dst x) (hs : P.underlying src = some (.slice e)) (he : P.underlying e = some (.int .u8)) (hd : P.underlying dst = some .string) (l : List UInt8) (hx : SlB l (evalS σ x) w)
    (h : K (.string ⟨l.toArray⟩) w) : stepS P o σ a w K Q := by
  obtain ⟨A, c, he', _, _, hseg⟩ := hx
  unfold stepS execOp
  simp only [ho, Sem.run_bind, he', run_string_seg (P := P) src dst e hs he hd w c hseg]
  exact h
theorem stepS_load1 (ty : TypeId) (x : Operand) (ho : o.op = .load ty x) (p : Addr) (hx : evalS σ x = .pointer (some p)) (v : Value) (hv : w.cell? p = some v) (hr : ∀ w : World, w.cell? p = some v → (Instr.loadAt ty (.pointer (some p))).run P w = .ok v w)
    (h : K v w) : stepS P o σ a w K Q := by
  unfold stepS execOp
  simp only [ho, Sem.run_bind, hx, hr w hv]
  exact h
theorem stepS_conv_sb (src dst e : TypeId) (x : Operand) (ho : o.op = .convert src dst x) (hs : P.underlying src = some .string) (hd : P.underlying dst = some (.slice e)) (he : P.underlying e = some (.int .u8)) (s : ByteArray) (hx : evalS σ x = .string s) (hlen : s.size ≤ 9223372036854775807)
    (h : ∀ v w', Below w.heap.size w w' → SlB (baL s) v w' → K v w') : stepS P o σ a w K Q := by
  unfold stepS execOp
  simp only [ho, Sem.run_bind, hx, Lib.run_convert_string_bytes w src dst e s hs hd he]
  refine h _ _ ?_ ?_
  · refine ⟨rfl, rfl, rfl, by rw [Lib.bytesWorld_size]; omega, fun i hi => Lib.bytesWorld_at_old w e s i hi⟩
  · refine ⟨_, _, by rw [baL_length], ?_, ?_, Seg.of_block (Lib.bytesWorld_at_new w e s) fun j u hu => ?_⟩
    · rw [baL_length]
      exact grownCap_ge _ _ _ _
    · exact grownCap_le_maxLen _ _ _ _ hlen
    · rw [Nat.zero_add]
      simp only [Lib.bytesCells]
      have hj : j < s.data.size := by
        have := (List.getElem?_eq_some_iff.1 hu).1
        simpa [bvs, baL] using this
      rw [Array.getElem?_append_left (by simpa using hj)]
      simpa [bvs, bv, baL, hj] using hu
end
end Go.Proofs.YtbjnpomcgcbflaaDoor
