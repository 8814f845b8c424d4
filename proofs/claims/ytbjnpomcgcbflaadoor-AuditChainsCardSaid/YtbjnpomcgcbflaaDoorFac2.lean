/- The facts' rule where one operation does more than the others to memory. -/
import Derived.Test.YtbjnpomcgcbflaaDoorFac
set_option linter.unusedVariables false
set_option linter.unusedSimpArgs false
namespace Go.Proofs.YtbjnpomcgcbflaaDoor
open Go.RowKit Go.Deep

/-- What is to be shown of an operation. -/
def Ob2 (P : Program) (Q : Exit → Act → World → Prop) (a0 : Act) (I : World → Prop) (J : Nat → World → Prop) (S : Nat → World → World → Prop) (l : List Oper) (F : Nat → Value → World → Prop) (i : Nat) (o : Oper) : Prop :=
  ∀ (σ : Nat → Value) (a : Act) (w : World), I w → J i w → (∀ t, freeB l i t = true → σ t = a0.tmps.getD t undef) → (∀ j, predB o j = true → F j (slotAt l j σ) w) →
    ∀ K : Value → World → Prop, (∀ v w', S i w w' → F i (resV o.dst v) w' → K v w') → if wantedS l.toArray o σ then stepS P o σ a w K Q else K undef w
inductive Obs2 (P : Program) (Q : Exit → Act → World → Prop) (a0 : Act) (I : World → Prop) (J : Nat → World → Prop) (S : Nat → World → World → Prop) (l : List Oper) (F : Nat → Value → World → Prop) : Nat → List Oper → Prop
  | nil (i : Nat) : Obs2 P Q a0 I J S l F i []
  | cons {i : Nat} {o : Oper} {r : List Oper} (h : Ob2 P Q a0 I J S l F i o) (hr : Obs2 P Q a0 I J S l F (i + 1) r) : Obs2 P Q a0 I J S l F i (o :: r)
theorem Obs2.get {P : Program} {Q : Exit → Act → World → Prop} {a0 : Act} {I : World → Prop} {J : Nat → World → Prop} {S : Nat → World → World → Prop} {l : List Oper} {F : Nat → Value → World → Prop} {i : Nat} {r : List Oper} (h : Obs2 P Q a0 I J S l F i r) :
    ∀ (k : Nat) (o : Oper), r[k]? = some o → Ob2 P Q a0 I J S l F (i + k) o := by
  induction h with
  | nil i => intro k o hk; simp at hk
  | cons h hr ih =>
    intro k o hk
    cases k with
    | zero =>
      simp at hk
      subst hk
      exact h
    | succ k =>
      have := ih k o (by simpa using hk)
      rwa [Nat.add_assoc, Nat.add_comm 1 k] at this

theorem wp_region_facts2 (d0 : Bool) {P : Program} {id : Nat} {l : List Oper} {Q : Exit → Act → World → Prop} {a0 : Act} {w0 : World} (hm : P.follows .mixedOrders = true) (hlt : aheadB l = true)
    (n : Nat) (hd : (dstsL l).all (fun d => decide (d < n)) = true) (hn : a0.tmps.size = n) (hnd : nodupB (dstsL l) = true)
    (I : World → Prop) (S : Nat → World → World → Prop) (p : Nat) (late : Nat → Bool) (hlate : ∀ i o, l[i]? = some o → late i = true → i = p ∨ predB o p = true) (early : Nat → Bool) (J : World → Prop) (hearly : ∀ i, early i = true → i = p ∨ ∃ o, l[p]? = some o ∧ predB o i = true) (hJ0 : J (drewIf d0 w0)) (hJS : ∀ k w w', k ≠ p → J w → S k w w' → J w') (hI0 : I (drewIf d0 w0)) (hIS : ∀ k w w', I w → S k w w' → I w')
    (F : Nat → Value → World → Prop) (hF : ∀ i k v w w', (k = p → late i = false) → F i v w → S k w w' → F i v w')
    (hs : Obs2 P Q a0 I (fun i w => early i = true → J w) S l F 0 l)
    (h1 : ∀ (σ : Nat → Value) (w : World), I w → (∀ i, i < l.length → F i (slotAt l i σ) w) → Q .normal ⟨setAll a0.tmps σ (dstsL l), a0.defers⟩ w) :
    (Code.region id l.toArray d0).wp P Q a0 w0 := by
  have hlt' : ∀ i o, l.toArray[i]? = some o → ∀ e ∈ o.after, Region.binds .any e = true → e.on < i := by
    intro i o ho e he hb
    have hi : i < l.length := by
      have := (Array.getElem?_eq_some_iff.1 ho).1
      simpa using this
    have := List.all_eq_true.1 hlt i (by simpa using hi)
    rw [show l[i]? = some o by simpa using ho] at this
    simp only [Array.all_eq_true_iff_forall_mem] at this
    have := this e he
    simpa [hb] using this
  refine wp_region_sigb d0 hm hlt' (fun d h => ?_) (fun D σ w => I w ∧ (∀ t, (∀ q o, l[q]? = some o → o.dst = some t → ¬ D q) → σ t = a0.tmps.getD t undef) ∧ (∀ i, i < l.length → D i → F i (slotAt l i σ) w) ∧ (∀ i, i < l.length → late i = true → i ≠ p → D i → D p) ∧ (¬ D p → J w) ∧ ∀ q o, l[q]? = some o → D q → ∀ i, predB o i = true → D i) ?_ ?_ ?_
  · have := List.all_eq_true.1 hd d h
    rw [hn]
    simpa using this
  · exact ⟨hI0, fun t _ => rfl, fun _ _ h => h.elim, fun _ _ _ _ h => h, fun _ => hJ0, fun _ _ _ h => h.elim⟩
  · intro D i o σ a w ho hD hpre ⟨hB, hσ, hf, hlt2, hJ, hJp⟩ K hK
    have hol : l[i]? = some o := by simpa using ho
    have hob := hs.get i o hol
    rw [Nat.zero_add] at hob
    refine hob σ a w hB (fun he => hJ fun hDp => ?_) (fun t ht => hσ t fun q oq hq hqt hDq => ?_) (fun j hj => ?_) K (fun v w' hB' hFi => ?_)
    · rcases hearly i he with rfl | ⟨op, hop, hpr⟩
      · exact hD hDp
      · exact hD (hJp p op hop hDp i hpr)
    · have h1 := List.all_eq_true.1 ht oq (List.mem_of_getElem? hq)
      rw [hqt] at h1
      simp only [beq_self_eq_true, Bool.not_true, Bool.false_or] at h1
      exact hD (hJp q oq hq hDq i h1)
    · unfold predB at hj
      rw [List.any_eq_true] at hj
      simp only [Bool.and_eq_true, beq_iff_eq] at hj
      obtain ⟨e, he, rfl, hb⟩ := hj
      have he := Array.mem_toList_iff.1 he
      refine hf _ ?_ (hpre e he hb)
      have := hlt' i o ho e he hb
      have hi : i < l.length := (List.getElem?_eq_some_iff.1 hol).1
      omega
    · refine hK v w' ⟨hIS _ _ _ hB hB', fun t ht => ?_, fun k hk hDk => ?_, fun k hk hl2 hne hDk => ?_, fun hnp => hJS i _ _ (fun e => hnp (.inr e.symm)) (hJ fun h => hnp (.inl h)) hB', fun q op hop hDp k hk => ?_⟩
      · cases hod : o.dst with
        | none => exact hσ t fun q oq hq hqt hDq => ht q oq hq hqt (.inl hDq)
        | some d =>
          have hne : ¬ t = d := fun e => by
            subst e
            exact ht i o hol hod (.inr rfl)
          simp only [putS, if_neg hne]
          exact hσ t fun q oq hq hqt hDq => ht q oq hq hqt (.inl hDq)
      · have hki : ∃ p, l[k]? = some p := ⟨_, List.getElem?_eq_getElem hk⟩
        obtain ⟨p, hp⟩ := hki
        by_cases hke : k = i
        · subst hke
          rw [hol] at hp
          cases hp
          have e : slotAt l k (putS σ o.dst v) = slotS (putS σ o.dst v) o.dst := by unfold slotAt; rw [hol]
          rw [e]
          cases hod : o.dst with
          | none => simpa [slotS, resV, hod] using hFi
          | some d => simpa [slotS, putS, resV, hod] using hFi
        · have hDk' : D k := by
            rcases hDk with h | h
            · exact h
            · exact absurd h hke
          have e : slotAt l k (putS σ o.dst v) = slotAt l k σ := by
            unfold slotAt
            rw [hp]
            cases hpd : p.dst with
            | none => simp [slotS, hpd]
            | some d =>
              cases hod : o.dst with
              | none => simp [slotS, putS, hpd]
              | some d' =>
                have hdd : ¬ d = d' := fun e => hke (nodupB_inj l hnd k i p o d hp hol hpd (e ▸ hod))
                simp [slotS, putS, hdd, hpd]
          rw [e]
          refine hF _ i _ _ _ (fun hip => ?_) (hf k hk hDk') hB'
          subst hip
          cases hlk : late k with
          | false => rfl
          | true => exact absurd (hlt2 k hk hlk hke hDk') hD
      · rcases hDk with h | h
        · exact .inl (hlt2 k hk hl2 hne h)
        · subst h
          rcases hlate k o hol hl2 with h | h
          · exact absurd h hne
          · unfold predB at h
            rw [List.any_eq_true] at h
            simp only [Bool.and_eq_true, beq_iff_eq] at h
            obtain ⟨e, he, rfl, hb⟩ := h
            exact .inl (hpre e (Array.mem_toList_iff.1 he) hb)
      · rcases hDp with h | h
        · exact .inl (hJp q op hop h k hk)
        · subst h
          rw [hol] at hop
          cases hop
          unfold predB at hk
          rw [List.any_eq_true] at hk
          simp only [Bool.and_eq_true, beq_iff_eq] at hk
          obtain ⟨e, he, rfl, hb⟩ := hk
          exact .inl (hpre e (Array.mem_toList_iff.1 he) hb)
  · intro D σ w hall _ ⟨hB, _, hf, _⟩
    exact h1 σ w hB (fun i hi => hf i hi (hall i hi))
/-- Operation p does T to the world, every other one S. -/
def SF (p : Nat) (T S : World → World → Prop) : Nat → World → World → Prop := fun k w w' => if k = p then T w w' else S w w'
theorem SF.ne {p k : Nat} {T S : World → World → Prop} (h : k ≠ p) {w w' : World} (hs : S w w') : SF p T S k w w' := by
  unfold SF
  rw [if_neg h]
  exact hs
theorem SF.eq {p : Nat} {T S : World → World → Prop} {w w' : World} (ht : T w w') : SF p T S p w w' := by
  unfold SF
  rw [if_pos rfl]
  exact ht
theorem SF.ofne {p k : Nat} {T S : World → World → Prop} (h : k ≠ p) {w w' : World} (hs : SF p T S k w w') : S w w' := by
  unfold SF at hs
  rwa [if_neg h] at hs
theorem SF.ofeq {p k : Nat} {T S : World → World → Prop} (h : k = p) {w w' : World} (hs : SF p T S k w w') : T w w' := by
  unfold SF at hs
  rwa [if_pos h] at hs
theorem SF.inv {p : Nat} {T S : World → World → Prop} {I : World → Prop} (hT : ∀ w w', I w → T w w' → I w') (hS : ∀ w w', I w → S w w' → I w') : ∀ k w w', I w → SF p T S k w w' → I w' := fun k w w' h hk => by
  by_cases e : k = p
  · exact hT _ _ h (hk.ofeq e)
  · exact hS _ _ h (hk.ofne e)
end Go.Proofs.YtbjnpomcgcbflaaDoor
