/- The walk of the law AuditEdits. Written by wip/gen/XL5.py. -/
import Derived.Test.YtbjnpomcgcbflaaDoorB12
set_option linter.unusedVariables false
set_option linter.unusedSimpArgs false
namespace Go.Proofs.YtbjnpomcgcbflaaDoor
open Go.RowKit Go.Deep

theorem Arr.fits {w : World} {A : Option Addr} {l : List Ent} (h : Arr EntE 7 w A l) : ∀ e ∈ l, e.Fits := by
  intro e he
  obtain ⟨i, hi⟩ := List.mem_iff_getElem?.1 he
  obtain ⟨b, o, A1, c1, B1, d1, _, ha⟩ := h.ent hi
  exact ha.hi.fits
set_option maxRecDepth 100000 in
set_option maxHeartbeats 2000000 in
theorem edits_r12 {Q : Exit → Act → World → Prop} {a0 : Act} {w0 : World} (head : List UInt8) (Ah : Option Addr) (ch : Nat) (z2 : a0.tmps.getD 2 undef = .slice Ah head.length ch) (hHH : Seg w0 Ah (bvs head)) (hHC : head.length ≤ ch ∧ ch ≤ 9223372036854775807) (zsz : a0.tmps.size = 71)
    (hQ : ∀ (v2 : Value) (w1 : World), Below w0.heap.size w0 w1 → SlB (List.replicate 32 0) (v2) w1 → Q .normal ((((((a0.put (some 63) (.slice Ah head.length ch)).put (some 64) (.string ⟨(head).toArray⟩)).put (some 65) v2).put (some 66) (.string ⟨(List.replicate 32 0).toArray⟩)).put (some 67) (.bool (head == List.replicate 32 0))).put (some 6) (.bool (head == List.replicate 32 0))) w1) :
    (regOf Tryd.f5 12).wp Tryd.prog Q a0 w0 := by
  have Z2 := Lib.hid z2
  clear z2
  have HH := Lib.hid hHH
  clear hHH
  have HC := Lib.hid hHC
  clear hHC
  have HQ := Lib.hid hQ
  clear hQ
  conv => arg 2; whnf
  refine wp_region_facts true (by kernel_rfl) (by kernel_rfl) 71 (by kernel_rfl) zsz (by kernel_rfl) (Below w0.heap.size w0) (fun w w' => Below w.heap.size w w') (drewIf_ext _ _) (fun _ _ h k => ext_trans h k) (fun i v w => match i with
    | 0 => v = .slice Ah head.length ch
    | 1 => v = .string ⟨(head).toArray⟩
    | 2 => SlB (List.replicate 32 0) (v) w
    | 3 => v = .string ⟨(List.replicate 32 0).toArray⟩
    | 4 => v = .bool (head == List.replicate 32 0)
    | 5 => v = .bool (head == List.replicate 32 0)
    | _ => True) ?_ ?_ ?_
  · intro i v w w' h hb
    match i, h with
    | 0, h => exact h
    | 1, h => exact h
    | 2, h => exact SlB.below h hb
    | 3, h => exact h
    | 4, h => exact h
    | 5, h => exact h
    | _ + 6, _ => trivial
  refine Obs.cons (fun σ a w hB hσ hp K hK => ?_) ?_
  · rw [if_pos (by rfl)]
    have e2 : σ 2 = .slice Ah head.length ch := (hσ 2 (by kernel_rfl)).trans Z2.out
    refine stepS_move _ rfl _ e2 ?_
    exact hK _ _ (Below.refl _ _) rfl
  refine Obs.cons (fun σ a w hB hσ hp K hK => ?_) ?_
  · rw [if_pos (by rfl)]
    have e63 : σ 63 = .slice Ah head.length ch := (hp 0 rfl)
    refine stepS_conv_bs _ _ _ _ rfl Tryd.underlying28 Tryd.underlying5 Tryd.underlying9 _ (⟨Ah, ch, e63, HC.out.1, HC.out.2, HH.out.below hB⟩) ?_
    exact hK _ _ (Below.refl _ _) rfl
  refine Obs.cons (fun σ a w hB hσ hp K hK => ?_) ?_
  · rw [if_pos (by rfl)]
    refine stepS_call _ Tryd.func18 (by kernel_rfl) (by kernel_rfl) _ _ rfl _ rfl ?_
    simp only [List.map_toArray, List.map_cons, List.map_nil, evalS]
    refine Calls.mono ((zero_any _).mono fun _ _ h => h.b) ?_
    rintro e w1 ⟨A, c, rfl, hc, hc2, hs, hb⟩
    exact ⟨_, rfl, hK _ _ (hb) ⟨A, c, rfl, hc, hc2, hs⟩⟩
  refine Obs.cons (fun σ a w hB hσ hp K hK => ?_) ?_
  · rw [if_pos (by rfl)]
    have e65 : SlB (List.replicate 32 0) (σ 65) w := (hp 2 rfl)
    refine stepS_conv_bs _ _ _ _ rfl Tryd.underlying28 Tryd.underlying5 Tryd.underlying9 _ (e65) ?_
    exact hK _ _ (Below.refl _ _) rfl
  refine Obs.cons (fun σ a w hB hσ hp K hK => ?_) ?_
  · rw [if_pos (by rfl)]
    have e64 : σ 64 = .string ⟨(head).toArray⟩ := (hp 1 rfl)
    have e66 : σ 66 = .string ⟨(List.replicate 32 0).toArray⟩ := (hp 3 rfl)
    have HK := Lib.hid hK
    have HB := Lib.hid hB
    clear hK hp hσ hB
    unfold stepS
    go_simp
    exact HK.out _ _ (Below.refl _ _) rfl
  refine Obs.cons (fun σ a w hB hσ hp K hK => ?_) ?_
  · rw [if_pos (by rfl)]
    have e67 : σ 67 = .bool (head == List.replicate 32 0) := (hp 4 rfl)
    refine stepS_assign _ rfl _ e67 ?_
    exact hK _ _ (Below.refl _ _) rfl
  · exact Obs.nil _
  · intro σ w hB hf
    have f0 : σ 63 = .slice Ah head.length ch := hf 0 (by decide)
    have f1 : σ 64 = .string ⟨(head).toArray⟩ := hf 1 (by decide)
    have f2 : SlB (List.replicate 32 0) (σ 65) w := hf 2 (by decide)
    have f3 : σ 66 = .string ⟨(List.replicate 32 0).toArray⟩ := hf 3 (by decide)
    have f4 : σ 67 = .bool (head == List.replicate 32 0) := hf 4 (by decide)
    have f5 : σ 6 = .bool (head == List.replicate 32 0) := hf 5 (by decide)
    have hq := HQ.out (σ 65) w hB f2
    simp only [dstsL, List.filterMap_cons, List.filterMap_nil, setAll]
    rw [f0, f1, f3, f4, f5]
    simp only [Act.put] at hq
    exact hq
set_option maxRecDepth 100000 in
set_option maxHeartbeats 2000000 in
theorem auditEdits_walk {A B Ah : Option Addr} {l m : List Ent} {head : List UInt8} {n n2 : Nat} (hn : l.length = n) (hm : m.length = n2) (c d ch : Nat) (hh : head.length ≤ ch ∧ ch ≤ 9223372036854775807) (w : World) (h : Hid (Arr EntE 7 w A l)) (h2 : Hid (Arr EntE 7 w B m)) (h3 : Hid (Seg w Ah (bvs head))) :
    Calls Tryd.prog 5 #[.slice A n c, .slice B n2 d, .slice Ah head.length ch] w fun r w' => r = .returned (.bool true) ∧ Below w.heap.size w w' := by
  have HN := Lib.hid (And.intro hn hm)
  clear hn hm
  go_enter Tryd.func5, Tryd.ntmps5
  go_wp2_with fail
  refine (awake_any w).mono ?_
  rintro r w1 ⟨rfl, b1⟩
  have k2 := few_any HN.out.1 c w1 (h.out.below EntE.stays b1)
  go_wp2_with fail
  refine k2.mono ?_
  rintro r w2 ⟨rfl, b2⟩
  have B2 := ext_trans b1 b2
  have k3 := few_any HN.out.2 d w2 (h2.out.below EntE.stays B2)
  go_wp2_with fail
  refine k3.mono ?_
  rintro r w3 ⟨rfl, b3⟩
  have B3 := Lib.hid (ext_trans B2 b3)
  clear k2 k3 b1 b2 b3 B2
  cases hf1 : fewB l
  · have H := Lib.hid hf1
    clear hf1
    go_wp2_with fail
    go_ret
    exact ⟨rfl, B3.out⟩
  cases hf2 : fewB m
  · have H := Lib.hid (And.intro hf1 hf2)
    clear hf1 hf2
    go_wp2_with fail
    go_ret
    exact ⟨rfl, B3.out⟩
  have HF := Lib.hid (And.intro (fewB_le hf1) (fewB_le hf2))
  clear hf1 hf2
  have hn : n ≤ 40 := by have := HN.out.1; have := HF.out.1.1; omega
  have hm : n2 ≤ 40 := by have := HN.out.2; have := HF.out.2.1; omega
  have k4 := verify_any HN.out.1 (by omega) c Ah head ch w3 (h.out.below EntE.stays B3.out) HF.out.1.2 (h3.out.below B3.out)
  go_wp2_with fail
  refine k4.mono ?_
  rintro r w4 ⟨rfl, b4⟩
  have B4 := Lib.hid (ext_trans B3.out b4)
  have k5 := verify_any HN.out.2 (by omega) d Ah head ch w4 (h2.out.below EntE.stays B4.out) HF.out.2.2 (h3.out.below B4.out)
  clear k4 b4
  go_wp2_with fail
  refine k5.mono ?_
  rintro r w5 ⟨rfl, b5⟩
  have B5 := Lib.hid (ext_trans B4.out b5)
  have k6 := lists_any HN.out.1 HN.out.2 (by omega) c d w5 (h.out.below EntE.stays B5.out) (h2.out.below EntE.stays B5.out)
  clear k5 b5
  go_wp2_with fail
  refine k6.mono ?_
  rintro r w6 ⟨rfl, b6⟩
  have B6 := Lib.hid (ext_trans B5.out b6)
  clear k6 b6
  cases hp : (verB l head).2
  · have H := Lib.hid hp
    clear hp
    go_wp2_with fail
    go_ret
    exact ⟨rfl, B6.out⟩
  cases hq : (verB m head).2
  · have H := Lib.hid (And.intro hp hq)
    clear hp hq
    go_wp2_with fail
    go_ret
    exact ⟨rfl, B6.out⟩
  cases hs : listsB l m
  rotate_left
  · have H := Lib.hid (And.intro hp (And.intro hq hs))
    clear hp hq hs
    go_wp2_with fail
    go_ret
    exact ⟨rfl, B6.out⟩
  have G1 := Lib.hid ((verB_good l head).1 hp)
  have G2 := Lib.hid ((verB_good m head).1 hq)
  have HS : Hid (¬ l = m) := of_decide_eq_false hs
  clear hp hq hs
  by_cases h0 : (n : Int) = 0 ∨ (n2 : Int) = 0
  · have hz : head = List.replicate 32 0 := by
      rcases h0 with h0 | h0
      · have hl : l = [] := List.eq_nil_of_length_eq_zero (by have := HN.out.1; omega)
        have hg := G1.out
        rw [hl] at hg
        exact hg
      · have hl : m = [] := List.eq_nil_of_length_eq_zero (by have := HN.out.2; omega)
        have hg := G2.out
        rw [hl] at hg
        exact hg
    have HZ := Lib.hid hz
    clear hz
    by_cases hn0 : n = 0
    · have e0 : (n : Int) = 0 := by omega
      clear h0 hn0
      go_wp2_with fail
      refine edits_r12 head Ah ch (by rfl) (h3.out.below B6.out) hh (by rfl) ?_
      intro v2 w7 b7 _
      have B7 := Lib.hid (ext_trans B6.out b7)
      clear b7
      simp only [Act.put, List.setIfInBounds_toArray, List.set_cons_zero, List.set_cons_succ]
      go_wp2_with fail
      go_ret
      rw [HZ.out]
      exact ⟨rfl, B7.out⟩
    · have e0 : ¬ (n : Int) = 0 := by omega
      have e1 : (n2 : Int) = 0 := by omega
      clear h0 hn0
      go_wp2_with fail
      refine edits_r12 head Ah ch (by rfl) (h3.out.below B6.out) hh (by rfl) ?_
      intro v2 w7 b7 _
      have B7 := Lib.hid (ext_trans B6.out b7)
      clear b7
      simp only [Act.put, List.setIfInBounds_toArray, List.set_cons_zero, List.set_cons_succ]
      go_wp2_with fail
      go_ret
      rw [HZ.out]
      exact ⟨rfl, B7.out⟩
  · have e0 : ¬ (n : Int) = 0 := fun e => h0 (.inl e)
    have e1 : ¬ (n2 : Int) = 0 := fun e => h0 (.inr e)
    have hc : clashB l m = true := by
      have hln : l.reverse ≠ [] := fun e => e0 (by have := congrArg List.length e; simp at this; have := HN.out.1; simp_all)
      have hmn : m.reverse ≠ [] := fun e => e1 (by have := congrArg List.length e; simp at this; have := HN.out.2; simp_all)
      have hf1 := h.out.fits
      have hf2 := h2.out.fits
      rcases clash_or l.reverse m.reverse head (fun e he => hf1 e (by simpa using he)) (fun e he => hf2 e (by simpa using he)) G1.out G2.out hln hmn with hc | hc
      · exact hc
      · exact absurd (List.reverse_inj.1 hc) HS.out
    have e0' : ((n : Int) == 0) = false := by simpa using e0
    have e1' : ((n2 : Int) == 0) = false := by simpa using e1
    have k7 := clash_any HN.out.1 HN.out.2 (by omega) (by omega) c d w6 (h.out.below EntE.stays B6.out) (h2.out.below EntE.stays B6.out) ⟨HF.out.1.2, HF.out.2.2⟩
    rw [hc] at k7
    clear hc h0 e0 e1
    go_wp2_with fail
    refine k7.mono ?_
    rintro r w7 ⟨rfl, b7⟩
    have B7 := Lib.hid (ext_trans B6.out b7)
    clear k7 b7
    go_wp2_with fail
    go_ret
    exact ⟨rfl, B7.out⟩
end Go.Proofs.YtbjnpomcgcbflaaDoor
