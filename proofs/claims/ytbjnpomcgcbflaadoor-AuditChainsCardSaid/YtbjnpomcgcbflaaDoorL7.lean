/- The walk of the law AuditFirst. Written by wip/gen/XL7.py. -/
import Derived.Test.YtbjnpomcgcbflaaDoorL5
set_option linter.unusedVariables false
set_option linter.unusedSimpArgs false
namespace Go.Proofs.YtbjnpomcgcbflaaDoor
open Go.RowKit Go.Deep

theorem Arr.take {α : Type} {E : World → List Value → α → Prop} {sz : Nat} {w : World} {A : Option Addr} {l : List α} (h : Arr E sz w A l) (k : Nat) : Arr E sz w A (l.take k) := by
  obtain ⟨cs, hs, hl, he⟩ := h.out
  refine ⟨cs.take (k * sz), hs.take _, ?_, fun i x hx => ?_⟩
  · rw [List.length_take, List.length_take, hl]
    rcases Nat.le_total k l.length with h | h
    · rw [Nat.min_eq_left h, Nat.min_eq_left (Nat.mul_le_mul_right _ h)]
    · rw [Nat.min_eq_right h, Nat.min_eq_right (Nat.mul_le_mul_right _ h)]
  · rw [List.getElem?_take] at hx
    split at hx
    · rename_i hik
      have e : ((cs.take (k * sz)).drop (i * sz)).take sz = (cs.drop (i * sz)).take sz := by
        have hle : i * sz + sz ≤ k * sz := by
          rw [← Nat.succ_mul]
          exact Nat.mul_le_mul_right _ hik
        rw [List.drop_take, List.take_take, Nat.min_eq_left (by omega)]
      rw [e]
      exact he i x hx
    · cases hx
theorem verB_fst {l : List Ent} (h : Good l.reverse (headB l)) (p : List UInt8) : (verB l p).1 = l.length := by
  have h1 := verB_len ((verB_good l _).2 h)
  unfold verB at h1 ⊢
  rcases hq : verFrom 0 zeroB l with ⟨n, _ | _, q⟩ <;> (rw [hq] at h1; exact h1)
theorem first_pure {l : List Say} (hl : l.length ≤ 20) (hf : ∀ s ∈ l, I64 s.time ∧ I64 s.code) {k : Nat} (hk : k < l.length) :
    verB ((chainB [] l).take k) (headB ((chainB [] l).take k)) = (k, true) ∧ (verB ((chainB [] l).take k) (headB (chainB [] l))).1 = k ∧
    ((verB ((chainB [] l).take k) (headB (chainB [] l))).2 = true → ((k : Int) == 0 && headB (chainB [] l) == List.replicate 32 0) = false → clashB ((chainB [] l).take k) (chainB [] l) = true) := by
  have g1 := chainB_good (l.take k) [] goodNil
  have g2 := chainB_good l [] goodNil
  have hlen : (chainB [] (l.take k)).length = k := by rw [chainB_length]; simp; omega
  have hlen2 : (chainB [] l).length = l.length := by rw [chainB_length]; simp
  rw [chainB_take l k (by omega)]
  have h1 := (verB_good _ _).2 g1
  refine ⟨Prod.ext ((verB_len h1).trans hlen) h1, (verB_fst g1 _).trans hlen, fun h2 hz => ?_⟩
  have g3 := (verB_good _ _).1 h2
  have hf1 : ∀ e ∈ (chainB [] (l.take k)).reverse, e.Fits := fun e he => chainB_fits (l.take k) (by simp; omega) (fun s hs => hf s (List.mem_of_mem_take hs)) e (by simpa using he)
  have hf2 : ∀ e ∈ (chainB [] l).reverse, e.Fits := fun e he => chainB_fits l (by omega) hf e (by simpa using he)
  by_cases h0 : k = 0
  · subst h0
    have hg : headB (chainB [] l) = zeroB := g3
    rw [hg] at hz
    exact absurd hz (by decide)
  · have n1 : (chainB [] (l.take k)).reverse ≠ [] := fun e => h0 (by have := congrArg List.length e; rw [List.length_reverse, hlen] at this; exact this)
    have n2 : (chainB [] l).reverse ≠ [] := fun e => by
      have h5 := congrArg List.length e
      rw [List.length_reverse, hlen2] at h5
      exact absurd h5 (by show ¬ l.length = 0; omega)
    rcases clash_or _ _ _ hf1 hf2 g3 g2 n1 n2 with h | h
    · exact h
    · have := congrArg List.length (List.reverse_inj.1 h)
      omega
set_option maxRecDepth 100000 in
set_option maxHeartbeats 2000000 in
theorem first_r5 {Q : Exit → Act → World → Prop} {a0 : Act} {w0 : World} (L : List Ent) (Ac : Option Addr) (cc k : Nat) (z1 : a0.tmps.getD 1 undef = .int .i64 (k : Int)) (z6 : a0.tmps.getD 6 undef = .slice Ac L.length cc) (hHA : Arr EntE 7 w0 Ac L) (hHL : ∀ e ∈ L, EntLe e) (hHK : k < L.length ∧ L.length ≤ cc ∧ L.length ≤ 20 ∧ (k : Int) ≤ (cc : Int)) (zsz : a0.tmps.size = 91)
    (hQ : ∀ (v6 v7 v8 : Value) (w1 : World), Below w0.heap.size w0 w1 → SlB (headB (L.take k)) (v6) w1 → v7 = .tuple #[.int .i64 (verB (L.take k) (headB (L.take k))).1, .bool (verB (L.take k) (headB (L.take k))).2] → v8 = .tuple #[.int .i64 (verB (L.take k) (headB (L.take k))).1, .bool (verB (L.take k) (headB (L.take k))).2] → Q .normal (((((((((((((a0.put (some 37) (.slice Ac L.length cc)).put (some 38) (.int .i64 (k : Int))).put (some 39) (.slice Ac k cc)).put (some 40) (.slice Ac L.length cc)).put (some 41) (.int .i64 (k : Int))).put (some 42) (.slice Ac k cc)).put (some 43) v6).put (some 44) v7).put (some 36) v8).put (some 45) (.int .i64 (verB (L.take k) (headB (L.take k))).1)).put (some 46) (.bool (verB (L.take k) (headB (L.take k))).2)).put (some 8) (.int .i64 (verB (L.take k) (headB (L.take k))).1)).put (some 9) (.bool (verB (L.take k) (headB (L.take k))).2)) w1) :
    (regOf Tryd.f7 5).wp Tryd.prog Q a0 w0 := by
  have Z1 := Lib.hid z1
  clear z1
  have Z6 := Lib.hid z6
  clear z6
  have HA := Lib.hid hHA
  clear hHA
  have HL := Lib.hid hHL
  clear hHL
  have HK := Lib.hid hHK
  clear hHK
  have HQ := Lib.hid hQ
  clear hQ
  conv => arg 2; whnf
  refine wp_region_facts true (by kernel_rfl) (by kernel_rfl) 91 (by kernel_rfl) zsz (by kernel_rfl) (Below w0.heap.size w0) (fun w w' => Below w.heap.size w w') (drewIf_ext _ _) (fun _ _ h k => ext_trans h k) (fun i v w => match i with
    | 0 => v = .slice Ac L.length cc
    | 1 => v = .int .i64 (k : Int)
    | 2 => v = .slice Ac k cc
    | 3 => v = .slice Ac L.length cc
    | 4 => v = .int .i64 (k : Int)
    | 5 => v = .slice Ac k cc
    | 6 => SlB (headB (L.take k)) (v) w
    | 7 => v = .tuple #[.int .i64 (verB (L.take k) (headB (L.take k))).1, .bool (verB (L.take k) (headB (L.take k))).2]
    | 8 => v = .tuple #[.int .i64 (verB (L.take k) (headB (L.take k))).1, .bool (verB (L.take k) (headB (L.take k))).2]
    | 9 => v = .int .i64 (verB (L.take k) (headB (L.take k))).1
    | 10 => v = .bool (verB (L.take k) (headB (L.take k))).2
    | 11 => v = .int .i64 (verB (L.take k) (headB (L.take k))).1
    | 12 => v = .bool (verB (L.take k) (headB (L.take k))).2
    | _ => True) ?_ ?_ ?_
  · intro i v w w' h hb
    match i, h with
    | 0, h => exact h
    | 1, h => exact h
    | 2, h => exact h
    | 3, h => exact h
    | 4, h => exact h
    | 5, h => exact h
    | 6, h => exact SlB.below h hb
    | 7, h => exact h
    | 8, h => exact h
    | 9, h => exact h
    | 10, h => exact h
    | 11, h => exact h
    | 12, h => exact h
    | _ + 13, _ => trivial
  refine Obs.cons (fun σ a w hB hσ hp K hK => ?_) ?_
  · rw [if_pos (by rfl)]
    have e6 : σ 6 = .slice Ac L.length cc := (hσ 6 (by kernel_rfl)).trans Z6.out
    refine stepS_move _ rfl _ e6 ?_
    exact hK _ _ (Below.refl _ _) rfl
  refine Obs.cons (fun σ a w hB hσ hp K hK => ?_) ?_
  · rw [if_pos (by rfl)]
    have e1 : σ 1 = .int .i64 (k : Int) := (hσ 1 (by kernel_rfl)).trans Z1.out
    refine stepS_move _ rfl _ e1 ?_
    exact hK _ _ (Below.refl _ _) rfl
  refine Obs.cons (fun σ a w hB hσ hp K hK => ?_) ?_
  · rw [if_pos (by rfl)]
    have e37 : σ 37 = .slice Ac L.length cc := (hp 0 rfl)
    have e38 : σ 38 = .int .i64 (k : Int) := (hp 1 rfl)
    have hc := HK.out.2.2.2
    have HK := Lib.hid hK
    have HB := Lib.hid hB
    clear hK hp hσ hB
    unfold stepS
    go_simp
    exact HK.out _ _ (Below.refl _ _) rfl
  refine Obs.cons (fun σ a w hB hσ hp K hK => ?_) ?_
  · rw [if_pos (by rfl)]
    have e6 : σ 6 = .slice Ac L.length cc := (hσ 6 (by kernel_rfl)).trans Z6.out
    refine stepS_move _ rfl _ e6 ?_
    exact hK _ _ (Below.refl _ _) rfl
  refine Obs.cons (fun σ a w hB hσ hp K hK => ?_) ?_
  · rw [if_pos (by rfl)]
    have e1 : σ 1 = .int .i64 (k : Int) := (hσ 1 (by kernel_rfl)).trans Z1.out
    refine stepS_move _ rfl _ e1 ?_
    exact hK _ _ (Below.refl _ _) rfl
  refine Obs.cons (fun σ a w hB hσ hp K hK => ?_) ?_
  · rw [if_pos (by rfl)]
    have e40 : σ 40 = .slice Ac L.length cc := (hp 3 rfl)
    have e41 : σ 41 = .int .i64 (k : Int) := (hp 4 rfl)
    have hc := HK.out.2.2.2
    have HK := Lib.hid hK
    have HB := Lib.hid hB
    clear hK hp hσ hB
    unfold stepS
    go_simp
    exact HK.out _ _ (Below.refl _ _) rfl
  refine Obs.cons (fun σ a w hB hσ hp K hK => ?_) ?_
  · rw [if_pos (by rfl)]
    have e42 : σ 42 = .slice Ac k cc := (hp 5 rfl)
    refine stepS_call _ Tryd.func16 (by kernel_rfl) (by kernel_rfl) _ _ rfl _ rfl ?_
    simp only [List.map_toArray, List.map_cons, List.map_nil, evalS, e42]
    refine Calls.mono ((head_any (l := L.take k) (by have := HK.out; simp; omega) (by have := HK.out; omega) cc w ((HA.out.below EntE.stays hB).take k) (fun e he => HL.out e (List.mem_of_mem_take he))).mono fun _ _ h => h.b) ?_
    rintro e w1 ⟨A, c, rfl, hc, hc2, hs, hb⟩
    exact ⟨_, rfl, hK _ _ (hb) ⟨A, c, rfl, hc, hc2, hs⟩⟩
  refine Obs.cons (fun σ a w hB hσ hp K hK => ?_) ?_
  · rw [if_pos (by rfl)]
    have e39 : σ 39 = .slice Ac k cc := (hp 2 rfl)
    have e43 : SlB (headB (L.take k)) (σ 43) w := (hp 6 rfl)
    obtain ⟨A43, c43, q43, h1, h2, h3⟩ := e43
    refine stepS_call _ Tryd.func20 (by kernel_rfl) (by kernel_rfl) _ _ rfl _ rfl ?_
    simp only [List.map_toArray, List.map_cons, List.map_nil, evalS, e39, q43]
    refine Calls.mono (verify_any (l := L.take k) (by have := HK.out; simp; omega) (by have := HK.out; omega) cc A43 (headB (L.take k)) c43 w ((HA.out.below EntE.stays hB).take k) (fun e he => HL.out e (List.mem_of_mem_take he)) h3) ?_
    rintro e w1 ⟨rfl, hb⟩
    exact ⟨_, rfl, hK _ _ (hb) rfl⟩
  refine Obs.cons (fun σ a w hB hσ hp K hK => ?_) ?_
  · rw [if_pos (by rfl)]
    have e44 : σ 44 = .tuple #[.int .i64 (verB (L.take k) (headB (L.take k))).1, .bool (verB (L.take k) (headB (L.take k))).2] := (hp 7 rfl)
    refine stepS_move _ rfl _ rfl ?_
    exact hK _ _ (Below.refl _ _) e44
  refine Obs.cons (fun σ a w hB hσ hp K hK => ?_) ?_
  · rw [if_pos (by rfl)]
    have e36 : σ 36 = .tuple #[.int .i64 (verB (L.take k) (headB (L.take k))).1, .bool (verB (L.take k) (headB (L.take k))).2] := (hp 8 rfl)
    have HK := Lib.hid hK
    have HB := Lib.hid hB
    clear hK hp hσ hB
    unfold stepS
    go_simp
    exact HK.out _ _ (Below.refl _ _) rfl
  refine Obs.cons (fun σ a w hB hσ hp K hK => ?_) ?_
  · rw [if_pos (by rfl)]
    have e36 : σ 36 = .tuple #[.int .i64 (verB (L.take k) (headB (L.take k))).1, .bool (verB (L.take k) (headB (L.take k))).2] := (hp 8 rfl)
    have HK := Lib.hid hK
    have HB := Lib.hid hB
    clear hK hp hσ hB
    unfold stepS
    go_simp
    exact HK.out _ _ (Below.refl _ _) rfl
  refine Obs.cons (fun σ a w hB hσ hp K hK => ?_) ?_
  · rw [if_pos (by rfl)]
    have e45 : σ 45 = .int .i64 (verB (L.take k) (headB (L.take k))).1 := (hp 9 rfl)
    refine stepS_assign _ rfl _ e45 ?_
    exact hK _ _ (Below.refl _ _) rfl
  refine Obs.cons (fun σ a w hB hσ hp K hK => ?_) ?_
  · rw [if_pos (by rfl)]
    have e46 : σ 46 = .bool (verB (L.take k) (headB (L.take k))).2 := (hp 10 rfl)
    refine stepS_assign _ rfl _ e46 ?_
    exact hK _ _ (Below.refl _ _) rfl
  · exact Obs.nil _
  · intro σ w hB hf
    have f0 : σ 37 = .slice Ac L.length cc := hf 0 (by decide)
    have f1 : σ 38 = .int .i64 (k : Int) := hf 1 (by decide)
    have f2 : σ 39 = .slice Ac k cc := hf 2 (by decide)
    have f3 : σ 40 = .slice Ac L.length cc := hf 3 (by decide)
    have f4 : σ 41 = .int .i64 (k : Int) := hf 4 (by decide)
    have f5 : σ 42 = .slice Ac k cc := hf 5 (by decide)
    have f6 : SlB (headB (L.take k)) (σ 43) w := hf 6 (by decide)
    have f7 : σ 44 = .tuple #[.int .i64 (verB (L.take k) (headB (L.take k))).1, .bool (verB (L.take k) (headB (L.take k))).2] := hf 7 (by decide)
    have f8 : σ 36 = .tuple #[.int .i64 (verB (L.take k) (headB (L.take k))).1, .bool (verB (L.take k) (headB (L.take k))).2] := hf 8 (by decide)
    have f9 : σ 45 = .int .i64 (verB (L.take k) (headB (L.take k))).1 := hf 9 (by decide)
    have f10 : σ 46 = .bool (verB (L.take k) (headB (L.take k))).2 := hf 10 (by decide)
    have f11 : σ 8 = .int .i64 (verB (L.take k) (headB (L.take k))).1 := hf 11 (by decide)
    have f12 : σ 9 = .bool (verB (L.take k) (headB (L.take k))).2 := hf 12 (by decide)
    have hq := HQ.out (σ 43) (σ 44) (σ 36) w hB f6 f7 f8
    simp only [dstsL, List.filterMap_cons, List.filterMap_nil, setAll]
    rw [f0, f1, f2, f3, f4, f5, f9, f10, f11, f12]
    simp only [Act.put] at hq
    exact hq
set_option maxRecDepth 100000 in
set_option maxHeartbeats 2000000 in
theorem first_r6 {Q : Exit → Act → World → Prop} {a0 : Act} {w0 : World} (L : List Ent) (Ac : Option Addr) (cc k : Nat) (z1 : a0.tmps.getD 1 undef = .int .i64 (k : Int)) (z6 : a0.tmps.getD 6 undef = .slice Ac L.length cc) (hHA : Arr EntE 7 w0 Ac L) (hHL : ∀ e ∈ L, EntLe e) (hHK : k < L.length ∧ L.length ≤ cc ∧ L.length ≤ 20 ∧ (k : Int) ≤ (cc : Int)) (zsz : a0.tmps.size = 91)
    (hQ : ∀ (v4 v5 v6 : Value) (w1 : World), Below w0.heap.size w0 w1 → SlB (headB L) (v4) w1 → v5 = .tuple #[.int .i64 (verB (L.take k) (headB L)).1, .bool (verB (L.take k) (headB L)).2] → v6 = .tuple #[.int .i64 (verB (L.take k) (headB L)).1, .bool (verB (L.take k) (headB L)).2] → Q .normal (((((((((((a0.put (some 48) (.slice Ac L.length cc)).put (some 49) (.int .i64 (k : Int))).put (some 50) (.slice Ac k cc)).put (some 51) (.slice Ac L.length cc)).put (some 52) v4).put (some 53) v5).put (some 47) v6).put (some 54) (.int .i64 (verB (L.take k) (headB L)).1)).put (some 55) (.bool (verB (L.take k) (headB L)).2)).put (some 10) (.int .i64 (verB (L.take k) (headB L)).1)).put (some 11) (.bool (verB (L.take k) (headB L)).2)) w1) :
    (regOf Tryd.f7 6).wp Tryd.prog Q a0 w0 := by
  have Z1 := Lib.hid z1
  clear z1
  have Z6 := Lib.hid z6
  clear z6
  have HA := Lib.hid hHA
  clear hHA
  have HL := Lib.hid hHL
  clear hHL
  have HK := Lib.hid hHK
  clear hHK
  have HQ := Lib.hid hQ
  clear hQ
  conv => arg 2; whnf
  refine wp_region_facts true (by kernel_rfl) (by kernel_rfl) 91 (by kernel_rfl) zsz (by kernel_rfl) (Below w0.heap.size w0) (fun w w' => Below w.heap.size w w') (drewIf_ext _ _) (fun _ _ h k => ext_trans h k) (fun i v w => match i with
    | 0 => v = .slice Ac L.length cc
    | 1 => v = .int .i64 (k : Int)
    | 2 => v = .slice Ac k cc
    | 3 => v = .slice Ac L.length cc
    | 4 => SlB (headB L) (v) w
    | 5 => v = .tuple #[.int .i64 (verB (L.take k) (headB L)).1, .bool (verB (L.take k) (headB L)).2]
    | 6 => v = .tuple #[.int .i64 (verB (L.take k) (headB L)).1, .bool (verB (L.take k) (headB L)).2]
    | 7 => v = .int .i64 (verB (L.take k) (headB L)).1
    | 8 => v = .bool (verB (L.take k) (headB L)).2
    | 9 => v = .int .i64 (verB (L.take k) (headB L)).1
    | 10 => v = .bool (verB (L.take k) (headB L)).2
    | _ => True) ?_ ?_ ?_
  · intro i v w w' h hb
    match i, h with
    | 0, h => exact h
    | 1, h => exact h
    | 2, h => exact h
    | 3, h => exact h
    | 4, h => exact SlB.below h hb
    | 5, h => exact h
    | 6, h => exact h
    | 7, h => exact h
    | 8, h => exact h
    | 9, h => exact h
    | 10, h => exact h
    | _ + 11, _ => trivial
  refine Obs.cons (fun σ a w hB hσ hp K hK => ?_) ?_
  · rw [if_pos (by rfl)]
    have e6 : σ 6 = .slice Ac L.length cc := (hσ 6 (by kernel_rfl)).trans Z6.out
    refine stepS_move _ rfl _ e6 ?_
    exact hK _ _ (Below.refl _ _) rfl
  refine Obs.cons (fun σ a w hB hσ hp K hK => ?_) ?_
  · rw [if_pos (by rfl)]
    have e1 : σ 1 = .int .i64 (k : Int) := (hσ 1 (by kernel_rfl)).trans Z1.out
    refine stepS_move _ rfl _ e1 ?_
    exact hK _ _ (Below.refl _ _) rfl
  refine Obs.cons (fun σ a w hB hσ hp K hK => ?_) ?_
  · rw [if_pos (by rfl)]
    have e48 : σ 48 = .slice Ac L.length cc := (hp 0 rfl)
    have e49 : σ 49 = .int .i64 (k : Int) := (hp 1 rfl)
    have hc := HK.out.2.2.2
    have HK := Lib.hid hK
    have HB := Lib.hid hB
    clear hK hp hσ hB
    unfold stepS
    go_simp
    exact HK.out _ _ (Below.refl _ _) rfl
  refine Obs.cons (fun σ a w hB hσ hp K hK => ?_) ?_
  · rw [if_pos (by rfl)]
    have e6 : σ 6 = .slice Ac L.length cc := (hσ 6 (by kernel_rfl)).trans Z6.out
    refine stepS_move _ rfl _ e6 ?_
    exact hK _ _ (Below.refl _ _) rfl
  refine Obs.cons (fun σ a w hB hσ hp K hK => ?_) ?_
  · rw [if_pos (by rfl)]
    have e51 : σ 51 = .slice Ac L.length cc := (hp 3 rfl)
    refine stepS_call _ Tryd.func16 (by kernel_rfl) (by kernel_rfl) _ _ rfl _ rfl ?_
    simp only [List.map_toArray, List.map_cons, List.map_nil, evalS, e51]
    refine Calls.mono ((head_any (l := L) rfl (by have := HK.out; omega) cc w (HA.out.below EntE.stays hB) HL.out).mono fun _ _ h => h.b) ?_
    rintro e w1 ⟨A, c, rfl, hc, hc2, hs, hb⟩
    exact ⟨_, rfl, hK _ _ (hb) ⟨A, c, rfl, hc, hc2, hs⟩⟩
  refine Obs.cons (fun σ a w hB hσ hp K hK => ?_) ?_
  · rw [if_pos (by rfl)]
    have e50 : σ 50 = .slice Ac k cc := (hp 2 rfl)
    have e52 : SlB (headB L) (σ 52) w := (hp 4 rfl)
    obtain ⟨A52, c52, q52, h1, h2, h3⟩ := e52
    refine stepS_call _ Tryd.func20 (by kernel_rfl) (by kernel_rfl) _ _ rfl _ rfl ?_
    simp only [List.map_toArray, List.map_cons, List.map_nil, evalS, e50, q52]
    refine Calls.mono (verify_any (l := L.take k) (by have := HK.out; simp; omega) (by have := HK.out; omega) cc A52 (headB L) c52 w ((HA.out.below EntE.stays hB).take k) (fun e he => HL.out e (List.mem_of_mem_take he)) h3) ?_
    rintro e w1 ⟨rfl, hb⟩
    exact ⟨_, rfl, hK _ _ (hb) rfl⟩
  refine Obs.cons (fun σ a w hB hσ hp K hK => ?_) ?_
  · rw [if_pos (by rfl)]
    have e53 : σ 53 = .tuple #[.int .i64 (verB (L.take k) (headB L)).1, .bool (verB (L.take k) (headB L)).2] := (hp 5 rfl)
    refine stepS_move _ rfl _ rfl ?_
    exact hK _ _ (Below.refl _ _) e53
  refine Obs.cons (fun σ a w hB hσ hp K hK => ?_) ?_
  · rw [if_pos (by rfl)]
    have e47 : σ 47 = .tuple #[.int .i64 (verB (L.take k) (headB L)).1, .bool (verB (L.take k) (headB L)).2] := (hp 6 rfl)
    have HK := Lib.hid hK
    have HB := Lib.hid hB
    clear hK hp hσ hB
    unfold stepS
    go_simp
    exact HK.out _ _ (Below.refl _ _) rfl
  refine Obs.cons (fun σ a w hB hσ hp K hK => ?_) ?_
  · rw [if_pos (by rfl)]
    have e47 : σ 47 = .tuple #[.int .i64 (verB (L.take k) (headB L)).1, .bool (verB (L.take k) (headB L)).2] := (hp 6 rfl)
    have HK := Lib.hid hK
    have HB := Lib.hid hB
    clear hK hp hσ hB
    unfold stepS
    go_simp
    exact HK.out _ _ (Below.refl _ _) rfl
  refine Obs.cons (fun σ a w hB hσ hp K hK => ?_) ?_
  · rw [if_pos (by rfl)]
    have e54 : σ 54 = .int .i64 (verB (L.take k) (headB L)).1 := (hp 7 rfl)
    refine stepS_assign _ rfl _ e54 ?_
    exact hK _ _ (Below.refl _ _) rfl
  refine Obs.cons (fun σ a w hB hσ hp K hK => ?_) ?_
  · rw [if_pos (by rfl)]
    have e55 : σ 55 = .bool (verB (L.take k) (headB L)).2 := (hp 8 rfl)
    refine stepS_assign _ rfl _ e55 ?_
    exact hK _ _ (Below.refl _ _) rfl
  · exact Obs.nil _
  · intro σ w hB hf
    have f0 : σ 48 = .slice Ac L.length cc := hf 0 (by decide)
    have f1 : σ 49 = .int .i64 (k : Int) := hf 1 (by decide)
    have f2 : σ 50 = .slice Ac k cc := hf 2 (by decide)
    have f3 : σ 51 = .slice Ac L.length cc := hf 3 (by decide)
    have f4 : SlB (headB L) (σ 52) w := hf 4 (by decide)
    have f5 : σ 53 = .tuple #[.int .i64 (verB (L.take k) (headB L)).1, .bool (verB (L.take k) (headB L)).2] := hf 5 (by decide)
    have f6 : σ 47 = .tuple #[.int .i64 (verB (L.take k) (headB L)).1, .bool (verB (L.take k) (headB L)).2] := hf 6 (by decide)
    have f7 : σ 54 = .int .i64 (verB (L.take k) (headB L)).1 := hf 7 (by decide)
    have f8 : σ 55 = .bool (verB (L.take k) (headB L)).2 := hf 8 (by decide)
    have f9 : σ 10 = .int .i64 (verB (L.take k) (headB L)).1 := hf 9 (by decide)
    have f10 : σ 11 = .bool (verB (L.take k) (headB L)).2 := hf 10 (by decide)
    have hq := HQ.out (σ 52) (σ 53) (σ 47) w hB f4 f5 f6
    simp only [dstsL, List.filterMap_cons, List.filterMap_nil, setAll]
    rw [f0, f1, f2, f3, f7, f8, f9, f10]
    simp only [Act.put] at hq
    exact hq
set_option maxRecDepth 100000 in
set_option maxHeartbeats 2000000 in
theorem first_r7 {Q : Exit → Act → World → Prop} {a0 : Act} {w0 : World} (L : List Ent) (Ac : Option Addr) (cc k : Nat) (z1 : a0.tmps.getD 1 undef = .int .i64 (k : Int)) (z6 : a0.tmps.getD 6 undef = .slice Ac L.length cc) (hHA : Arr EntE 7 w0 Ac L) (hHL : ∀ e ∈ L, EntLe e) (hHK : L.length ≤ 20) (zsz : a0.tmps.size = 91)
    (hQ : ∀ (v3 v4 v5 v6 v7 v8 : Value) (w1 : World), Below w0.heap.size w0 w1 → (((k : Int) == 0) = true → v3 = .slice Ac L.length cc) → (((k : Int) == 0) = true → SlB (headB L) (v4) w1) → (((k : Int) == 0) = true → v5 = .string ⟨(headB L).toArray⟩) → (((k : Int) == 0) = true → SlB (List.replicate 32 0) (v6) w1) → (((k : Int) == 0) = true → v7 = .string ⟨(List.replicate 32 0).toArray⟩) → (((k : Int) == 0) = true → v8 = .bool (headB L == List.replicate 32 0)) → Q .normal (((((((((((a0.put (some 56) (.int .i64 (k : Int))).put (some 57) (.bool ((k : Int) == 0))).put (some 58) (.bool ((k : Int) == 0))).put (some 59) v3).put (some 60) v4).put (some 61) v5).put (some 62) v6).put (some 63) v7).put (some 64) v8).put (some 65) (.bool ((k : Int) == 0 && headB L == List.replicate 32 0))).put (some 12) (.bool ((k : Int) == 0 && headB L == List.replicate 32 0))) w1) :
    (regOf Tryd.f7 7).wp Tryd.prog Q a0 w0 := by
  have Z1 := Lib.hid z1
  clear z1
  have Z6 := Lib.hid z6
  clear z6
  have HA := Lib.hid hHA
  clear hHA
  have HL := Lib.hid hHL
  clear hHL
  have HK := Lib.hid hHK
  clear hHK
  have HQ := Lib.hid hQ
  clear hQ
  conv => arg 2; whnf
  refine wp_region_facts true (by kernel_rfl) (by kernel_rfl) 91 (by kernel_rfl) zsz (by kernel_rfl) (Below w0.heap.size w0) (fun w w' => Below w.heap.size w w') (drewIf_ext _ _) (fun _ _ h k => ext_trans h k) (fun i v w => match i with
    | 0 => v = .int .i64 (k : Int)
    | 1 => v = .bool ((k : Int) == 0)
    | 2 => v = .bool ((k : Int) == 0)
    | 3 => (((k : Int) == 0) = true → v = .slice Ac L.length cc)
    | 4 => (((k : Int) == 0) = true → SlB (headB L) (v) w)
    | 5 => (((k : Int) == 0) = true → v = .string ⟨(headB L).toArray⟩)
    | 6 => (((k : Int) == 0) = true → SlB (List.replicate 32 0) (v) w)
    | 7 => (((k : Int) == 0) = true → v = .string ⟨(List.replicate 32 0).toArray⟩)
    | 8 => (((k : Int) == 0) = true → v = .bool (headB L == List.replicate 32 0))
    | 9 => v = .bool ((k : Int) == 0 && headB L == List.replicate 32 0)
    | 10 => v = .bool ((k : Int) == 0 && headB L == List.replicate 32 0)
    | _ => True) ?_ ?_ ?_
  · intro i v w w' h hb
    match i, h with
    | 0, h => exact h
    | 1, h => exact h
    | 2, h => exact h
    | 3, h => exact h
    | 4, h => exact fun hg => SlB.below (h hg) hb
    | 5, h => exact h
    | 6, h => exact fun hg => SlB.below (h hg) hb
    | 7, h => exact h
    | 8, h => exact h
    | 9, h => exact h
    | 10, h => exact h
    | _ + 11, _ => trivial
  refine Obs.cons (fun σ a w hB hσ hp K hK => ?_) ?_
  · rw [if_pos (by rfl)]
    have e1 : σ 1 = .int .i64 (k : Int) := (hσ 1 (by kernel_rfl)).trans Z1.out
    refine stepS_move _ rfl _ e1 ?_
    exact hK _ _ (Below.refl _ _) rfl
  refine Obs.cons (fun σ a w hB hσ hp K hK => ?_) ?_
  · rw [if_pos (by rfl)]
    have e56 : σ 56 = .int .i64 (k : Int) := (hp 0 rfl)
    have HK := Lib.hid hK
    have HB := Lib.hid hB
    clear hK hp hσ hB
    unfold stepS
    go_simp
    exact HK.out _ _ (Below.refl _ _) rfl
  refine Obs.cons (fun σ a w hB hσ hp K hK => ?_) ?_
  · rw [if_pos (by rfl)]
    have e57 : σ 57 = .bool ((k : Int) == 0) := (hp 1 rfl)
    refine stepS_move _ rfl _ e57 ?_
    exact hK _ _ (Below.refl _ _) rfl
  refine Obs.cons (fun σ a w hB hσ hp K hK => ?_) ?_
  · have eg : σ 58 = .bool ((k : Int) == 0) := hp 2 rfl
    rw [wantedS_of (d := 58) rfl rfl eg]
    by_cases hg : ((k : Int) == 0) = true
    rotate_left
    · rw [if_neg (by simpa using hg)]
      exact hK _ _ (Below.refl _ _) (fun h => absurd h hg)
    rw [if_pos (by simpa using hg)]
    have e6 : σ 6 = .slice Ac L.length cc := (hσ 6 (by kernel_rfl)).trans Z6.out
    refine stepS_move _ rfl _ e6 ?_
    exact hK _ _ (Below.refl _ _) (fun _ => rfl)
  refine Obs.cons (fun σ a w hB hσ hp K hK => ?_) ?_
  · have eg : σ 58 = .bool ((k : Int) == 0) := hp 2 rfl
    rw [wantedS_of (d := 58) rfl rfl eg]
    by_cases hg : ((k : Int) == 0) = true
    rotate_left
    · rw [if_neg (by simpa using hg)]
      exact hK _ _ (Below.refl _ _) (fun h => absurd h hg)
    rw [if_pos (by simpa using hg)]
    have e59 : σ 59 = .slice Ac L.length cc := (hp 3 rfl) hg
    refine stepS_call _ Tryd.func16 (by kernel_rfl) (by kernel_rfl) _ _ rfl _ rfl ?_
    simp only [List.map_toArray, List.map_cons, List.map_nil, evalS, e59]
    refine Calls.mono ((head_any (l := L) rfl (by have := HK.out; omega) cc w (HA.out.below EntE.stays hB) HL.out).mono fun _ _ h => h.b) ?_
    rintro e w1 ⟨A, c, rfl, hc, hc2, hs, hb⟩
    exact ⟨_, rfl, hK _ _ (hb) (fun _ => ⟨A, c, rfl, hc, hc2, hs⟩)⟩
  refine Obs.cons (fun σ a w hB hσ hp K hK => ?_) ?_
  · have eg : σ 58 = .bool ((k : Int) == 0) := hp 2 rfl
    rw [wantedS_of (d := 58) rfl rfl eg]
    by_cases hg : ((k : Int) == 0) = true
    rotate_left
    · rw [if_neg (by simpa using hg)]
      exact hK _ _ (Below.refl _ _) (fun h => absurd h hg)
    rw [if_pos (by simpa using hg)]
    have e60 : SlB (headB L) (σ 60) w := (hp 4 rfl) hg
    refine stepS_conv_bs _ _ _ _ rfl Tryd.underlying28 Tryd.underlying5 Tryd.underlying9 _ (e60) ?_
    exact hK _ _ (Below.refl _ _) (fun _ => rfl)
  refine Obs.cons (fun σ a w hB hσ hp K hK => ?_) ?_
  · have eg : σ 58 = .bool ((k : Int) == 0) := hp 2 rfl
    rw [wantedS_of (d := 58) rfl rfl eg]
    by_cases hg : ((k : Int) == 0) = true
    rotate_left
    · rw [if_neg (by simpa using hg)]
      exact hK _ _ (Below.refl _ _) (fun h => absurd h hg)
    rw [if_pos (by simpa using hg)]
    refine stepS_call _ Tryd.func18 (by kernel_rfl) (by kernel_rfl) _ _ rfl _ rfl ?_
    simp only [List.map_toArray, List.map_cons, List.map_nil, evalS]
    refine Calls.mono ((zero_any _).mono fun _ _ h => h.b) ?_
    rintro e w1 ⟨A, c, rfl, hc, hc2, hs, hb⟩
    exact ⟨_, rfl, hK _ _ (hb) (fun _ => ⟨A, c, rfl, hc, hc2, hs⟩)⟩
  refine Obs.cons (fun σ a w hB hσ hp K hK => ?_) ?_
  · have eg : σ 58 = .bool ((k : Int) == 0) := hp 2 rfl
    rw [wantedS_of (d := 58) rfl rfl eg]
    by_cases hg : ((k : Int) == 0) = true
    rotate_left
    · rw [if_neg (by simpa using hg)]
      exact hK _ _ (Below.refl _ _) (fun h => absurd h hg)
    rw [if_pos (by simpa using hg)]
    have e62 : SlB (List.replicate 32 0) (σ 62) w := (hp 6 rfl) hg
    refine stepS_conv_bs _ _ _ _ rfl Tryd.underlying28 Tryd.underlying5 Tryd.underlying9 _ (e62) ?_
    exact hK _ _ (Below.refl _ _) (fun _ => rfl)
  refine Obs.cons (fun σ a w hB hσ hp K hK => ?_) ?_
  · have eg : σ 58 = .bool ((k : Int) == 0) := hp 2 rfl
    rw [wantedS_of (d := 58) rfl rfl eg]
    by_cases hg : ((k : Int) == 0) = true
    rotate_left
    · rw [if_neg (by simpa using hg)]
      exact hK _ _ (Below.refl _ _) (fun h => absurd h hg)
    rw [if_pos (by simpa using hg)]
    have e61 : σ 61 = .string ⟨(headB L).toArray⟩ := (hp 5 rfl) hg
    have e63 : σ 63 = .string ⟨(List.replicate 32 0).toArray⟩ := (hp 7 rfl) hg
    have HK := Lib.hid hK
    have HB := Lib.hid hB
    clear hK hp hσ hB eg
    have HG := Lib.hid hg
    clear hg
    unfold stepS
    go_simp
    exact HK.out _ _ (Below.refl _ _) (fun _ => rfl)
  refine Obs.cons (fun σ a w hB hσ hp K hK => ?_) ?_
  · rw [if_pos (by rfl)]
    have e58 : σ 58 = .bool ((k : Int) == 0) := (hp 2 rfl)
    have e64 : (((k : Int) == 0) = true → σ 64 = .bool (headB L == List.replicate 32 0)) := hp 8 rfl
    refine stepS_pick _ _ _ rfl _ e58 _ (pick_and e64) ?_
    exact hK _ _ (Below.refl _ _) rfl
  refine Obs.cons (fun σ a w hB hσ hp K hK => ?_) ?_
  · rw [if_pos (by rfl)]
    have e65 : σ 65 = .bool ((k : Int) == 0 && headB L == List.replicate 32 0) := (hp 9 rfl)
    refine stepS_assign _ rfl _ e65 ?_
    exact hK _ _ (Below.refl _ _) rfl
  · exact Obs.nil _
  · intro σ w hB hf
    have f0 : σ 56 = .int .i64 (k : Int) := hf 0 (by decide)
    have f1 : σ 57 = .bool ((k : Int) == 0) := hf 1 (by decide)
    have f2 : σ 58 = .bool ((k : Int) == 0) := hf 2 (by decide)
    have f3 : (((k : Int) == 0) = true → σ 59 = .slice Ac L.length cc) := hf 3 (by decide)
    have f4 : (((k : Int) == 0) = true → SlB (headB L) (σ 60) w) := hf 4 (by decide)
    have f5 : (((k : Int) == 0) = true → σ 61 = .string ⟨(headB L).toArray⟩) := hf 5 (by decide)
    have f6 : (((k : Int) == 0) = true → SlB (List.replicate 32 0) (σ 62) w) := hf 6 (by decide)
    have f7 : (((k : Int) == 0) = true → σ 63 = .string ⟨(List.replicate 32 0).toArray⟩) := hf 7 (by decide)
    have f8 : (((k : Int) == 0) = true → σ 64 = .bool (headB L == List.replicate 32 0)) := hf 8 (by decide)
    have f9 : σ 65 = .bool ((k : Int) == 0 && headB L == List.replicate 32 0) := hf 9 (by decide)
    have f10 : σ 12 = .bool ((k : Int) == 0 && headB L == List.replicate 32 0) := hf 10 (by decide)
    have hq := HQ.out (σ 59) (σ 60) (σ 61) (σ 62) (σ 63) (σ 64) w hB f3 f4 f5 f6 f7 f8
    simp only [dstsL, List.filterMap_cons, List.filterMap_nil, setAll]
    rw [f0, f1, f2, f9, f10]
    simp only [Act.put] at hq
    exact hq
theorem says_fits {w : World} {A : Option Addr} {l : List Say} (h : Arr SayE 4 w A l) : ∀ s ∈ l, I64 s.time ∧ I64 s.code := by
  intro s hs
  obtain ⟨i, hi⟩ := List.mem_iff_getElem?.1 hs
  obtain ⟨_, _, _, _, _, _, _, h1, h2⟩ := h.say hi
  exact ⟨h1, h2⟩
set_option maxRecDepth 100000 in
set_option maxHeartbeats 2000000 in
theorem auditFirst_walk {A : Option Addr} {l : List Say} {n : Nat} (hn : l.length = n) (c : Nat) (k : Int) (w : World) (h : Hid (Arr SayE 4 w A l)) :
    Calls Tryd.prog 7 #[.slice A n c, .int .i64 k] w fun r w' => r = .returned (.bool true) ∧ Below w.heap.size w w' := by
  have HN := Lib.hid hn
  clear hn
  go_enter Tryd.func7, Tryd.ntmps7
  go_wp2_with fail
  refine (awake_any w).mono ?_
  rintro r w1 ⟨rfl, b1⟩
  have B1 := Lib.hid b1
  clear b1
  by_cases h20 : (20 : Int) < n
  · have k2 := chain_no (A := A) HN.out c w1 h20
    go_wp2_with fail
    refine k2.mono ?_
    rintro r w2 ⟨rfl, b2⟩
    have B2 := Lib.hid (ext_trans B1.out b2)
    clear k2 b2
    go_wp2_with fail
    go_ret
    exact ⟨rfl, B2.out⟩
  have hn20 : n ≤ 20 := by omega
  have k2 := chain_any HN.out hn20 c w1 (h.out.below SayE.stays B1.out)
  clear h20
  go_wp2_with fail
  refine k2.mono ?_
  rintro r w2 ⟨v, rfl, ho, b2⟩
  have B2 := Lib.hid (ext_trans B1.out b2)
  clear k2 b2
  cases hok : l.all okSay
  · have H := Lib.hid hok
    have HO := Lib.hid ho
    clear hok ho
    go_wp2_with fail
    go_ret
    exact ⟨rfl, B2.out⟩
  have ho := ho hok
  obtain ⟨Ac, cc, rfl, hcc, hcc2, har, -⟩ := ho.own.arr
  have hle := chainB_le [] (fun e he => by cases he) (List.all_eq_true.1 hok)
  have hlen : (chainB [] l).length = n := by rw [chainB_length]; simp; exact HN.out
  have HA := Lib.hid (And.intro har hle)
  have HL := Lib.hid hlen
  have HF := Lib.hid (says_fits h.out)
  rw [hlen] at hcc
  clear hok ho har hle
  rw [hlen]
  clear hlen
  by_cases hk0 : k < 0
  · go_wp2_with fail
    go_ret
    exact ⟨rfl, B2.out⟩
  by_cases hkn : (n : Int) ≤ k
  · go_wp2_with fail
    go_ret
    exact ⟨rfl, B2.out⟩
  obtain ⟨j, rfl⟩ : ∃ j : Nat, k = j := ⟨k.toNat, by omega⟩
  have hjn : j < n := by omega
  have HP := Lib.hid (first_pure (l := l) (by have := HN.out; omega) HF.out (k := j) (by have := HN.out; omega))
  have hj0 : (0 : Int) ≤ j := by omega
  go_wp2_with fail
  have LN := HL.out
  refine first_r5 (chainB [] l) Ac cc j (by rfl) (by rw [LN]; rfl) HA.out.1 HA.out.2 (by omega) (by rfl) ?_
  intro v6 v7 v8 w3 b3 _ _ _
  have B3 := Lib.hid (ext_trans B2.out b3)
  have HA3 : Hid (Arr EntE 7 w3 Ac (chainB [] l)) := HA.out.1.below EntE.stays b3
  clear b3
  rw [HP.out.1]
  simp only [Act.put, List.setIfInBounds_toArray, List.set_cons_zero, List.set_cons_succ]
  go_wp2_with fail
  refine first_r6 (chainB [] l) Ac cc j (by rfl) (by rw [LN]; rfl) HA3.out HA.out.2 (by omega) (by rfl) ?_
  intro v4 v5 v6 w4 b4 _ _ _
  have B4 := Lib.hid (ext_trans B3.out b4)
  have HA4 : Hid (Arr EntE 7 w4 Ac (chainB [] l)) := HA3.out.below EntE.stays b4
  clear b4
  rw [HP.out.2.1]
  simp only [Act.put, List.setIfInBounds_toArray, List.set_cons_zero, List.set_cons_succ]
  go_wp2_with fail
  refine first_r7 (chainB [] l) Ac cc j (by rfl) (by rw [LN]; rfl) HA4.out HA.out.2 (by omega) (by rfl) ?_
  intros
  rename Below _ _ _ => b5
  rename World => w5
  have B5 := Lib.hid (ext_trans B4.out b5)
  have HA5 : Hid (Arr EntE 7 w5 Ac (chainB [] l)) := HA4.out.below EntE.stays b5
  clear b5
  simp only [Act.put, List.setIfInBounds_toArray, List.set_cons_zero, List.set_cons_succ]
  have hLN : Hid ((chainB [] l).length = n) := LN
  clear LN
  cases hb : (verB ((chainB [] l).take j) (headB (chainB [] l))).2
  · have H := Lib.hid hb
    clear hb
    go_wp2_with fail
    go_ret
    exact ⟨rfl, B5.out⟩
  cases hz : ((j : Int) == 0 && headB (chainB [] l) == List.replicate 32 0)
  · have hc := HP.out.2.2 hb hz
    have H := Lib.hid (And.intro hb hz)
    have hjc : (j : Int) ≤ cc := by omega
    have k7 := clash_any (l := (chainB [] l).take j) (m := chainB [] l) (n := j) (n2 := n) (by have := hLN.out; simp; omega) hLN.out (by omega) (by omega) cc cc w5 (HA5.out.take j) HA5.out ⟨fun e he => HA.out.2 e (List.mem_of_mem_take he), HA.out.2⟩
    rw [hc] at k7
    clear hb hz hc
    go_wp2_with (go_at_call 23; refine k7.mono ?_; rintro r w6 ⟨rfl, b6⟩)
    go_ret
    exact ⟨rfl, ext_trans B5.out b6⟩
  · have H := Lib.hid (And.intro hb hz)
    clear hb hz
    go_wp2_with fail
    go_ret
    exact ⟨rfl, B5.out⟩
end Go.Proofs.YtbjnpomcgcbflaaDoor
