/- Walks: the chapter's example; whether two bodies have one sum. Written by wip/gen/XB10.py. -/
import Derived.Test.YtbjnpomcgcbflaaDoorB9
set_option linter.unusedVariables false
set_option linter.unusedSimpArgs false
namespace Go.Proofs.YtbjnpomcgcbflaaDoor
open Go.RowKit Go.Deep
set_option maxRecDepth 100000 in
set_option maxHeartbeats 2000000 in
theorem awake_r3 {Q : Exit → Act → World → Prop} {a0 : Act} {w0 : World} (e : Ent) (A : Option Addr) (c : Nat) (B : Option Addr) (d : Nat) (b : Nat) (n1 : Int) (ok : Bool) (z1 : a0.tmps.getD 1 undef = .pointer (some ⟨b, 0, none⟩)) (z2 : a0.tmps.getD 2 undef = .int .i64 n1) (z3 : a0.tmps.getD 3 undef = .bool ok) (hHC : ∀ j v, (entCells e A c B d)[j]? = some v → w0.cell? ⟨b, j, none⟩ = some v) (hHI : EntIn w0 e A c B d) (zsz : a0.tmps.size = 37)
    (hQ : ∀ (v4 v5 v6 v7 v8 v9 v12 v13 v14 v15 v18 v19 v22 : Value) (w1 : World), Below w0.heap.size w0 w1 → ((e.no == 0) = true → v4 = .pointer (some ⟨b, 5, none⟩)) → ((e.no == 0) = true → v5 = .slice A e.prev.length c) → ((e.no == 0) = true → v6 = .string ⟨(e.prev).toArray⟩) → ((e.no == 0) = true → SlB (List.replicate 32 0) (v7) w1) → ((e.no == 0) = true → v8 = .string ⟨(List.replicate 32 0).toArray⟩) → ((e.no == 0) = true → v9 = .bool (e.prev == List.replicate 32 0)) → ((e.no == 0 && e.prev == List.replicate 32 0) = true → v12 = .pointer (some ⟨b, 5, none⟩)) → ((e.no == 0 && e.prev == List.replicate 32 0) = true → v13 = .slice A e.prev.length c) → ((e.no == 0 && e.prev == List.replicate 32 0) = true → v14 = .int .i64 e.prev.length) → ((e.no == 0 && e.prev == List.replicate 32 0) = true → v15 = .bool ((e.prev.length : Int) == 32)) → (((e.no == 0 && e.prev == List.replicate 32 0) && (e.prev.length : Int) == 32) = true → v18 = .int .i64 n1) → (((e.no == 0 && e.prev == List.replicate 32 0) && (e.prev.length : Int) == 32) = true → v19 = .bool (n1 == 1)) → ((((e.no == 0 && e.prev == List.replicate 32 0) && (e.prev.length : Int) == 32) && n1 == 1) = true → v22 = .bool ok) → Q .normal (((((((((((((((((((((((((a0.put (some 13) (.pointer (some ⟨b, 0, none⟩))).put (some 14) (.int .i64 e.no)).put (some 15) (.bool (e.no == 0))).put (some 16) (.bool (e.no == 0))).put (some 17) v4).put (some 18) v5).put (some 19) v6).put (some 20) v7).put (some 21) v8).put (some 22) v9).put (some 23) (.bool (e.no == 0 && e.prev == List.replicate 32 0))).put (some 24) (.bool (e.no == 0 && e.prev == List.replicate 32 0))).put (some 25) v12).put (some 26) v13).put (some 27) v14).put (some 28) v15).put (some 29) (.bool ((e.no == 0 && e.prev == List.replicate 32 0) && (e.prev.length : Int) == 32))).put (some 30) (.bool ((e.no == 0 && e.prev == List.replicate 32 0) && (e.prev.length : Int) == 32))).put (some 31) v18).put (some 32) v19).put (some 33) (.bool (((e.no == 0 && e.prev == List.replicate 32 0) && (e.prev.length : Int) == 32) && n1 == 1))).put (some 34) (.bool (((e.no == 0 && e.prev == List.replicate 32 0) && (e.prev.length : Int) == 32) && n1 == 1))).put (some 35) v22).put (some 36) (.bool ((((e.no == 0 && e.prev == List.replicate 32 0) && (e.prev.length : Int) == 32) && n1 == 1) && ok))).put (some 0) (.bool ((((e.no == 0 && e.prev == List.replicate 32 0) && (e.prev.length : Int) == 32) && n1 == 1) && ok))) w1) :
    (regOf Tryd.f11 3).wp Tryd.prog Q a0 w0 := by
  have Z1 := Lib.hid z1
  clear z1
  have Z2 := Lib.hid z2
  clear z2
  have Z3 := Lib.hid z3
  clear z3
  have HC := Lib.hid hHC
  clear hHC
  have HI := Lib.hid hHI
  clear hHI
  have HQ := Lib.hid hQ
  clear hQ
  conv => arg 2; whnf
  refine wp_region_facts true (by kernel_rfl) (by kernel_rfl) 37 (by kernel_rfl) zsz (by kernel_rfl) (Below w0.heap.size w0) (fun w w' => Below w.heap.size w w') (drewIf_ext _ _) (fun _ _ h k => ext_trans h k) (fun i v w => match i with
    | 0 => v = .pointer (some ⟨b, 0, none⟩)
    | 1 => v = .int .i64 e.no
    | 2 => v = .bool (e.no == 0)
    | 3 => v = .bool (e.no == 0)
    | 4 => ((e.no == 0) = true → v = .pointer (some ⟨b, 5, none⟩))
    | 5 => ((e.no == 0) = true → v = .slice A e.prev.length c)
    | 6 => ((e.no == 0) = true → v = .string ⟨(e.prev).toArray⟩)
    | 7 => ((e.no == 0) = true → SlB (List.replicate 32 0) (v) w)
    | 8 => ((e.no == 0) = true → v = .string ⟨(List.replicate 32 0).toArray⟩)
    | 9 => ((e.no == 0) = true → v = .bool (e.prev == List.replicate 32 0))
    | 10 => v = .bool (e.no == 0 && e.prev == List.replicate 32 0)
    | 11 => v = .bool (e.no == 0 && e.prev == List.replicate 32 0)
    | 12 => ((e.no == 0 && e.prev == List.replicate 32 0) = true → v = .pointer (some ⟨b, 5, none⟩))
    | 13 => ((e.no == 0 && e.prev == List.replicate 32 0) = true → v = .slice A e.prev.length c)
    | 14 => ((e.no == 0 && e.prev == List.replicate 32 0) = true → v = .int .i64 e.prev.length)
    | 15 => ((e.no == 0 && e.prev == List.replicate 32 0) = true → v = .bool ((e.prev.length : Int) == 32))
    | 16 => v = .bool ((e.no == 0 && e.prev == List.replicate 32 0) && (e.prev.length : Int) == 32)
    | 17 => v = .bool ((e.no == 0 && e.prev == List.replicate 32 0) && (e.prev.length : Int) == 32)
    | 18 => (((e.no == 0 && e.prev == List.replicate 32 0) && (e.prev.length : Int) == 32) = true → v = .int .i64 n1)
    | 19 => (((e.no == 0 && e.prev == List.replicate 32 0) && (e.prev.length : Int) == 32) = true → v = .bool (n1 == 1))
    | 20 => v = .bool (((e.no == 0 && e.prev == List.replicate 32 0) && (e.prev.length : Int) == 32) && n1 == 1)
    | 21 => v = .bool (((e.no == 0 && e.prev == List.replicate 32 0) && (e.prev.length : Int) == 32) && n1 == 1)
    | 22 => ((((e.no == 0 && e.prev == List.replicate 32 0) && (e.prev.length : Int) == 32) && n1 == 1) = true → v = .bool ok)
    | 23 => v = .bool ((((e.no == 0 && e.prev == List.replicate 32 0) && (e.prev.length : Int) == 32) && n1 == 1) && ok)
    | 24 => v = .bool ((((e.no == 0 && e.prev == List.replicate 32 0) && (e.prev.length : Int) == 32) && n1 == 1) && ok)
    | _ => True) ?_ ?_ ?_
  · intro i v w w' h hb
    match i, h with
    | 0, h => exact h
    | 1, h => exact h
    | 2, h => exact h
    | 3, h => exact h
    | 4, h => exact h
    | 5, h => exact h
    | 6, h => exact h
    | 7, h => exact fun hg => SlB.below (h hg) hb
    | 8, h => exact h
    | 9, h => exact h
    | 10, h => exact h
    | 11, h => exact h
    | 12, h => exact h
    | 13, h => exact h
    | 14, h => exact h
    | 15, h => exact h
    | 16, h => exact h
    | 17, h => exact h
    | 18, h => exact h
    | 19, h => exact h
    | 20, h => exact h
    | 21, h => exact h
    | 22, h => exact h
    | 23, h => exact h
    | 24, h => exact h
    | _ + 25, _ => trivial
  refine Obs.cons (fun σ a w hB hσ hp K hK => ?_) ?_
  · rw [if_pos (by rfl)]
    have e1 : σ 1 = .pointer (some ⟨b, 0, none⟩) := (hσ 1 (by kernel_rfl)).trans Z1.out
    have HK := Lib.hid hK
    have HB := Lib.hid hB
    clear hK hp hσ hB
    unfold stepS
    go_simp
    exact HK.out _ _ (Below.refl _ _) rfl
  refine Obs.cons (fun σ a w hB hσ hp K hK => ?_) ?_
  · rw [if_pos (by rfl)]
    have e13 : σ 13 = .pointer (some ⟨b, 0, none⟩) := (hp 0 rfl)
    have hc := cell_later hB (HC.out 0 _ rfl)
    have HK := Lib.hid hK
    have HB := Lib.hid hB
    clear hK hp hσ hB
    unfold stepS
    go_simp
    exact HK.out _ _ (Below.refl _ _) rfl
  refine Obs.cons (fun σ a w hB hσ hp K hK => ?_) ?_
  · rw [if_pos (by rfl)]
    have e14 : σ 14 = .int .i64 e.no := (hp 1 rfl)
    have HK := Lib.hid hK
    have HB := Lib.hid hB
    clear hK hp hσ hB
    unfold stepS
    go_simp
    exact HK.out _ _ (Below.refl _ _) rfl
  refine Obs.cons (fun σ a w hB hσ hp K hK => ?_) ?_
  · rw [if_pos (by rfl)]
    have e15 : σ 15 = .bool (e.no == 0) := (hp 2 rfl)
    refine stepS_move _ rfl _ e15 ?_
    exact hK _ _ (Below.refl _ _) rfl
  refine Obs.cons (fun σ a w hB hσ hp K hK => ?_) ?_
  · have eg : σ 16 = .bool (e.no == 0) := hp 3 rfl
    rw [wantedS_of (d := 16) rfl rfl eg]
    by_cases hg : (e.no == 0) = true
    rotate_left
    · rw [if_neg (by simpa using hg)]
      exact hK _ _ (Below.refl _ _) (fun h => absurd h hg)
    rw [if_pos (by simpa using hg)]
    have e1 : σ 1 = .pointer (some ⟨b, 0, none⟩) := (hσ 1 (by kernel_rfl)).trans Z1.out
    have HK := Lib.hid hK
    have HB := Lib.hid hB
    clear hK hp hσ hB eg
    have HG := Lib.hid hg
    clear hg
    unfold stepS
    go_simp
    exact HK.out _ _ (Below.refl _ _) (fun _ => rfl)
  refine Obs.cons (fun σ a w hB hσ hp K hK => ?_) ?_
  · have eg : σ 16 = .bool (e.no == 0) := hp 3 rfl
    rw [wantedS_of (d := 16) rfl rfl eg]
    by_cases hg : (e.no == 0) = true
    rotate_left
    · rw [if_neg (by simpa using hg)]
      exact hK _ _ (Below.refl _ _) (fun h => absurd h hg)
    rw [if_pos (by simpa using hg)]
    have e17 : σ 17 = .pointer (some ⟨b, 5, none⟩) := (hp 4 rfl) hg
    have hc := cell_later hB (HC.out 5 _ rfl)
    have HK := Lib.hid hK
    have HB := Lib.hid hB
    clear hK hp hσ hB eg
    have HG := Lib.hid hg
    clear hg
    unfold stepS
    go_simp
    exact HK.out _ _ (Below.refl _ _) (fun _ => rfl)
  refine Obs.cons (fun σ a w hB hσ hp K hK => ?_) ?_
  · have eg : σ 16 = .bool (e.no == 0) := hp 3 rfl
    rw [wantedS_of (d := 16) rfl rfl eg]
    by_cases hg : (e.no == 0) = true
    rotate_left
    · rw [if_neg (by simpa using hg)]
      exact hK _ _ (Below.refl _ _) (fun h => absurd h hg)
    rw [if_pos (by simpa using hg)]
    have e18 : σ 18 = .slice A e.prev.length c := (hp 5 rfl) hg
    refine stepS_conv_bs _ _ _ _ rfl Tryd.underlying28 Tryd.underlying5 Tryd.underlying9 _ (⟨A, c, e18, HI.out.hc, HI.out.hc2, HI.out.sp.below hB⟩) ?_
    exact hK _ _ (Below.refl _ _) (fun _ => rfl)
  refine Obs.cons (fun σ a w hB hσ hp K hK => ?_) ?_
  · have eg : σ 16 = .bool (e.no == 0) := hp 3 rfl
    rw [wantedS_of (d := 16) rfl rfl eg]
    by_cases hg : (e.no == 0) = true
    rotate_left
    · rw [if_neg (by simpa using hg)]
      exact hK _ _ (Below.refl _ _) (fun h => absurd h hg)
    rw [if_pos (by simpa using hg)]
    refine stepS_call _ Tryd.func18 (by kernel_rfl) (by kernel_rfl) _ _ rfl _ rfl ?_
    simp only [List.map_toArray, List.map_cons, List.map_nil, evalS]
    refine Calls.mono ((zero_any _).mono fun _ _ h => h.b) ?_
    rintro e w1 ⟨A, c, rfl, hc, hc2, hs, hb⟩
    exact ⟨_, rfl, hK _ _ (hb) (fun _ => ⟨A, c, rfl, hc, hc2, hs⟩)⟩
  refine Obs.cons (fun σ a w hB hσ hp K hK => ?_) ?_
  · have eg : σ 16 = .bool (e.no == 0) := hp 3 rfl
    rw [wantedS_of (d := 16) rfl rfl eg]
    by_cases hg : (e.no == 0) = true
    rotate_left
    · rw [if_neg (by simpa using hg)]
      exact hK _ _ (Below.refl _ _) (fun h => absurd h hg)
    rw [if_pos (by simpa using hg)]
    have e20 : SlB (List.replicate 32 0) (σ 20) w := (hp 7 rfl) hg
    refine stepS_conv_bs _ _ _ _ rfl Tryd.underlying28 Tryd.underlying5 Tryd.underlying9 _ (e20) ?_
    exact hK _ _ (Below.refl _ _) (fun _ => rfl)
  refine Obs.cons (fun σ a w hB hσ hp K hK => ?_) ?_
  · have eg : σ 16 = .bool (e.no == 0) := hp 3 rfl
    rw [wantedS_of (d := 16) rfl rfl eg]
    by_cases hg : (e.no == 0) = true
    rotate_left
    · rw [if_neg (by simpa using hg)]
      exact hK _ _ (Below.refl _ _) (fun h => absurd h hg)
    rw [if_pos (by simpa using hg)]
    have e19 : σ 19 = .string ⟨(e.prev).toArray⟩ := (hp 6 rfl) hg
    have e21 : σ 21 = .string ⟨(List.replicate 32 0).toArray⟩ := (hp 8 rfl) hg
    have HK := Lib.hid hK
    have HB := Lib.hid hB
    clear hK hp hσ hB eg
    have HG := Lib.hid hg
    clear hg
    unfold stepS
    go_simp
    exact HK.out _ _ (Below.refl _ _) (fun _ => rfl)
  refine Obs.cons (fun σ a w hB hσ hp K hK => ?_) ?_
  · rw [if_pos (by rfl)]
    have e16 : σ 16 = .bool (e.no == 0) := (hp 3 rfl)
    have e22 : ((e.no == 0) = true → σ 22 = .bool (e.prev == List.replicate 32 0)) := hp 9 rfl
    refine stepS_pick _ _ _ rfl _ e16 _ (pick_and e22) ?_
    exact hK _ _ (Below.refl _ _) rfl
  refine Obs.cons (fun σ a w hB hσ hp K hK => ?_) ?_
  · rw [if_pos (by rfl)]
    have e23 : σ 23 = .bool (e.no == 0 && e.prev == List.replicate 32 0) := (hp 10 rfl)
    refine stepS_move _ rfl _ e23 ?_
    exact hK _ _ (Below.refl _ _) rfl
  refine Obs.cons (fun σ a w hB hσ hp K hK => ?_) ?_
  · have eg : σ 24 = .bool (e.no == 0 && e.prev == List.replicate 32 0) := hp 11 rfl
    rw [wantedS_of (d := 24) rfl rfl eg]
    by_cases hg : (e.no == 0 && e.prev == List.replicate 32 0) = true
    rotate_left
    · rw [if_neg (by simpa using hg)]
      exact hK _ _ (Below.refl _ _) (fun h => absurd h hg)
    rw [if_pos (by simpa using hg)]
    have e1 : σ 1 = .pointer (some ⟨b, 0, none⟩) := (hσ 1 (by kernel_rfl)).trans Z1.out
    have HK := Lib.hid hK
    have HB := Lib.hid hB
    clear hK hp hσ hB eg
    have HG := Lib.hid hg
    clear hg
    unfold stepS
    go_simp
    exact HK.out _ _ (Below.refl _ _) (fun _ => rfl)
  refine Obs.cons (fun σ a w hB hσ hp K hK => ?_) ?_
  · have eg : σ 24 = .bool (e.no == 0 && e.prev == List.replicate 32 0) := hp 11 rfl
    rw [wantedS_of (d := 24) rfl rfl eg]
    by_cases hg : (e.no == 0 && e.prev == List.replicate 32 0) = true
    rotate_left
    · rw [if_neg (by simpa using hg)]
      exact hK _ _ (Below.refl _ _) (fun h => absurd h hg)
    rw [if_pos (by simpa using hg)]
    have e25 : σ 25 = .pointer (some ⟨b, 5, none⟩) := (hp 12 rfl) hg
    have hc := cell_later hB (HC.out 5 _ rfl)
    have HK := Lib.hid hK
    have HB := Lib.hid hB
    clear hK hp hσ hB eg
    have HG := Lib.hid hg
    clear hg
    unfold stepS
    go_simp
    exact HK.out _ _ (Below.refl _ _) (fun _ => rfl)
  refine Obs.cons (fun σ a w hB hσ hp K hK => ?_) ?_
  · have eg : σ 24 = .bool (e.no == 0 && e.prev == List.replicate 32 0) := hp 11 rfl
    rw [wantedS_of (d := 24) rfl rfl eg]
    by_cases hg : (e.no == 0 && e.prev == List.replicate 32 0) = true
    rotate_left
    · rw [if_neg (by simpa using hg)]
      exact hK _ _ (Below.refl _ _) (fun h => absurd h hg)
    rw [if_pos (by simpa using hg)]
    have e26 : σ 26 = .slice A e.prev.length c := (hp 13 rfl) hg
    have HK := Lib.hid hK
    have HB := Lib.hid hB
    clear hK hp hσ hB eg
    have HG := Lib.hid hg
    clear hg
    unfold stepS
    go_simp
    exact HK.out _ _ (Below.refl _ _) (fun _ => rfl)
  refine Obs.cons (fun σ a w hB hσ hp K hK => ?_) ?_
  · have eg : σ 24 = .bool (e.no == 0 && e.prev == List.replicate 32 0) := hp 11 rfl
    rw [wantedS_of (d := 24) rfl rfl eg]
    by_cases hg : (e.no == 0 && e.prev == List.replicate 32 0) = true
    rotate_left
    · rw [if_neg (by simpa using hg)]
      exact hK _ _ (Below.refl _ _) (fun h => absurd h hg)
    rw [if_pos (by simpa using hg)]
    have e27 : σ 27 = .int .i64 e.prev.length := (hp 14 rfl) hg
    have HK := Lib.hid hK
    have HB := Lib.hid hB
    clear hK hp hσ hB eg
    have HG := Lib.hid hg
    clear hg
    unfold stepS
    go_simp
    exact HK.out _ _ (Below.refl _ _) (fun _ => rfl)
  refine Obs.cons (fun σ a w hB hσ hp K hK => ?_) ?_
  · rw [if_pos (by rfl)]
    have e24 : σ 24 = .bool (e.no == 0 && e.prev == List.replicate 32 0) := (hp 11 rfl)
    have e28 : ((e.no == 0 && e.prev == List.replicate 32 0) = true → σ 28 = .bool ((e.prev.length : Int) == 32)) := hp 15 rfl
    refine stepS_pick _ _ _ rfl _ e24 _ (pick_and e28) ?_
    exact hK _ _ (Below.refl _ _) rfl
  refine Obs.cons (fun σ a w hB hσ hp K hK => ?_) ?_
  · rw [if_pos (by rfl)]
    have e29 : σ 29 = .bool ((e.no == 0 && e.prev == List.replicate 32 0) && (e.prev.length : Int) == 32) := (hp 16 rfl)
    refine stepS_move _ rfl _ e29 ?_
    exact hK _ _ (Below.refl _ _) rfl
  refine Obs.cons (fun σ a w hB hσ hp K hK => ?_) ?_
  · have eg : σ 30 = .bool ((e.no == 0 && e.prev == List.replicate 32 0) && (e.prev.length : Int) == 32) := hp 17 rfl
    rw [wantedS_of (d := 30) rfl rfl eg]
    by_cases hg : ((e.no == 0 && e.prev == List.replicate 32 0) && (e.prev.length : Int) == 32) = true
    rotate_left
    · rw [if_neg (by simpa using hg)]
      exact hK _ _ (Below.refl _ _) (fun h => absurd h hg)
    rw [if_pos (by simpa using hg)]
    have e2 : σ 2 = .int .i64 n1 := (hσ 2 (by kernel_rfl)).trans Z2.out
    refine stepS_move _ rfl _ e2 ?_
    exact hK _ _ (Below.refl _ _) (fun _ => rfl)
  refine Obs.cons (fun σ a w hB hσ hp K hK => ?_) ?_
  · have eg : σ 30 = .bool ((e.no == 0 && e.prev == List.replicate 32 0) && (e.prev.length : Int) == 32) := hp 17 rfl
    rw [wantedS_of (d := 30) rfl rfl eg]
    by_cases hg : ((e.no == 0 && e.prev == List.replicate 32 0) && (e.prev.length : Int) == 32) = true
    rotate_left
    · rw [if_neg (by simpa using hg)]
      exact hK _ _ (Below.refl _ _) (fun h => absurd h hg)
    rw [if_pos (by simpa using hg)]
    have e31 : σ 31 = .int .i64 n1 := (hp 18 rfl) hg
    have HK := Lib.hid hK
    have HB := Lib.hid hB
    clear hK hp hσ hB eg
    have HG := Lib.hid hg
    clear hg
    unfold stepS
    go_simp
    exact HK.out _ _ (Below.refl _ _) (fun _ => rfl)
  refine Obs.cons (fun σ a w hB hσ hp K hK => ?_) ?_
  · rw [if_pos (by rfl)]
    have e30 : σ 30 = .bool ((e.no == 0 && e.prev == List.replicate 32 0) && (e.prev.length : Int) == 32) := (hp 17 rfl)
    have e32 : (((e.no == 0 && e.prev == List.replicate 32 0) && (e.prev.length : Int) == 32) = true → σ 32 = .bool (n1 == 1)) := hp 19 rfl
    refine stepS_pick _ _ _ rfl _ e30 _ (pick_and e32) ?_
    exact hK _ _ (Below.refl _ _) rfl
  refine Obs.cons (fun σ a w hB hσ hp K hK => ?_) ?_
  · rw [if_pos (by rfl)]
    have e33 : σ 33 = .bool (((e.no == 0 && e.prev == List.replicate 32 0) && (e.prev.length : Int) == 32) && n1 == 1) := (hp 20 rfl)
    refine stepS_move _ rfl _ e33 ?_
    exact hK _ _ (Below.refl _ _) rfl
  refine Obs.cons (fun σ a w hB hσ hp K hK => ?_) ?_
  · have eg : σ 34 = .bool (((e.no == 0 && e.prev == List.replicate 32 0) && (e.prev.length : Int) == 32) && n1 == 1) := hp 21 rfl
    rw [wantedS_of (d := 34) rfl rfl eg]
    by_cases hg : (((e.no == 0 && e.prev == List.replicate 32 0) && (e.prev.length : Int) == 32) && n1 == 1) = true
    rotate_left
    · rw [if_neg (by simpa using hg)]
      exact hK _ _ (Below.refl _ _) (fun h => absurd h hg)
    rw [if_pos (by simpa using hg)]
    have e3 : σ 3 = .bool ok := (hσ 3 (by kernel_rfl)).trans Z3.out
    refine stepS_move _ rfl _ e3 ?_
    exact hK _ _ (Below.refl _ _) (fun _ => rfl)
  refine Obs.cons (fun σ a w hB hσ hp K hK => ?_) ?_
  · rw [if_pos (by rfl)]
    have e34 : σ 34 = .bool (((e.no == 0 && e.prev == List.replicate 32 0) && (e.prev.length : Int) == 32) && n1 == 1) := (hp 21 rfl)
    have e35 : ((((e.no == 0 && e.prev == List.replicate 32 0) && (e.prev.length : Int) == 32) && n1 == 1) = true → σ 35 = .bool ok) := hp 22 rfl
    refine stepS_pick _ _ _ rfl _ e34 _ (pick_and e35) ?_
    exact hK _ _ (Below.refl _ _) rfl
  refine Obs.cons (fun σ a w hB hσ hp K hK => ?_) ?_
  · rw [if_pos (by rfl)]
    have e36 : σ 36 = .bool ((((e.no == 0 && e.prev == List.replicate 32 0) && (e.prev.length : Int) == 32) && n1 == 1) && ok) := (hp 23 rfl)
    refine stepS_assign _ rfl _ e36 ?_
    exact hK _ _ (Below.refl _ _) rfl
  · exact Obs.nil _
  · intro σ w hB hf
    have f0 : σ 13 = .pointer (some ⟨b, 0, none⟩) := hf 0 (by decide)
    have f1 : σ 14 = .int .i64 e.no := hf 1 (by decide)
    have f2 : σ 15 = .bool (e.no == 0) := hf 2 (by decide)
    have f3 : σ 16 = .bool (e.no == 0) := hf 3 (by decide)
    have f4 : ((e.no == 0) = true → σ 17 = .pointer (some ⟨b, 5, none⟩)) := hf 4 (by decide)
    have f5 : ((e.no == 0) = true → σ 18 = .slice A e.prev.length c) := hf 5 (by decide)
    have f6 : ((e.no == 0) = true → σ 19 = .string ⟨(e.prev).toArray⟩) := hf 6 (by decide)
    have f7 : ((e.no == 0) = true → SlB (List.replicate 32 0) (σ 20) w) := hf 7 (by decide)
    have f8 : ((e.no == 0) = true → σ 21 = .string ⟨(List.replicate 32 0).toArray⟩) := hf 8 (by decide)
    have f9 : ((e.no == 0) = true → σ 22 = .bool (e.prev == List.replicate 32 0)) := hf 9 (by decide)
    have f10 : σ 23 = .bool (e.no == 0 && e.prev == List.replicate 32 0) := hf 10 (by decide)
    have f11 : σ 24 = .bool (e.no == 0 && e.prev == List.replicate 32 0) := hf 11 (by decide)
    have f12 : ((e.no == 0 && e.prev == List.replicate 32 0) = true → σ 25 = .pointer (some ⟨b, 5, none⟩)) := hf 12 (by decide)
    have f13 : ((e.no == 0 && e.prev == List.replicate 32 0) = true → σ 26 = .slice A e.prev.length c) := hf 13 (by decide)
    have f14 : ((e.no == 0 && e.prev == List.replicate 32 0) = true → σ 27 = .int .i64 e.prev.length) := hf 14 (by decide)
    have f15 : ((e.no == 0 && e.prev == List.replicate 32 0) = true → σ 28 = .bool ((e.prev.length : Int) == 32)) := hf 15 (by decide)
    have f16 : σ 29 = .bool ((e.no == 0 && e.prev == List.replicate 32 0) && (e.prev.length : Int) == 32) := hf 16 (by decide)
    have f17 : σ 30 = .bool ((e.no == 0 && e.prev == List.replicate 32 0) && (e.prev.length : Int) == 32) := hf 17 (by decide)
    have f18 : (((e.no == 0 && e.prev == List.replicate 32 0) && (e.prev.length : Int) == 32) = true → σ 31 = .int .i64 n1) := hf 18 (by decide)
    have f19 : (((e.no == 0 && e.prev == List.replicate 32 0) && (e.prev.length : Int) == 32) = true → σ 32 = .bool (n1 == 1)) := hf 19 (by decide)
    have f20 : σ 33 = .bool (((e.no == 0 && e.prev == List.replicate 32 0) && (e.prev.length : Int) == 32) && n1 == 1) := hf 20 (by decide)
    have f21 : σ 34 = .bool (((e.no == 0 && e.prev == List.replicate 32 0) && (e.prev.length : Int) == 32) && n1 == 1) := hf 21 (by decide)
    have f22 : ((((e.no == 0 && e.prev == List.replicate 32 0) && (e.prev.length : Int) == 32) && n1 == 1) = true → σ 35 = .bool ok) := hf 22 (by decide)
    have f23 : σ 36 = .bool ((((e.no == 0 && e.prev == List.replicate 32 0) && (e.prev.length : Int) == 32) && n1 == 1) && ok) := hf 23 (by decide)
    have f24 : σ 0 = .bool ((((e.no == 0 && e.prev == List.replicate 32 0) && (e.prev.length : Int) == 32) && n1 == 1) && ok) := hf 24 (by decide)
    have hq := HQ.out (σ 17) (σ 18) (σ 19) (σ 20) (σ 21) (σ 22) (σ 25) (σ 26) (σ 27) (σ 28) (σ 31) (σ 32) (σ 35) w hB f4 f5 f6 f7 f8 f9 f12 f13 f14 f15 f18 f19 f22
    simp only [dstsL, List.filterMap_cons, List.filterMap_nil, setAll]
    rw [f0, f1, f2, f3, f10, f11, f16, f17, f20, f21, f23, f24]
    simp only [Act.put] at hq
    exact hq
theorem awake_pure (who what : ByteArray) : verB [nextB [] 5 200 who what] (nextB [] 5 200 who what).hash = (1, true) := by
  have h := nextB_right [] 5 200 who what [] rfl
  have h2 := (verB_good [nextB [] 5 200 who what] _).2 h
  have h3 := verB_len h2
  exact Prod.ext h3 h2
set_option maxRecDepth 100000 in
set_option maxHeartbeats 1000000 in
theorem awake_any (w : World) : Calls Tryd.prog 11 #[] w fun r w' => r = .returned (.bool true) ∧ Below w.heap.size w w' := by
  go_enter Tryd.func11, Tryd.ntmps11
  have k1 := next_any (A := none) (l := []) rfl (by decide) 0 5 200 ⟨#[97, 110, 110]⟩ ⟨#[120]⟩ w (Arr.nil _ _ _ _) (fun e h => by cases h) ⟨by decide, by decide⟩ ⟨⟨by decide, by decide⟩, ⟨by decide, by decide⟩⟩
  have HP := Lib.hid (awake_pure ⟨#[97, 110, 110]⟩ ⟨#[120]⟩)
  have HQ : Hid ((nextB [] 5 200 ⟨#[97, 110, 110]⟩ ⟨#[120]⟩).no = 0 ∧ (nextB [] 5 200 ⟨#[97, 110, 110]⟩ ⟨#[120]⟩).prev = List.replicate 32 0 ∧ EntLe (nextB [] 5 200 ⟨#[97, 110, 110]⟩ ⟨#[120]⟩)) := ⟨rfl, rfl, ⟨by show 3 ≤ _; decide, by show 1 ≤ _; decide, by show (List.replicate 32 (0 : UInt8)).length ≤ _; decide, by show (shaOut _).length ≤ _; rw [shaOut_length]; decide⟩⟩
  generalize nextB [] 5 200 ⟨#[97, 110, 110]⟩ ⟨#[120]⟩ = e at k1 HP HQ
  go_wp2_with fail
  refine k1.mono ?_
  rintro r w1 ⟨A1, c1, B1, d1, rfl, hi, hb1, -, -⟩
  have hal := alloc_ext w1 (.cells (entCells e A1 c1 B1 d1).toArray 30)
  have hrow := heap_alloc_new w1 (.cells (entCells e A1 c1 B1 d1).toArray 30)
  have hal2 := alloc_ext (w1.alloc (.cells (entCells e A1 c1 B1 d1).toArray 30)) (.cells (entCells e A1 c1 B1 d1).toArray 30)
  have hA : Arr EntE 7 ((w1.alloc (.cells (entCells e A1 c1 B1 d1).toArray 30)).alloc (.cells (entCells e A1 c1 B1 d1).toArray 30)) (some ⟨(w1.alloc (.cells (entCells e A1 c1 B1 d1).toArray 30)).heap.size, 0, none⟩) [e] := by
    refine ⟨entCells e A1 c1 B1 d1, Seg.of_block (heap_alloc_new _ _) fun j u hu => by simpa using hu, rfl, fun i x hx => ?_⟩
    match i, hx with
    | 0, hx =>
      cases hx
      exact ⟨A1, c1, B1, d1, rfl, (hi.below hal).below hal2⟩
    | n + 1, hx => simp at hx
  have hsz : (w1.alloc (.cells (entCells e A1 c1 B1 d1).toArray 30)).heap.size = w1.heap.size + 1 := by simp
  have k2 := verify_any (l := [e]) rfl (by show 1 ≤ 1099511627776; decide) 1 B1 e.hash d1 _ hA (fun x hx => by simp at hx; subst hx; exact HQ.out.2.2) ((hi.sh.below hal).below hal2)
  rw [hsz] at k2
  have hrow2 := heap_keep hrow hal2
  have HA := Lib.hid (And.intro ((hi.below hal).below hal2) (And.intro hrow2 (ext_trans hb1 (ext_trans hal hal2))))
  rw [HP.out] at k2
  clear hal hal2 hrow hrow2 hA hsz hi hb1 k1
  go_wp2_with fail
  refine k2.mono ?_
  rintro r w2 ⟨rfl, hb2⟩
  have q1 := entAt (heap_keep HA.out.2.1 hb2)
  have q2 := HA.out.1.below hb2
  have HB := Lib.hid (ext_trans HA.out.2.2 hb2)
  clear k2 hb2
  go_wp2_with fail
  refine awake_r3 e A1 c1 B1 d1 w1.heap.size 1 true (by rfl) (by rfl) (by rfl) q1 q2 (by rfl) ?_
  clear q1 q2
  intros
  rename Below _ _ _ => hB
  have hb := ext_trans HB.out hB
  have HB := Lib.hid hb
  clear hB hb
  simp only [Act.put, List.setIfInBounds_toArray, List.set_cons_zero, List.set_cons_succ]
  go_wp2_with fail
  go_ret
  rw [HQ.out.1, HQ.out.2.1]
  exact ⟨rfl, HB.out⟩
set_option maxRecDepth 100000 in
set_option maxHeartbeats 2000000 in
theorem clash_r6 {Q : Exit → Act → World → Prop} {a0 : Act} {w0 : World} (x : Ent) (A : Option Addr) (c : Nat) (B : Option Addr) (d : Nat) (y : Ent) (A2 : Option Addr) (c2 : Nat) (B2 : Option Addr) (d2 : Nat) (b b2 : Nat) (z6 : a0.tmps.getD 6 undef = .pointer (some ⟨b, 0, none⟩)) (z7 : a0.tmps.getD 7 undef = .pointer (some ⟨b2, 0, none⟩)) (hHC : ∀ j v, (entCells x A c B d)[j]? = some v → w0.cell? ⟨b, j, none⟩ = some v) (hHD : ∀ j v, (entCells y A2 c2 B2 d2)[j]? = some v → w0.cell? ⟨b2, j, none⟩ = some v) (hHI : EntIn w0 x A c B d) (hHJ : EntIn w0 y A2 c2 B2 d2) (hHL : EntLe x ∧ EntLe y) (zsz : a0.tmps.size = 48)
    (hQ : ∀ (v1 v4 : Value) (w1 : World), Below w0.heap.size w0 w1 → SlB (bodyB x) (v1) w1 → SlB (bodyB y) (v4) w1 → Q .normal (((((((a0.put (some 34) (.agg (entCells x A c B d).toArray)).put (some 35) v1).put (some 36) (.string ⟨(bodyB x).toArray⟩)).put (some 37) (.agg (entCells y A2 c2 B2 d2).toArray)).put (some 38) v4).put (some 39) (.string ⟨(bodyB y).toArray⟩)).put (some 40) (.bool (bodyB x != bodyB y))) w1) :
    (regOf Tryd.f23 6).wp Tryd.prog Q a0 w0 := by
  have Z6 := Lib.hid z6
  clear z6
  have Z7 := Lib.hid z7
  clear z7
  have HC := Lib.hid hHC
  clear hHC
  have HD := Lib.hid hHD
  clear hHD
  have HI := Lib.hid hHI
  clear hHI
  have HJ := Lib.hid hHJ
  clear hHJ
  have HL := Lib.hid hHL
  clear hHL
  have HQ := Lib.hid hQ
  clear hQ
  conv => arg 2; whnf
  refine wp_region_facts true (by kernel_rfl) (by kernel_rfl) 48 (by kernel_rfl) zsz (by kernel_rfl) (Below w0.heap.size w0) (fun w w' => Below w.heap.size w w') (drewIf_ext _ _) (fun _ _ h k => ext_trans h k) (fun i v w => match i with
    | 0 => v = .agg (entCells x A c B d).toArray
    | 1 => SlB (bodyB x) (v) w
    | 2 => v = .string ⟨(bodyB x).toArray⟩
    | 3 => v = .agg (entCells y A2 c2 B2 d2).toArray
    | 4 => SlB (bodyB y) (v) w
    | 5 => v = .string ⟨(bodyB y).toArray⟩
    | 6 => v = .bool (bodyB x != bodyB y)
    | _ => True) ?_ ?_ ?_
  · intro i v w w' h hb
    match i, h with
    | 0, h => exact h
    | 1, h => exact SlB.below h hb
    | 2, h => exact h
    | 3, h => exact h
    | 4, h => exact SlB.below h hb
    | 5, h => exact h
    | 6, h => exact h
    | _ + 7, _ => trivial
  refine Obs.cons (fun σ a w hB hσ hp K hK => ?_) ?_
  · rw [if_pos (by rfl)]
    have e6 : σ 6 = .pointer (some ⟨b, 0, none⟩) := (hσ 6 (by kernel_rfl)).trans Z6.out
    refine stepS_load_mid 30 _ rfl (b) (0) e6 (entCells x A c B d) _ (fun j v hv => by rw [Nat.zero_add]; exact cell_later hB (HC.out j v hv)) Tryd.underlying30 rfl (by kernel_rfl) ?_
    exact hK _ _ (Below.refl _ _) rfl
  refine Obs.cons (fun σ a w hB hσ hp K hK => ?_) ?_
  · rw [if_pos (by rfl)]
    have e34 : σ 34 = .agg (entCells x A c B d).toArray := (hp 0 rfl)
    refine stepS_call _ Tryd.func29 (by kernel_rfl) (by kernel_rfl) _ _ rfl _ rfl ?_
    simp only [List.map_toArray, List.map_cons, List.map_nil, evalS, e34]
    refine Calls.mono (body_any x A c B d _ (HI.out.below hB) HL.out.1) ?_
    rintro e w1 ⟨A, c, rfl, hc, hc2, hs, hb⟩
    exact ⟨_, rfl, hK _ _ (hb) ⟨A, c, rfl, hc, hc2, hs⟩⟩
  refine Obs.cons (fun σ a w hB hσ hp K hK => ?_) ?_
  · rw [if_pos (by rfl)]
    have e35 : SlB (bodyB x) (σ 35) w := (hp 1 rfl)
    refine stepS_conv_bs _ _ _ _ rfl Tryd.underlying28 Tryd.underlying5 Tryd.underlying9 _ (e35) ?_
    exact hK _ _ (Below.refl _ _) rfl
  refine Obs.cons (fun σ a w hB hσ hp K hK => ?_) ?_
  · rw [if_pos (by rfl)]
    have e7 : σ 7 = .pointer (some ⟨b2, 0, none⟩) := (hσ 7 (by kernel_rfl)).trans Z7.out
    refine stepS_load_mid 30 _ rfl (b2) (0) e7 (entCells y A2 c2 B2 d2) _ (fun j v hv => by rw [Nat.zero_add]; exact cell_later hB (HD.out j v hv)) Tryd.underlying30 rfl (by kernel_rfl) ?_
    exact hK _ _ (Below.refl _ _) rfl
  refine Obs.cons (fun σ a w hB hσ hp K hK => ?_) ?_
  · rw [if_pos (by rfl)]
    have e37 : σ 37 = .agg (entCells y A2 c2 B2 d2).toArray := (hp 3 rfl)
    refine stepS_call _ Tryd.func29 (by kernel_rfl) (by kernel_rfl) _ _ rfl _ rfl ?_
    simp only [List.map_toArray, List.map_cons, List.map_nil, evalS, e37]
    refine Calls.mono (body_any y A2 c2 B2 d2 _ (HJ.out.below hB) HL.out.2) ?_
    rintro e w1 ⟨A, c, rfl, hc, hc2, hs, hb⟩
    exact ⟨_, rfl, hK _ _ (hb) ⟨A, c, rfl, hc, hc2, hs⟩⟩
  refine Obs.cons (fun σ a w hB hσ hp K hK => ?_) ?_
  · rw [if_pos (by rfl)]
    have e38 : SlB (bodyB y) (σ 38) w := (hp 4 rfl)
    refine stepS_conv_bs _ _ _ _ rfl Tryd.underlying28 Tryd.underlying5 Tryd.underlying9 _ (e38) ?_
    exact hK _ _ (Below.refl _ _) rfl
  refine Obs.cons (fun σ a w hB hσ hp K hK => ?_) ?_
  · rw [if_pos (by rfl)]
    have e36 : σ 36 = .string ⟨(bodyB x).toArray⟩ := (hp 2 rfl)
    have e39 : σ 39 = .string ⟨(bodyB y).toArray⟩ := (hp 5 rfl)
    have HK := Lib.hid hK
    have HB := Lib.hid hB
    clear hK hp hσ hB
    unfold stepS
    go_simp
    exact HK.out _ _ (Below.refl _ _) rfl
  · exact Obs.nil _
  · intro σ w hB hf
    have f0 : σ 34 = .agg (entCells x A c B d).toArray := hf 0 (by decide)
    have f1 : SlB (bodyB x) (σ 35) w := hf 1 (by decide)
    have f2 : σ 36 = .string ⟨(bodyB x).toArray⟩ := hf 2 (by decide)
    have f3 : σ 37 = .agg (entCells y A2 c2 B2 d2).toArray := hf 3 (by decide)
    have f4 : SlB (bodyB y) (σ 38) w := hf 4 (by decide)
    have f5 : σ 39 = .string ⟨(bodyB y).toArray⟩ := hf 5 (by decide)
    have f6 : σ 40 = .bool (bodyB x != bodyB y) := hf 6 (by decide)
    have hq := HQ.out (σ 35) (σ 38) w hB f1 f4
    simp only [dstsL, List.filterMap_cons, List.filterMap_nil, setAll]
    rw [f0, f2, f3, f5, f6]
    simp only [Act.put] at hq
    exact hq
theorem clash_step {l m : List Ent} {k j i : Nat} {x y : Ent} (hj : k + j + 1 = l.length) (hi : k + i + 1 = m.length) (hx : l[j]? = some x) (hy : m[i]? = some y) :
    clashR (l.reverse.drop k) (m.reverse.drop k) = if bodyB x ≠ bodyB y then x.hash == y.hash else clashR (l.reverse.drop (k + 1)) (m.reverse.drop (k + 1)) := by
  have h1 : l.reverse[k]? = some x := by
    rw [List.getElem?_reverse (by omega), show l.length - 1 - k = j by omega]
    exact hx
  have h2 : m.reverse[k]? = some y := by
    rw [List.getElem?_reverse (by omega), show m.length - 1 - k = i by omega]
    exact hy
  rw [List.drop_eq_getElem_cons (List.getElem?_eq_some_iff.1 h1).1, List.drop_eq_getElem_cons (List.getElem?_eq_some_iff.1 h2).1, (List.getElem?_eq_some_iff.1 h1).2, (List.getElem?_eq_some_iff.1 h2).2, clashR]
theorem clash_end {l m : List Ent} {k : Nat} (h : l.length ≤ k ∨ m.length ≤ k) : clashR (l.reverse.drop k) (m.reverse.drop k) = false := by
  rcases h with h | h
  · rw [List.drop_of_length_le (by simpa using h)]
    rfl
  · rw [List.drop_of_length_le (l := m.reverse) (by simpa using h)]
    cases l.reverse.drop k <;> rfl
set_option maxRecDepth 100000 in
set_option maxHeartbeats 2000000 in
theorem clash_any {A B : Option Addr} {l m : List Ent} {n n2 : Nat} (hn : l.length = n) (hm : m.length = n2) (hn2 : n ≤ 1099511627776) (hm2 : n2 ≤ 1099511627776) (c d : Nat) (w : World) (h : Hid (Arr EntE 7 w A l)) (h2 : Hid (Arr EntE 7 w B m)) (hl : Hid ((∀ e ∈ l, EntLe e) ∧ ∀ e ∈ m, EntLe e)) :
    Calls Tryd.prog 23 #[.slice A n c, .slice B n2 d] w fun r w' => r = .returned (.bool (clashB l m)) ∧ Below w.heap.size w w' := by
  have HN := Lib.hid (And.intro hn hm)
  clear hn hm
  go_enter Tryd.func23, Tryd.ntmps23
  go_wp2_with fail
  go_loopw [5] (fun i wr => ∃ k : Nat, k ≤ n ∧ i = .int .i64 ((k : Int) + 1) ∧ Hid (clashB l m = clashR (l.reverse.drop k) (m.reverse.drop k)) ∧ Hid (Below w.heap.size w wr)) (fun i _ => n + 1 - (intOf i).toNat)
  case atStart => exact ⟨0, by omega, rfl, rfl, Below.refl _ _⟩
  case round =>
    obtain ⟨k, hk, rfl, HV, HB⟩ := hrel
    by_cases h1 : (k : Int) + 1 ≤ n
    · by_cases h3 : (k : Int) + 1 ≤ n2
      · obtain ⟨j, hj⟩ : ∃ j, k + j + 1 = n := ⟨n - 1 - k, by omega⟩
        obtain ⟨i, hi⟩ : ∃ j, k + j + 1 = n2 := ⟨n2 - 1 - k, by omega⟩
        obtain ⟨x, hx⟩ : ∃ e, l[j]? = some e := ⟨_, List.getElem?_eq_getElem (by have := HN.out.1; omega)⟩
        obtain ⟨y, hy⟩ : ∃ e, m[i]? = some e := ⟨_, List.getElem?_eq_getElem (by have := HN.out.2; omega)⟩
        obtain ⟨b, o, A1, c1, B1, d1, rfl, ha⟩ := (h.out.below EntE.stays HB.out).ent hx
        have hal := alloc_ext wr (.cells (entCells x A1 c1 B1 d1).toArray 30)
        obtain ⟨b2, o2, A2, c2, B2, d2, rfl, hb⟩ := (h2.out.below EntE.stays HB.out).ent hy
        have hlt2 : b2 < wr.heap.size := World.block_lt_of_cell? wr _ hb.c0
        have HS := Lib.hid (clash_step (k := k) (by have := HN.out.1; omega) (by have := HN.out.2; omega) hx hy)
        have HL : Hid (EntLe x ∧ EntLe y) := ⟨hl.out.1 x (List.mem_of_getElem? hx), hl.out.2 y (List.mem_of_getElem? hy)⟩
        have hal2 := alloc_ext (wr.alloc (.cells (entCells x A1 c1 B1 d1).toArray 30)) (.cells (entCells y A2 c2 B2 d2).toArray 30)
        have q1 := Lib.hid (entAt (heap_keep (heap_alloc_new wr (.cells (entCells x A1 c1 B1 d1).toArray 30)) hal2))
        have q2 := Lib.hid (entAt (heap_alloc_new (wr.alloc (.cells (entCells x A1 c1 B1 d1).toArray 30)) (.cells (entCells y A2 c2 B2 d2).toArray 30)))
        have hsz : (wr.alloc (.cells (entCells x A1 c1 B1 d1).toArray 30)).heap.size = wr.heap.size + 1 := by simp
        rw [hsz] at q2
        have r1 := Lib.hid ((ha.hi.below hal).below hal2)
        have r2 := Lib.hid ((hb.hi.below hal).below hal2)
        have HB2 := Lib.hid (ext_trans HB.out (ext_trans hal hal2))
        obtain ⟨x0, x1, x2, x3, x4, x5, x6, -⟩ := ha
        obtain ⟨y0, y1, y2, y3, y4, y5, y6, -⟩ := hb
        have hj' : (n : Int) - ((k : Int) + 1) = (j : Int) := by omega
        have hi' : (n2 : Int) - ((k : Int) + 1) = (i : Int) := by omega
        have hjn : (j : Int) < n := by omega
        have hin : (i : Int) < n2 := by omega
        clear hx hy hal hal2 hsz hj hi
        go_wp2_with fail
        refine clash_r6 x A1 c1 B1 d1 y A2 c2 B2 d2 wr.heap.size (wr.heap.size + 1) (by rfl) (by rfl) q1.out q2.out r1.out r2.out HL.out (by rfl) ?_
        intro v1 v4 w1 hb1 _ _
        have s1 := run_string_seg (P := Tryd.prog) 28 9 5 Tryd.underlying28 Tryd.underlying5 Tryd.underlying9 w1 d1 (r1.out.sh.below hb1)
        have s2 := run_string_seg (P := Tryd.prog) 28 9 5 Tryd.underlying28 Tryd.underlying5 Tryd.underlying9 w1 d2 (r2.out.sh.below hb1)
        have z6 := cell_later hb1 (q1.out 6 _ rfl)
        have u6 := cell_later hb1 (q2.out 6 _ rfl)
        have HB3 := Lib.hid (ext_trans HB2.out hb1)
        clear hb1 x0 x1 x2 x3 x4 x5 x6 y0 y1 y2 y3 y4 y5 y6
        simp only [Act.put, List.setIfInBounds_toArray, List.set_cons_zero, List.set_cons_succ]
        cases hbb : (bodyB x != bodyB y)
        all_goals
          have HBB := Lib.hid hbb
          clear hbb
          go_wp2_with fail
        · go_roundw
          case rel =>
            refine ⟨k + 1, by omega, by go_num, ?_, HB3.out⟩
            show _ = _
            rw [HV.out, HS.out, if_neg]
            have := HBB.out
            simpa using this
          case measure => simp [intOf]; omega
        · go_ret
          rw [HV.out, HS.out, if_pos (by have := HBB.out; simpa using this)]
          exact ⟨rfl, HB3.out⟩
      · go_wp2_with fail
        go_ret
        rw [HV.out, clash_end (.inr (by have := HN.out.2; omega))]
        exact ⟨rfl, HB.out⟩
    · go_wp2_with fail
      go_ret
      rw [HV.out, clash_end (.inl (by have := HN.out.1; omega))]
      exact ⟨rfl, HB.out⟩
end Go.Proofs.YtbjnpomcgcbflaaDoor
