/- Walks: whether an entry is right; how many are. Written by wip/gen/XB5.py. -/
import Derived.Test.YtbjnpomcgcbflaaDoorB4
set_option linter.unusedVariables false
set_option linter.unusedSimpArgs false
namespace Go.Proofs.YtbjnpomcgcbflaaDoor
open Go.RowKit Go.Deep
set_option maxRecDepth 100000 in
set_option maxHeartbeats 2000000 in
theorem right_r1 {Q : Exit → Act → World → Prop} {a0 : Act} {w0 : World} (e : Ent) (A : Option Addr) (c : Nat) (B : Option Addr) (d : Nat) (b : Nat) (no : Int) (p : List UInt8) (Ap : Option Addr) (cp : Nat) (z1 : a0.tmps.getD 1 undef = .int .i64 no) (z2 : a0.tmps.getD 2 undef = .slice Ap p.length cp) (z3 : a0.tmps.getD 3 undef = .pointer (some ⟨b, 0, none⟩)) (hHC : ∀ j v, (entCells e A c B d)[j]? = some v → w0.cell? ⟨b, j, none⟩ = some v) (hHI : EntIn w0 e A c B d) (hHL : EntLe e) (hHP : Seg w0 Ap (bvs p)) (zsz : a0.tmps.size = 25)
    (hQ : ∀ (v5 v6 v7 v8 v11 v12 v13 v14 v15 v16 : Value) (w1 : World), Below w0.heap.size w0 w1 → ((e.no == no) = true → v5 = .pointer (some ⟨b, 5, none⟩)) → ((e.no == no) = true → v6 = .slice A e.prev.length c) → ((e.no == no) = true → v7 = .slice Ap p.length cp) → ((e.no == no) = true → v8 = .bool (e.prev == p)) → ((e.no == no && e.prev == p) = true → v11 = .pointer (some ⟨b, 6, none⟩)) → ((e.no == no && e.prev == p) = true → v12 = .slice B e.hash.length d) → ((e.no == no && e.prev == p) = true → v13 = .agg (entCells e A c B d).toArray) → ((e.no == no && e.prev == p) = true → SlB (bodyB e) (v14) w1) → ((e.no == no && e.prev == p) = true → SlB (shaOut (bodyB e)) (v15) w1) → ((e.no == no && e.prev == p) = true → v16 = .bool (e.hash == shaOut (bodyB e))) → Q .normal (((((((((((((((((((a0.put (some 7) (.pointer (some ⟨b, 0, none⟩))).put (some 8) (.int .i64 e.no)).put (some 9) (.int .i64 no)).put (some 10) (.bool (e.no == no))).put (some 11) (.bool (e.no == no))).put (some 12) v5).put (some 13) v6).put (some 14) v7).put (some 15) v8).put (some 16) (.bool (e.no == no && e.prev == p))).put (some 17) (.bool (e.no == no && e.prev == p))).put (some 18) v11).put (some 19) v12).put (some 20) v13).put (some 21) v14).put (some 22) v15).put (some 23) v16).put (some 24) (.bool ((e.no == no && e.prev == p) && e.hash == shaOut (bodyB e)))).put (some 6) (.bool ((e.no == no && e.prev == p) && e.hash == shaOut (bodyB e)))) w1) :
    (regOf Tryd.f35 1).wp Tryd.prog Q a0 w0 := by
  have Z1 := Lib.hid z1
  clear z1
  have Z2 := Lib.hid z2
  clear z2
  have Z3 := Lib.hid z3
  clear z3
  have HC := Lib.hid hHC
  clear hHC
  have HI := Lib.hid hHI
  clear hHI
  have HL := Lib.hid hHL
  clear hHL
  have HP := Lib.hid hHP
  clear hHP
  have HQ := Lib.hid hQ
  clear hQ
  conv => arg 2; whnf
  refine wp_region_facts true (by kernel_rfl) (by kernel_rfl) 25 (by kernel_rfl) zsz (by kernel_rfl) (Below w0.heap.size w0) (fun w w' => Below w.heap.size w w') (drewIf_ext _ _) (fun _ _ h k => ext_trans h k) (fun i v w => match i with
    | 0 => v = .pointer (some ⟨b, 0, none⟩)
    | 1 => v = .int .i64 e.no
    | 2 => v = .int .i64 no
    | 3 => v = .bool (e.no == no)
    | 4 => v = .bool (e.no == no)
    | 5 => ((e.no == no) = true → v = .pointer (some ⟨b, 5, none⟩))
    | 6 => ((e.no == no) = true → v = .slice A e.prev.length c)
    | 7 => ((e.no == no) = true → v = .slice Ap p.length cp)
    | 8 => ((e.no == no) = true → v = .bool (e.prev == p))
    | 9 => v = .bool (e.no == no && e.prev == p)
    | 10 => v = .bool (e.no == no && e.prev == p)
    | 11 => ((e.no == no && e.prev == p) = true → v = .pointer (some ⟨b, 6, none⟩))
    | 12 => ((e.no == no && e.prev == p) = true → v = .slice B e.hash.length d)
    | 13 => ((e.no == no && e.prev == p) = true → v = .agg (entCells e A c B d).toArray)
    | 14 => ((e.no == no && e.prev == p) = true → SlB (bodyB e) (v) w)
    | 15 => ((e.no == no && e.prev == p) = true → SlB (shaOut (bodyB e)) (v) w)
    | 16 => ((e.no == no && e.prev == p) = true → v = .bool (e.hash == shaOut (bodyB e)))
    | 17 => v = .bool ((e.no == no && e.prev == p) && e.hash == shaOut (bodyB e))
    | 18 => v = .bool ((e.no == no && e.prev == p) && e.hash == shaOut (bodyB e))
    | _ => True) ?_ ?_ ?_
  · intro i v w w' h hb
    match i, h with
    | 0, h => exact h
    | 1, h => exact h
    | 2, h => exact h
    | 3, h => exact h
    | 4, h => exact h
    | 5, h => exact h
    | 6, h => exact h
    | 7, h => exact h
    | 8, h => exact h
    | 9, h => exact h
    | 10, h => exact h
    | 11, h => exact h
    | 12, h => exact h
    | 13, h => exact h
    | 14, h => exact fun hg => SlB.below (h hg) hb
    | 15, h => exact fun hg => SlB.below (h hg) hb
    | 16, h => exact h
    | 17, h => exact h
    | 18, h => exact h
    | _ + 19, _ => trivial
  refine Obs.cons (fun σ a w hB hσ hp K hK => ?_) ?_
  · rw [if_pos (by rfl)]
    have e3 : σ 3 = .pointer (some ⟨b, 0, none⟩) := (hσ 3 (by kernel_rfl)).trans Z3.out
    have HK := Lib.hid hK
    have HB := Lib.hid hB
    clear hK hp hσ hB
    unfold stepS
    go_simp
    exact HK.out _ _ (Below.refl _ _) rfl
  refine Obs.cons (fun σ a w hB hσ hp K hK => ?_) ?_
  · rw [if_pos (by rfl)]
    have e7 : σ 7 = .pointer (some ⟨b, 0, none⟩) := (hp 0 rfl)
    have hc := cell_later hB (HC.out 0 _ rfl)
    have HK := Lib.hid hK
    have HB := Lib.hid hB
    clear hK hp hσ hB
    unfold stepS
    go_simp
    exact HK.out _ _ (Below.refl _ _) rfl
  refine Obs.cons (fun σ a w hB hσ hp K hK => ?_) ?_
  · rw [if_pos (by rfl)]
    have e1 : σ 1 = .int .i64 no := (hσ 1 (by kernel_rfl)).trans Z1.out
    refine stepS_move _ rfl _ e1 ?_
    exact hK _ _ (Below.refl _ _) rfl
  refine Obs.cons (fun σ a w hB hσ hp K hK => ?_) ?_
  · rw [if_pos (by rfl)]
    have e8 : σ 8 = .int .i64 e.no := (hp 1 rfl)
    have e9 : σ 9 = .int .i64 no := (hp 2 rfl)
    have HK := Lib.hid hK
    have HB := Lib.hid hB
    clear hK hp hσ hB
    unfold stepS
    go_simp
    exact HK.out _ _ (Below.refl _ _) rfl
  refine Obs.cons (fun σ a w hB hσ hp K hK => ?_) ?_
  · rw [if_pos (by rfl)]
    have e10 : σ 10 = .bool (e.no == no) := (hp 3 rfl)
    refine stepS_move _ rfl _ e10 ?_
    exact hK _ _ (Below.refl _ _) rfl
  refine Obs.cons (fun σ a w hB hσ hp K hK => ?_) ?_
  · have eg : σ 11 = .bool (e.no == no) := hp 4 rfl
    rw [wantedS_of (d := 11) rfl rfl eg]
    by_cases hg : (e.no == no) = true
    rotate_left
    · rw [if_neg (by simpa using hg)]
      exact hK _ _ (Below.refl _ _) (fun h => absurd h hg)
    rw [if_pos (by simpa using hg)]
    have e3 : σ 3 = .pointer (some ⟨b, 0, none⟩) := (hσ 3 (by kernel_rfl)).trans Z3.out
    have HK := Lib.hid hK
    have HB := Lib.hid hB
    clear hK hp hσ hB eg
    have HG := Lib.hid hg
    clear hg
    unfold stepS
    go_simp
    exact HK.out _ _ (Below.refl _ _) (fun _ => rfl)
  refine Obs.cons (fun σ a w hB hσ hp K hK => ?_) ?_
  · have eg : σ 11 = .bool (e.no == no) := hp 4 rfl
    rw [wantedS_of (d := 11) rfl rfl eg]
    by_cases hg : (e.no == no) = true
    rotate_left
    · rw [if_neg (by simpa using hg)]
      exact hK _ _ (Below.refl _ _) (fun h => absurd h hg)
    rw [if_pos (by simpa using hg)]
    have e12 : σ 12 = .pointer (some ⟨b, 5, none⟩) := (hp 5 rfl) hg
    have hc := cell_later hB (HC.out 5 _ rfl)
    have HK := Lib.hid hK
    have HB := Lib.hid hB
    clear hK hp hσ hB eg
    have HG := Lib.hid hg
    clear hg
    unfold stepS
    go_simp
    exact HK.out _ _ (Below.refl _ _) (fun _ => rfl)
  refine Obs.cons (fun σ a w hB hσ hp K hK => ?_) ?_
  · have eg : σ 11 = .bool (e.no == no) := hp 4 rfl
    rw [wantedS_of (d := 11) rfl rfl eg]
    by_cases hg : (e.no == no) = true
    rotate_left
    · rw [if_neg (by simpa using hg)]
      exact hK _ _ (Below.refl _ _) (fun h => absurd h hg)
    rw [if_pos (by simpa using hg)]
    have e2 : σ 2 = .slice Ap p.length cp := (hσ 2 (by kernel_rfl)).trans Z2.out
    refine stepS_move _ rfl _ e2 ?_
    exact hK _ _ (Below.refl _ _) (fun _ => rfl)
  refine Obs.cons (fun σ a w hB hσ hp K hK => ?_) ?_
  · have eg : σ 11 = .bool (e.no == no) := hp 4 rfl
    rw [wantedS_of (d := 11) rfl rfl eg]
    by_cases hg : (e.no == no) = true
    rotate_left
    · rw [if_neg (by simpa using hg)]
      exact hK _ _ (Below.refl _ _) (fun h => absurd h hg)
    rw [if_pos (by simpa using hg)]
    have e13 : σ 13 = .slice A e.prev.length c := (hp 6 rfl) hg
    have e14 : σ 14 = .slice Ap p.length cp := (hp 7 rfl) hg
    refine stepS_call _ Tryd.func36 (by kernel_rfl) (by kernel_rfl) _ _ rfl _ rfl ?_
    simp only [List.map_toArray, List.map_cons, List.map_nil, evalS, e13, e14]
    refine Calls.mono (bytesEqual_any c cp w (HI.out.sp.below hB) (HP.out.below hB)) ?_
    rintro e w1 ⟨rfl, rfl⟩
    exact ⟨_, rfl, hK _ _ (Below.refl _ _) (fun _ => rfl)⟩
  refine Obs.cons (fun σ a w hB hσ hp K hK => ?_) ?_
  · rw [if_pos (by rfl)]
    have e11 : σ 11 = .bool (e.no == no) := (hp 4 rfl)
    have e15 : ((e.no == no) = true → σ 15 = .bool (e.prev == p)) := hp 8 rfl
    refine stepS_pick _ _ _ rfl _ e11 _ (pick_and e15) ?_
    exact hK _ _ (Below.refl _ _) rfl
  refine Obs.cons (fun σ a w hB hσ hp K hK => ?_) ?_
  · rw [if_pos (by rfl)]
    have e16 : σ 16 = .bool (e.no == no && e.prev == p) := (hp 9 rfl)
    refine stepS_move _ rfl _ e16 ?_
    exact hK _ _ (Below.refl _ _) rfl
  refine Obs.cons (fun σ a w hB hσ hp K hK => ?_) ?_
  · have eg : σ 17 = .bool (e.no == no && e.prev == p) := hp 10 rfl
    rw [wantedS_of (d := 17) rfl rfl eg]
    by_cases hg : (e.no == no && e.prev == p) = true
    rotate_left
    · rw [if_neg (by simpa using hg)]
      exact hK _ _ (Below.refl _ _) (fun h => absurd h hg)
    rw [if_pos (by simpa using hg)]
    have e3 : σ 3 = .pointer (some ⟨b, 0, none⟩) := (hσ 3 (by kernel_rfl)).trans Z3.out
    have HK := Lib.hid hK
    have HB := Lib.hid hB
    clear hK hp hσ hB eg
    have HG := Lib.hid hg
    clear hg
    unfold stepS
    go_simp
    exact HK.out _ _ (Below.refl _ _) (fun _ => rfl)
  refine Obs.cons (fun σ a w hB hσ hp K hK => ?_) ?_
  · have eg : σ 17 = .bool (e.no == no && e.prev == p) := hp 10 rfl
    rw [wantedS_of (d := 17) rfl rfl eg]
    by_cases hg : (e.no == no && e.prev == p) = true
    rotate_left
    · rw [if_neg (by simpa using hg)]
      exact hK _ _ (Below.refl _ _) (fun h => absurd h hg)
    rw [if_pos (by simpa using hg)]
    have e18 : σ 18 = .pointer (some ⟨b, 6, none⟩) := (hp 11 rfl) hg
    have hc := cell_later hB (HC.out 6 _ rfl)
    have HK := Lib.hid hK
    have HB := Lib.hid hB
    clear hK hp hσ hB eg
    have HG := Lib.hid hg
    clear hg
    unfold stepS
    go_simp
    exact HK.out _ _ (Below.refl _ _) (fun _ => rfl)
  refine Obs.cons (fun σ a w hB hσ hp K hK => ?_) ?_
  · have eg : σ 17 = .bool (e.no == no && e.prev == p) := hp 10 rfl
    rw [wantedS_of (d := 17) rfl rfl eg]
    by_cases hg : (e.no == no && e.prev == p) = true
    rotate_left
    · rw [if_neg (by simpa using hg)]
      exact hK _ _ (Below.refl _ _) (fun h => absurd h hg)
    rw [if_pos (by simpa using hg)]
    have e3 : σ 3 = .pointer (some ⟨b, 0, none⟩) := (hσ 3 (by kernel_rfl)).trans Z3.out
    refine stepS_load_mid 30 _ rfl (b) (0) e3 (entCells e A c B d) _ (fun j v hv => by rw [Nat.zero_add]; exact cell_later hB (HC.out j v hv)) Tryd.underlying30 rfl (by kernel_rfl) ?_
    exact hK _ _ (Below.refl _ _) (fun _ => rfl)
  refine Obs.cons (fun σ a w hB hσ hp K hK => ?_) ?_
  · have eg : σ 17 = .bool (e.no == no && e.prev == p) := hp 10 rfl
    rw [wantedS_of (d := 17) rfl rfl eg]
    by_cases hg : (e.no == no && e.prev == p) = true
    rotate_left
    · rw [if_neg (by simpa using hg)]
      exact hK _ _ (Below.refl _ _) (fun h => absurd h hg)
    rw [if_pos (by simpa using hg)]
    have e20 : σ 20 = .agg (entCells e A c B d).toArray := (hp 13 rfl) hg
    refine stepS_call _ Tryd.func29 (by kernel_rfl) (by kernel_rfl) _ _ rfl _ rfl ?_
    simp only [List.map_toArray, List.map_cons, List.map_nil, evalS, e20]
    refine Calls.mono (body_any e A c B d _ (HI.out.below hB) HL) ?_
    rintro e w1 ⟨A, c, rfl, hc, hc2, hs, hb⟩
    exact ⟨_, rfl, hK _ _ (hb) (fun _ => ⟨A, c, rfl, hc, hc2, hs⟩)⟩
  refine Obs.cons (fun σ a w hB hσ hp K hK => ?_) ?_
  · have eg : σ 17 = .bool (e.no == no && e.prev == p) := hp 10 rfl
    rw [wantedS_of (d := 17) rfl rfl eg]
    by_cases hg : (e.no == no && e.prev == p) = true
    rotate_left
    · rw [if_neg (by simpa using hg)]
      exact hK _ _ (Below.refl _ _) (fun h => absurd h hg)
    rw [if_pos (by simpa using hg)]
    have e21 : SlB (bodyB e) (σ 21) w := (hp 14 rfl) hg
    obtain ⟨A21, c21, q21, h1, h2, h3⟩ := e21
    refine stepS_call _ Tryd.func32 (by kernel_rfl) (by kernel_rfl) _ _ rfl _ rfl ?_
    simp only [List.map_toArray, List.map_cons, List.map_nil, evalS, q21]
    refine Calls.mono ((shaSum_any rfl c21 h1 h2 (by have := bodyB_le HL.out; omega) _ h3).mono fun _ _ h => h.b) ?_
    rintro e w1 ⟨A, c, rfl, hc, hc2, hs, hb⟩
    exact ⟨_, rfl, hK _ _ (hb) (fun _ => ⟨A, c, rfl, hc, hc2, hs⟩)⟩
  refine Obs.cons (fun σ a w hB hσ hp K hK => ?_) ?_
  · have eg : σ 17 = .bool (e.no == no && e.prev == p) := hp 10 rfl
    rw [wantedS_of (d := 17) rfl rfl eg]
    by_cases hg : (e.no == no && e.prev == p) = true
    rotate_left
    · rw [if_neg (by simpa using hg)]
      exact hK _ _ (Below.refl _ _) (fun h => absurd h hg)
    rw [if_pos (by simpa using hg)]
    have e19 : σ 19 = .slice B e.hash.length d := (hp 12 rfl) hg
    have e22 : SlB (shaOut (bodyB e)) (σ 22) w := (hp 15 rfl) hg
    obtain ⟨A22, c22, q22, h1, h2, h3⟩ := e22
    refine stepS_call _ Tryd.func36 (by kernel_rfl) (by kernel_rfl) _ _ rfl _ rfl ?_
    simp only [List.map_toArray, List.map_cons, List.map_nil, evalS, e19, q22]
    refine Calls.mono (bytesEqual_any d c22 w (HI.out.sh.below hB) h3) ?_
    rintro e w1 ⟨rfl, rfl⟩
    exact ⟨_, rfl, hK _ _ (Below.refl _ _) (fun _ => rfl)⟩
  refine Obs.cons (fun σ a w hB hσ hp K hK => ?_) ?_
  · rw [if_pos (by rfl)]
    have e17 : σ 17 = .bool (e.no == no && e.prev == p) := (hp 10 rfl)
    have e23 : ((e.no == no && e.prev == p) = true → σ 23 = .bool (e.hash == shaOut (bodyB e))) := hp 16 rfl
    refine stepS_pick _ _ _ rfl _ e17 _ (pick_and e23) ?_
    exact hK _ _ (Below.refl _ _) rfl
  refine Obs.cons (fun σ a w hB hσ hp K hK => ?_) ?_
  · rw [if_pos (by rfl)]
    have e24 : σ 24 = .bool ((e.no == no && e.prev == p) && e.hash == shaOut (bodyB e)) := (hp 17 rfl)
    refine stepS_assign _ rfl _ e24 ?_
    exact hK _ _ (Below.refl _ _) rfl
  · exact Obs.nil _
  · intro σ w hB hf
    have f0 : σ 7 = .pointer (some ⟨b, 0, none⟩) := hf 0 (by decide)
    have f1 : σ 8 = .int .i64 e.no := hf 1 (by decide)
    have f2 : σ 9 = .int .i64 no := hf 2 (by decide)
    have f3 : σ 10 = .bool (e.no == no) := hf 3 (by decide)
    have f4 : σ 11 = .bool (e.no == no) := hf 4 (by decide)
    have f5 : ((e.no == no) = true → σ 12 = .pointer (some ⟨b, 5, none⟩)) := hf 5 (by decide)
    have f6 : ((e.no == no) = true → σ 13 = .slice A e.prev.length c) := hf 6 (by decide)
    have f7 : ((e.no == no) = true → σ 14 = .slice Ap p.length cp) := hf 7 (by decide)
    have f8 : ((e.no == no) = true → σ 15 = .bool (e.prev == p)) := hf 8 (by decide)
    have f9 : σ 16 = .bool (e.no == no && e.prev == p) := hf 9 (by decide)
    have f10 : σ 17 = .bool (e.no == no && e.prev == p) := hf 10 (by decide)
    have f11 : ((e.no == no && e.prev == p) = true → σ 18 = .pointer (some ⟨b, 6, none⟩)) := hf 11 (by decide)
    have f12 : ((e.no == no && e.prev == p) = true → σ 19 = .slice B e.hash.length d) := hf 12 (by decide)
    have f13 : ((e.no == no && e.prev == p) = true → σ 20 = .agg (entCells e A c B d).toArray) := hf 13 (by decide)
    have f14 : ((e.no == no && e.prev == p) = true → SlB (bodyB e) (σ 21) w) := hf 14 (by decide)
    have f15 : ((e.no == no && e.prev == p) = true → SlB (shaOut (bodyB e)) (σ 22) w) := hf 15 (by decide)
    have f16 : ((e.no == no && e.prev == p) = true → σ 23 = .bool (e.hash == shaOut (bodyB e))) := hf 16 (by decide)
    have f17 : σ 24 = .bool ((e.no == no && e.prev == p) && e.hash == shaOut (bodyB e)) := hf 17 (by decide)
    have f18 : σ 6 = .bool ((e.no == no && e.prev == p) && e.hash == shaOut (bodyB e)) := hf 18 (by decide)
    have hq := HQ.out (σ 12) (σ 13) (σ 14) (σ 15) (σ 18) (σ 19) (σ 20) (σ 21) (σ 22) (σ 23) w hB f5 f6 f7 f8 f11 f12 f13 f14 f15 f16
    simp only [dstsL, List.filterMap_cons, List.filterMap_nil, setAll]
    rw [f0, f1, f2, f3, f4, f9, f10, f17, f18]
    simp only [Act.put] at hq
    exact hq
theorem rightB_eq (e : Ent) (no : Nat) (p : List UInt8) : ((e.no == (no : Int) && e.prev == p) && e.hash == shaOut (bodyB e)) = rightB e no p := by
  unfold rightB
  rw [Bool.and_assoc]
set_option maxRecDepth 100000 in
set_option maxHeartbeats 1000000 in
theorem right_any (e : Ent) (A : Option Addr) (c : Nat) (B : Option Addr) (d : Nat) (no : Nat) (p : List UInt8) (Ap : Option Addr) (cp : Nat) (w : World) (HI : Hid (EntIn w e A c B d)) (HL : Hid (EntLe e)) (HP : Hid (Seg w Ap (bvs p))) :
    Calls Tryd.prog 35 #[.agg #[.int .i64 e.no, .int .i64 e.time, .int .i64 e.code, .string e.who, .string e.what, .slice A e.prev.length c, .slice B e.hash.length d], .int .i64 no, .slice Ap p.length cp] w fun r w' => r = .returned (.bool (rightB e no p)) ∧ Below w.heap.size w w' := by
  go_enter Tryd.func35, Tryd.ntmps35
  go_wp2_with fail
  have q1 := entAt (e := e) (A := A) (c := c) (B := B) (d := d) (heap_alloc_new w (.cells (entCells e A c B d).toArray 30))
  have q2 := HI.out.below (alloc_ext w (.cells (entCells e A c B d).toArray 30))
  have q3 := HP.out.below (alloc_ext w (.cells (entCells e A c B d).toArray 30))
  refine right_r1 e A c B d w.heap.size no p Ap cp (by rfl) (by rfl) (by rfl) q1 q2 HL.out q3 (by rfl) ?_
  clear q1 q2 q3
  intros
  rename Below _ _ _ => hB
  have hb := ext_trans (alloc_ext w _) hB
  have HB := Lib.hid hb
  clear hB hb
  simp only [Act.put, List.setIfInBounds_toArray, List.set_cons_zero, List.set_cons_succ]
  go_wp2_with fail
  go_ret
  rw [rightB_eq]
  exact ⟨rfl, HB.out⟩
end Go.Proofs.YtbjnpomcgcbflaaDoor
