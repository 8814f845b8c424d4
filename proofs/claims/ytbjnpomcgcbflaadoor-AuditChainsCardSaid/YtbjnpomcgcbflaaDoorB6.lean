/- Walks: whether two entries are the same; whether one is short; whether two lists are the same. Written by wip/gen/XB6.py. -/
import Derived.Test.YtbjnpomcgcbflaaDoorB5
set_option linter.unusedVariables false
set_option linter.unusedSimpArgs false
namespace Go.Proofs.YtbjnpomcgcbflaaDoor
open Go.RowKit Go.Deep

def shortB (e : Ent) : Bool := ((decide ((e.who.size : Int) ≤ 1000) && decide ((e.what.size : Int) ≤ 1000)) && decide ((e.prev.length : Int) ≤ 100)) && decide ((e.hash.length : Int) ≤ 100)
theorem shortB_le {e : Ent} (h : shortB e = true) : EntLe e := by
  simp only [shortB, Bool.and_eq_true, decide_eq_true_eq] at h
  obtain ⟨⟨⟨h1, h2⟩, h3⟩, h4⟩ := h
  exact ⟨by omega, by omega, by omega, by omega⟩
def sameB (x y : Ent) : Bool := (((((x.no == y.no && x.time == y.time) && x.code == y.code) && x.who.toList == y.who.toList) && x.what.toList == y.what.toList) && x.prev == y.prev) && x.hash == y.hash
theorem sameB_eq {x y : Ent} : sameB x y = true ↔ x = y := by
  simp only [sameB, Bool.and_eq_true, beq_iff_eq, ByteArray.toList_eq]
  exact ⟨fun ⟨⟨⟨⟨⟨⟨h1, h2⟩, h3⟩, h4⟩, h5⟩, h6⟩, h7⟩ => entExt h1 h2 h3 (baL_inj h4) (baL_inj h5) h6 h7, fun h => by subst h; simp⟩
set_option maxRecDepth 100000 in
set_option maxHeartbeats 2000000 in
theorem short_r1 {Q : Exit → Act → World → Prop} {a0 : Act} {w0 : World} (e : Ent) (A : Option Addr) (c : Nat) (B : Option Addr) (d : Nat) (b : Nat) (z1 : a0.tmps.getD 1 undef = .pointer (some ⟨b, 0, none⟩)) (hHC : ∀ j v, (entCells e A c B d)[j]? = some v → w0.cell? ⟨b, j, none⟩ = some v) (zsz : a0.tmps.size = 25)
    (hQ : ∀ (v5 v6 v7 v8 v11 v12 v13 v14 v17 v18 v19 v20 : Value) (w1 : World), Below w0.heap.size w0 w1 → ((decide ((e.who.size : Int) ≤ 1000)) = true → v5 = .pointer (some ⟨b, 4, none⟩)) → ((decide ((e.who.size : Int) ≤ 1000)) = true → v6 = .string e.what) → ((decide ((e.who.size : Int) ≤ 1000)) = true → v7 = .int .i64 e.what.size) → ((decide ((e.who.size : Int) ≤ 1000)) = true → v8 = .bool (decide ((e.what.size : Int) ≤ 1000))) → ((decide ((e.who.size : Int) ≤ 1000) && decide ((e.what.size : Int) ≤ 1000)) = true → v11 = .pointer (some ⟨b, 5, none⟩)) → ((decide ((e.who.size : Int) ≤ 1000) && decide ((e.what.size : Int) ≤ 1000)) = true → v12 = .slice A e.prev.length c) → ((decide ((e.who.size : Int) ≤ 1000) && decide ((e.what.size : Int) ≤ 1000)) = true → v13 = .int .i64 e.prev.length) → ((decide ((e.who.size : Int) ≤ 1000) && decide ((e.what.size : Int) ≤ 1000)) = true → v14 = .bool (decide ((e.prev.length : Int) ≤ 100))) → (((decide ((e.who.size : Int) ≤ 1000) && decide ((e.what.size : Int) ≤ 1000)) && decide ((e.prev.length : Int) ≤ 100)) = true → v17 = .pointer (some ⟨b, 6, none⟩)) → (((decide ((e.who.size : Int) ≤ 1000) && decide ((e.what.size : Int) ≤ 1000)) && decide ((e.prev.length : Int) ≤ 100)) = true → v18 = .slice B e.hash.length d) → (((decide ((e.who.size : Int) ≤ 1000) && decide ((e.what.size : Int) ≤ 1000)) && decide ((e.prev.length : Int) ≤ 100)) = true → v19 = .int .i64 e.hash.length) → (((decide ((e.who.size : Int) ≤ 1000) && decide ((e.what.size : Int) ≤ 1000)) && decide ((e.prev.length : Int) ≤ 100)) = true → v20 = .bool (decide ((e.hash.length : Int) ≤ 100))) → Q .normal (((((((((((((((((((((((a0.put (some 3) (.pointer (some ⟨b, 3, none⟩))).put (some 4) (.string e.who)).put (some 5) (.int .i64 e.who.size)).put (some 6) (.bool (decide ((e.who.size : Int) ≤ 1000)))).put (some 7) (.bool (decide ((e.who.size : Int) ≤ 1000)))).put (some 8) v5).put (some 9) v6).put (some 10) v7).put (some 11) v8).put (some 12) (.bool (decide ((e.who.size : Int) ≤ 1000) && decide ((e.what.size : Int) ≤ 1000)))).put (some 13) (.bool (decide ((e.who.size : Int) ≤ 1000) && decide ((e.what.size : Int) ≤ 1000)))).put (some 14) v11).put (some 15) v12).put (some 16) v13).put (some 17) v14).put (some 18) (.bool ((decide ((e.who.size : Int) ≤ 1000) && decide ((e.what.size : Int) ≤ 1000)) && decide ((e.prev.length : Int) ≤ 100)))).put (some 19) (.bool ((decide ((e.who.size : Int) ≤ 1000) && decide ((e.what.size : Int) ≤ 1000)) && decide ((e.prev.length : Int) ≤ 100)))).put (some 20) v17).put (some 21) v18).put (some 22) v19).put (some 23) v20).put (some 24) (.bool (((decide ((e.who.size : Int) ≤ 1000) && decide ((e.what.size : Int) ≤ 1000)) && decide ((e.prev.length : Int) ≤ 100)) && decide ((e.hash.length : Int) ≤ 100)))).put (some 2) (.bool (((decide ((e.who.size : Int) ≤ 1000) && decide ((e.what.size : Int) ≤ 1000)) && decide ((e.prev.length : Int) ≤ 100)) && decide ((e.hash.length : Int) ≤ 100)))) w1) :
    (regOf Tryd.f26 1).wp Tryd.prog Q a0 w0 := by
  have Z1 := Lib.hid z1
  clear z1
  have HC := Lib.hid hHC
  clear hHC
  have HQ := Lib.hid hQ
  clear hQ
  conv => arg 2; whnf
  refine wp_region_facts false (by kernel_rfl) (by kernel_rfl) 25 (by kernel_rfl) zsz (by kernel_rfl) (Below w0.heap.size w0) (fun w w' => Below w.heap.size w w') (drewIf_ext _ _) (fun _ _ h k => ext_trans h k) (fun i v w => match i with
    | 0 => v = .pointer (some ⟨b, 3, none⟩)
    | 1 => v = .string e.who
    | 2 => v = .int .i64 e.who.size
    | 3 => v = .bool (decide ((e.who.size : Int) ≤ 1000))
    | 4 => v = .bool (decide ((e.who.size : Int) ≤ 1000))
    | 5 => ((decide ((e.who.size : Int) ≤ 1000)) = true → v = .pointer (some ⟨b, 4, none⟩))
    | 6 => ((decide ((e.who.size : Int) ≤ 1000)) = true → v = .string e.what)
    | 7 => ((decide ((e.who.size : Int) ≤ 1000)) = true → v = .int .i64 e.what.size)
    | 8 => ((decide ((e.who.size : Int) ≤ 1000)) = true → v = .bool (decide ((e.what.size : Int) ≤ 1000)))
    | 9 => v = .bool (decide ((e.who.size : Int) ≤ 1000) && decide ((e.what.size : Int) ≤ 1000))
    | 10 => v = .bool (decide ((e.who.size : Int) ≤ 1000) && decide ((e.what.size : Int) ≤ 1000))
    | 11 => ((decide ((e.who.size : Int) ≤ 1000) && decide ((e.what.size : Int) ≤ 1000)) = true → v = .pointer (some ⟨b, 5, none⟩))
    | 12 => ((decide ((e.who.size : Int) ≤ 1000) && decide ((e.what.size : Int) ≤ 1000)) = true → v = .slice A e.prev.length c)
    | 13 => ((decide ((e.who.size : Int) ≤ 1000) && decide ((e.what.size : Int) ≤ 1000)) = true → v = .int .i64 e.prev.length)
    | 14 => ((decide ((e.who.size : Int) ≤ 1000) && decide ((e.what.size : Int) ≤ 1000)) = true → v = .bool (decide ((e.prev.length : Int) ≤ 100)))
    | 15 => v = .bool ((decide ((e.who.size : Int) ≤ 1000) && decide ((e.what.size : Int) ≤ 1000)) && decide ((e.prev.length : Int) ≤ 100))
    | 16 => v = .bool ((decide ((e.who.size : Int) ≤ 1000) && decide ((e.what.size : Int) ≤ 1000)) && decide ((e.prev.length : Int) ≤ 100))
    | 17 => (((decide ((e.who.size : Int) ≤ 1000) && decide ((e.what.size : Int) ≤ 1000)) && decide ((e.prev.length : Int) ≤ 100)) = true → v = .pointer (some ⟨b, 6, none⟩))
    | 18 => (((decide ((e.who.size : Int) ≤ 1000) && decide ((e.what.size : Int) ≤ 1000)) && decide ((e.prev.length : Int) ≤ 100)) = true → v = .slice B e.hash.length d)
    | 19 => (((decide ((e.who.size : Int) ≤ 1000) && decide ((e.what.size : Int) ≤ 1000)) && decide ((e.prev.length : Int) ≤ 100)) = true → v = .int .i64 e.hash.length)
    | 20 => (((decide ((e.who.size : Int) ≤ 1000) && decide ((e.what.size : Int) ≤ 1000)) && decide ((e.prev.length : Int) ≤ 100)) = true → v = .bool (decide ((e.hash.length : Int) ≤ 100)))
    | 21 => v = .bool (((decide ((e.who.size : Int) ≤ 1000) && decide ((e.what.size : Int) ≤ 1000)) && decide ((e.prev.length : Int) ≤ 100)) && decide ((e.hash.length : Int) ≤ 100))
    | 22 => v = .bool (((decide ((e.who.size : Int) ≤ 1000) && decide ((e.what.size : Int) ≤ 1000)) && decide ((e.prev.length : Int) ≤ 100)) && decide ((e.hash.length : Int) ≤ 100))
    | _ => True) ?_ ?_ ?_
  · intro i v w w' h hb
    match i, h with
    | 0, h => exact h
    | 1, h => exact h
    | 2, h => exact h
    | 3, h => exact h
    | 4, h => exact h
    | 5, h => exact h
    | 6, h => exact h
    | 7, h => exact h
    | 8, h => exact h
    | 9, h => exact h
    | 10, h => exact h
    | 11, h => exact h
    | 12, h => exact h
    | 13, h => exact h
    | 14, h => exact h
    | 15, h => exact h
    | 16, h => exact h
    | 17, h => exact h
    | 18, h => exact h
    | 19, h => exact h
    | 20, h => exact h
    | 21, h => exact h
    | 22, h => exact h
    | _ + 23, _ => trivial
  refine Obs.cons (fun σ a w hB hσ hp K hK => ?_) ?_
  · rw [if_pos (by rfl)]
    have e1 : σ 1 = .pointer (some ⟨b, 0, none⟩) := (hσ 1 (by kernel_rfl)).trans Z1.out
    have HK := Lib.hid hK
    have HB := Lib.hid hB
    clear hK hp hσ hB
    unfold stepS
    go_simp
    exact HK.out _ _ (Below.refl _ _) rfl
  refine Obs.cons (fun σ a w hB hσ hp K hK => ?_) ?_
  · rw [if_pos (by rfl)]
    have e3 : σ 3 = .pointer (some ⟨b, 3, none⟩) := (hp 0 rfl)
    have hc := cell_later hB (HC.out 3 _ rfl)
    have HK := Lib.hid hK
    have HB := Lib.hid hB
    clear hK hp hσ hB
    unfold stepS
    go_simp
    exact HK.out _ _ (Below.refl _ _) rfl
  refine Obs.cons (fun σ a w hB hσ hp K hK => ?_) ?_
  · rw [if_pos (by rfl)]
    have e4 : σ 4 = .string e.who := (hp 1 rfl)
    have HK := Lib.hid hK
    have HB := Lib.hid hB
    clear hK hp hσ hB
    unfold stepS
    go_simp
    exact HK.out _ _ (Below.refl _ _) rfl
  refine Obs.cons (fun σ a w hB hσ hp K hK => ?_) ?_
  · rw [if_pos (by rfl)]
    have e5 : σ 5 = .int .i64 e.who.size := (hp 2 rfl)
    have HK := Lib.hid hK
    have HB := Lib.hid hB
    clear hK hp hσ hB
    unfold stepS
    go_simp
    exact HK.out _ _ (Below.refl _ _) rfl
  refine Obs.cons (fun σ a w hB hσ hp K hK => ?_) ?_
  · rw [if_pos (by rfl)]
    have e6 : σ 6 = .bool (decide ((e.who.size : Int) ≤ 1000)) := (hp 3 rfl)
    refine stepS_move _ rfl _ e6 ?_
    exact hK _ _ (Below.refl _ _) rfl
  refine Obs.cons (fun σ a w hB hσ hp K hK => ?_) ?_
  · have eg : σ 7 = .bool (decide ((e.who.size : Int) ≤ 1000)) := hp 4 rfl
    rw [wantedS_of (d := 7) rfl rfl eg]
    by_cases hg : (decide ((e.who.size : Int) ≤ 1000)) = true
    rotate_left
    · rw [if_neg (by simpa using hg)]
      exact hK _ _ (Below.refl _ _) (fun h => absurd h hg)
    rw [if_pos (by simpa using hg)]
    have e1 : σ 1 = .pointer (some ⟨b, 0, none⟩) := (hσ 1 (by kernel_rfl)).trans Z1.out
    have HK := Lib.hid hK
    have HB := Lib.hid hB
    clear hK hp hσ hB eg
    have HG := Lib.hid hg
    clear hg
    unfold stepS
    go_simp
    exact HK.out _ _ (Below.refl _ _) (fun _ => rfl)
  refine Obs.cons (fun σ a w hB hσ hp K hK => ?_) ?_
  · have eg : σ 7 = .bool (decide ((e.who.size : Int) ≤ 1000)) := hp 4 rfl
    rw [wantedS_of (d := 7) rfl rfl eg]
    by_cases hg : (decide ((e.who.size : Int) ≤ 1000)) = true
    rotate_left
    · rw [if_neg (by simpa using hg)]
      exact hK _ _ (Below.refl _ _) (fun h => absurd h hg)
    rw [if_pos (by simpa using hg)]
    have e8 : σ 8 = .pointer (some ⟨b, 4, none⟩) := (hp 5 rfl) hg
    have hc := cell_later hB (HC.out 4 _ rfl)
    have HK := Lib.hid hK
    have HB := Lib.hid hB
    clear hK hp hσ hB eg
    have HG := Lib.hid hg
    clear hg
    unfold stepS
    go_simp
    exact HK.out _ _ (Below.refl _ _) (fun _ => rfl)
  refine Obs.cons (fun σ a w hB hσ hp K hK => ?_) ?_
  · have eg : σ 7 = .bool (decide ((e.who.size : Int) ≤ 1000)) := hp 4 rfl
    rw [wantedS_of (d := 7) rfl rfl eg]
    by_cases hg : (decide ((e.who.size : Int) ≤ 1000)) = true
    rotate_left
    · rw [if_neg (by simpa using hg)]
      exact hK _ _ (Below.refl _ _) (fun h => absurd h hg)
    rw [if_pos (by simpa using hg)]
    have e9 : σ 9 = .string e.what := (hp 6 rfl) hg
    have HK := Lib.hid hK
    have HB := Lib.hid hB
    clear hK hp hσ hB eg
    have HG := Lib.hid hg
    clear hg
    unfold stepS
    go_simp
    exact HK.out _ _ (Below.refl _ _) (fun _ => rfl)
  refine Obs.cons (fun σ a w hB hσ hp K hK => ?_) ?_
  · have eg : σ 7 = .bool (decide ((e.who.size : Int) ≤ 1000)) := hp 4 rfl
    rw [wantedS_of (d := 7) rfl rfl eg]
    by_cases hg : (decide ((e.who.size : Int) ≤ 1000)) = true
    rotate_left
    · rw [if_neg (by simpa using hg)]
      exact hK _ _ (Below.refl _ _) (fun h => absurd h hg)
    rw [if_pos (by simpa using hg)]
    have e10 : σ 10 = .int .i64 e.what.size := (hp 7 rfl) hg
    have HK := Lib.hid hK
    have HB := Lib.hid hB
    clear hK hp hσ hB eg
    have HG := Lib.hid hg
    clear hg
    unfold stepS
    go_simp
    exact HK.out _ _ (Below.refl _ _) (fun _ => rfl)
  refine Obs.cons (fun σ a w hB hσ hp K hK => ?_) ?_
  · rw [if_pos (by rfl)]
    have e7 : σ 7 = .bool (decide ((e.who.size : Int) ≤ 1000)) := (hp 4 rfl)
    have e11 : ((decide ((e.who.size : Int) ≤ 1000)) = true → σ 11 = .bool (decide ((e.what.size : Int) ≤ 1000))) := hp 8 rfl
    refine stepS_pick _ _ _ rfl _ e7 _ (pick_and e11) ?_
    exact hK _ _ (Below.refl _ _) rfl
  refine Obs.cons (fun σ a w hB hσ hp K hK => ?_) ?_
  · rw [if_pos (by rfl)]
    have e12 : σ 12 = .bool (decide ((e.who.size : Int) ≤ 1000) && decide ((e.what.size : Int) ≤ 1000)) := (hp 9 rfl)
    refine stepS_move _ rfl _ e12 ?_
    exact hK _ _ (Below.refl _ _) rfl
  refine Obs.cons (fun σ a w hB hσ hp K hK => ?_) ?_
  · have eg : σ 13 = .bool (decide ((e.who.size : Int) ≤ 1000) && decide ((e.what.size : Int) ≤ 1000)) := hp 10 rfl
    rw [wantedS_of (d := 13) rfl rfl eg]
    by_cases hg : (decide ((e.who.size : Int) ≤ 1000) && decide ((e.what.size : Int) ≤ 1000)) = true
    rotate_left
    · rw [if_neg (by simpa using hg)]
      exact hK _ _ (Below.refl _ _) (fun h => absurd h hg)
    rw [if_pos (by simpa using hg)]
    have e1 : σ 1 = .pointer (some ⟨b, 0, none⟩) := (hσ 1 (by kernel_rfl)).trans Z1.out
    have HK := Lib.hid hK
    have HB := Lib.hid hB
    clear hK hp hσ hB eg
    have HG := Lib.hid hg
    clear hg
    unfold stepS
    go_simp
    exact HK.out _ _ (Below.refl _ _) (fun _ => rfl)
  refine Obs.cons (fun σ a w hB hσ hp K hK => ?_) ?_
  · have eg : σ 13 = .bool (decide ((e.who.size : Int) ≤ 1000) && decide ((e.what.size : Int) ≤ 1000)) := hp 10 rfl
    rw [wantedS_of (d := 13) rfl rfl eg]
    by_cases hg : (decide ((e.who.size : Int) ≤ 1000) && decide ((e.what.size : Int) ≤ 1000)) = true
    rotate_left
    · rw [if_neg (by simpa using hg)]
      exact hK _ _ (Below.refl _ _) (fun h => absurd h hg)
    rw [if_pos (by simpa using hg)]
    have e14 : σ 14 = .pointer (some ⟨b, 5, none⟩) := (hp 11 rfl) hg
    have hc := cell_later hB (HC.out 5 _ rfl)
    have HK := Lib.hid hK
    have HB := Lib.hid hB
    clear hK hp hσ hB eg
    have HG := Lib.hid hg
    clear hg
    unfold stepS
    go_simp
    exact HK.out _ _ (Below.refl _ _) (fun _ => rfl)
  refine Obs.cons (fun σ a w hB hσ hp K hK => ?_) ?_
  · have eg : σ 13 = .bool (decide ((e.who.size : Int) ≤ 1000) && decide ((e.what.size : Int) ≤ 1000)) := hp 10 rfl
    rw [wantedS_of (d := 13) rfl rfl eg]
    by_cases hg : (decide ((e.who.size : Int) ≤ 1000) && decide ((e.what.size : Int) ≤ 1000)) = true
    rotate_left
    · rw [if_neg (by simpa using hg)]
      exact hK _ _ (Below.refl _ _) (fun h => absurd h hg)
    rw [if_pos (by simpa using hg)]
    have e15 : σ 15 = .slice A e.prev.length c := (hp 12 rfl) hg
    have HK := Lib.hid hK
    have HB := Lib.hid hB
    clear hK hp hσ hB eg
    have HG := Lib.hid hg
    clear hg
    unfold stepS
    go_simp
    exact HK.out _ _ (Below.refl _ _) (fun _ => rfl)
  refine Obs.cons (fun σ a w hB hσ hp K hK => ?_) ?_
  · have eg : σ 13 = .bool (decide ((e.who.size : Int) ≤ 1000) && decide ((e.what.size : Int) ≤ 1000)) := hp 10 rfl
    rw [wantedS_of (d := 13) rfl rfl eg]
    by_cases hg : (decide ((e.who.size : Int) ≤ 1000) && decide ((e.what.size : Int) ≤ 1000)) = true
    rotate_left
    · rw [if_neg (by simpa using hg)]
      exact hK _ _ (Below.refl _ _) (fun h => absurd h hg)
    rw [if_pos (by simpa using hg)]
    have e16 : σ 16 = .int .i64 e.prev.length := (hp 13 rfl) hg
    have HK := Lib.hid hK
    have HB := Lib.hid hB
    clear hK hp hσ hB eg
    have HG := Lib.hid hg
    clear hg
    unfold stepS
    go_simp
    exact HK.out _ _ (Below.refl _ _) (fun _ => rfl)
  refine Obs.cons (fun σ a w hB hσ hp K hK => ?_) ?_
  · rw [if_pos (by rfl)]
    have e13 : σ 13 = .bool (decide ((e.who.size : Int) ≤ 1000) && decide ((e.what.size : Int) ≤ 1000)) := (hp 10 rfl)
    have e17 : ((decide ((e.who.size : Int) ≤ 1000) && decide ((e.what.size : Int) ≤ 1000)) = true → σ 17 = .bool (decide ((e.prev.length : Int) ≤ 100))) := hp 14 rfl
    refine stepS_pick _ _ _ rfl _ e13 _ (pick_and e17) ?_
    exact hK _ _ (Below.refl _ _) rfl
  refine Obs.cons (fun σ a w hB hσ hp K hK => ?_) ?_
  · rw [if_pos (by rfl)]
    have e18 : σ 18 = .bool ((decide ((e.who.size : Int) ≤ 1000) && decide ((e.what.size : Int) ≤ 1000)) && decide ((e.prev.length : Int) ≤ 100)) := (hp 15 rfl)
    refine stepS_move _ rfl _ e18 ?_
    exact hK _ _ (Below.refl _ _) rfl
  refine Obs.cons (fun σ a w hB hσ hp K hK => ?_) ?_
  · have eg : σ 19 = .bool ((decide ((e.who.size : Int) ≤ 1000) && decide ((e.what.size : Int) ≤ 1000)) && decide ((e.prev.length : Int) ≤ 100)) := hp 16 rfl
    rw [wantedS_of (d := 19) rfl rfl eg]
    by_cases hg : ((decide ((e.who.size : Int) ≤ 1000) && decide ((e.what.size : Int) ≤ 1000)) && decide ((e.prev.length : Int) ≤ 100)) = true
    rotate_left
    · rw [if_neg (by simpa using hg)]
      exact hK _ _ (Below.refl _ _) (fun h => absurd h hg)
    rw [if_pos (by simpa using hg)]
    have e1 : σ 1 = .pointer (some ⟨b, 0, none⟩) := (hσ 1 (by kernel_rfl)).trans Z1.out
    have HK := Lib.hid hK
    have HB := Lib.hid hB
    clear hK hp hσ hB eg
    have HG := Lib.hid hg
    clear hg
    unfold stepS
    go_simp
    exact HK.out _ _ (Below.refl _ _) (fun _ => rfl)
  refine Obs.cons (fun σ a w hB hσ hp K hK => ?_) ?_
  · have eg : σ 19 = .bool ((decide ((e.who.size : Int) ≤ 1000) && decide ((e.what.size : Int) ≤ 1000)) && decide ((e.prev.length : Int) ≤ 100)) := hp 16 rfl
    rw [wantedS_of (d := 19) rfl rfl eg]
    by_cases hg : ((decide ((e.who.size : Int) ≤ 1000) && decide ((e.what.size : Int) ≤ 1000)) && decide ((e.prev.length : Int) ≤ 100)) = true
    rotate_left
    · rw [if_neg (by simpa using hg)]
      exact hK _ _ (Below.refl _ _) (fun h => absurd h hg)
    rw [if_pos (by simpa using hg)]
    have e20 : σ 20 = .pointer (some ⟨b, 6, none⟩) := (hp 17 rfl) hg
    have hc := cell_later hB (HC.out 6 _ rfl)
    have HK := Lib.hid hK
    have HB := Lib.hid hB
    clear hK hp hσ hB eg
    have HG := Lib.hid hg
    clear hg
    unfold stepS
    go_simp
    exact HK.out _ _ (Below.refl _ _) (fun _ => rfl)
  refine Obs.cons (fun σ a w hB hσ hp K hK => ?_) ?_
  · have eg : σ 19 = .bool ((decide ((e.who.size : Int) ≤ 1000) && decide ((e.what.size : Int) ≤ 1000)) && decide ((e.prev.length : Int) ≤ 100)) := hp 16 rfl
    rw [wantedS_of (d := 19) rfl rfl eg]
    by_cases hg : ((decide ((e.who.size : Int) ≤ 1000) && decide ((e.what.size : Int) ≤ 1000)) && decide ((e.prev.length : Int) ≤ 100)) = true
    rotate_left
    · rw [if_neg (by simpa using hg)]
      exact hK _ _ (Below.refl _ _) (fun h => absurd h hg)
    rw [if_pos (by simpa using hg)]
    have e21 : σ 21 = .slice B e.hash.length d := (hp 18 rfl) hg
    have HK := Lib.hid hK
    have HB := Lib.hid hB
    clear hK hp hσ hB eg
    have HG := Lib.hid hg
    clear hg
    unfold stepS
    go_simp
    exact HK.out _ _ (Below.refl _ _) (fun _ => rfl)
  refine Obs.cons (fun σ a w hB hσ hp K hK => ?_) ?_
  · have eg : σ 19 = .bool ((decide ((e.who.size : Int) ≤ 1000) && decide ((e.what.size : Int) ≤ 1000)) && decide ((e.prev.length : Int) ≤ 100)) := hp 16 rfl
    rw [wantedS_of (d := 19) rfl rfl eg]
    by_cases hg : ((decide ((e.who.size : Int) ≤ 1000) && decide ((e.what.size : Int) ≤ 1000)) && decide ((e.prev.length : Int) ≤ 100)) = true
    rotate_left
    · rw [if_neg (by simpa using hg)]
      exact hK _ _ (Below.refl _ _) (fun h => absurd h hg)
    rw [if_pos (by simpa using hg)]
    have e22 : σ 22 = .int .i64 e.hash.length := (hp 19 rfl) hg
    have HK := Lib.hid hK
    have HB := Lib.hid hB
    clear hK hp hσ hB eg
    have HG := Lib.hid hg
    clear hg
    unfold stepS
    go_simp
    exact HK.out _ _ (Below.refl _ _) (fun _ => rfl)
  refine Obs.cons (fun σ a w hB hσ hp K hK => ?_) ?_
  · rw [if_pos (by rfl)]
    have e19 : σ 19 = .bool ((decide ((e.who.size : Int) ≤ 1000) && decide ((e.what.size : Int) ≤ 1000)) && decide ((e.prev.length : Int) ≤ 100)) := (hp 16 rfl)
    have e23 : (((decide ((e.who.size : Int) ≤ 1000) && decide ((e.what.size : Int) ≤ 1000)) && decide ((e.prev.length : Int) ≤ 100)) = true → σ 23 = .bool (decide ((e.hash.length : Int) ≤ 100))) := hp 20 rfl
    refine stepS_pick _ _ _ rfl _ e19 _ (pick_and e23) ?_
    exact hK _ _ (Below.refl _ _) rfl
  refine Obs.cons (fun σ a w hB hσ hp K hK => ?_) ?_
  · rw [if_pos (by rfl)]
    have e24 : σ 24 = .bool (((decide ((e.who.size : Int) ≤ 1000) && decide ((e.what.size : Int) ≤ 1000)) && decide ((e.prev.length : Int) ≤ 100)) && decide ((e.hash.length : Int) ≤ 100)) := (hp 21 rfl)
    refine stepS_assign _ rfl _ e24 ?_
    exact hK _ _ (Below.refl _ _) rfl
  · exact Obs.nil _
  · intro σ w hB hf
    have f0 : σ 3 = .pointer (some ⟨b, 3, none⟩) := hf 0 (by decide)
    have f1 : σ 4 = .string e.who := hf 1 (by decide)
    have f2 : σ 5 = .int .i64 e.who.size := hf 2 (by decide)
    have f3 : σ 6 = .bool (decide ((e.who.size : Int) ≤ 1000)) := hf 3 (by decide)
    have f4 : σ 7 = .bool (decide ((e.who.size : Int) ≤ 1000)) := hf 4 (by decide)
    have f5 : ((decide ((e.who.size : Int) ≤ 1000)) = true → σ 8 = .pointer (some ⟨b, 4, none⟩)) := hf 5 (by decide)
    have f6 : ((decide ((e.who.size : Int) ≤ 1000)) = true → σ 9 = .string e.what) := hf 6 (by decide)
    have f7 : ((decide ((e.who.size : Int) ≤ 1000)) = true → σ 10 = .int .i64 e.what.size) := hf 7 (by decide)
    have f8 : ((decide ((e.who.size : Int) ≤ 1000)) = true → σ 11 = .bool (decide ((e.what.size : Int) ≤ 1000))) := hf 8 (by decide)
    have f9 : σ 12 = .bool (decide ((e.who.size : Int) ≤ 1000) && decide ((e.what.size : Int) ≤ 1000)) := hf 9 (by decide)
    have f10 : σ 13 = .bool (decide ((e.who.size : Int) ≤ 1000) && decide ((e.what.size : Int) ≤ 1000)) := hf 10 (by decide)
    have f11 : ((decide ((e.who.size : Int) ≤ 1000) && decide ((e.what.size : Int) ≤ 1000)) = true → σ 14 = .pointer (some ⟨b, 5, none⟩)) := hf 11 (by decide)
    have f12 : ((decide ((e.who.size : Int) ≤ 1000) && decide ((e.what.size : Int) ≤ 1000)) = true → σ 15 = .slice A e.prev.length c) := hf 12 (by decide)
    have f13 : ((decide ((e.who.size : Int) ≤ 1000) && decide ((e.what.size : Int) ≤ 1000)) = true → σ 16 = .int .i64 e.prev.length) := hf 13 (by decide)
    have f14 : ((decide ((e.who.size : Int) ≤ 1000) && decide ((e.what.size : Int) ≤ 1000)) = true → σ 17 = .bool (decide ((e.prev.length : Int) ≤ 100))) := hf 14 (by decide)
    have f15 : σ 18 = .bool ((decide ((e.who.size : Int) ≤ 1000) && decide ((e.what.size : Int) ≤ 1000)) && decide ((e.prev.length : Int) ≤ 100)) := hf 15 (by decide)
    have f16 : σ 19 = .bool ((decide ((e.who.size : Int) ≤ 1000) && decide ((e.what.size : Int) ≤ 1000)) && decide ((e.prev.length : Int) ≤ 100)) := hf 16 (by decide)
    have f17 : (((decide ((e.who.size : Int) ≤ 1000) && decide ((e.what.size : Int) ≤ 1000)) && decide ((e.prev.length : Int) ≤ 100)) = true → σ 20 = .pointer (some ⟨b, 6, none⟩)) := hf 17 (by decide)
    have f18 : (((decide ((e.who.size : Int) ≤ 1000) && decide ((e.what.size : Int) ≤ 1000)) && decide ((e.prev.length : Int) ≤ 100)) = true → σ 21 = .slice B e.hash.length d) := hf 18 (by decide)
    have f19 : (((decide ((e.who.size : Int) ≤ 1000) && decide ((e.what.size : Int) ≤ 1000)) && decide ((e.prev.length : Int) ≤ 100)) = true → σ 22 = .int .i64 e.hash.length) := hf 19 (by decide)
    have f20 : (((decide ((e.who.size : Int) ≤ 1000) && decide ((e.what.size : Int) ≤ 1000)) && decide ((e.prev.length : Int) ≤ 100)) = true → σ 23 = .bool (decide ((e.hash.length : Int) ≤ 100))) := hf 20 (by decide)
    have f21 : σ 24 = .bool (((decide ((e.who.size : Int) ≤ 1000) && decide ((e.what.size : Int) ≤ 1000)) && decide ((e.prev.length : Int) ≤ 100)) && decide ((e.hash.length : Int) ≤ 100)) := hf 21 (by decide)
    have f22 : σ 2 = .bool (((decide ((e.who.size : Int) ≤ 1000) && decide ((e.what.size : Int) ≤ 1000)) && decide ((e.prev.length : Int) ≤ 100)) && decide ((e.hash.length : Int) ≤ 100)) := hf 22 (by decide)
    have hq := HQ.out (σ 8) (σ 9) (σ 10) (σ 11) (σ 14) (σ 15) (σ 16) (σ 17) (σ 20) (σ 21) (σ 22) (σ 23) w hB f5 f6 f7 f8 f11 f12 f13 f14 f17 f18 f19 f20
    simp only [dstsL, List.filterMap_cons, List.filterMap_nil, setAll]
    rw [f0, f1, f2, f3, f4, f9, f10, f15, f16, f21, f22]
    simp only [Act.put] at hq
    exact hq
set_option maxRecDepth 100000 in
set_option maxHeartbeats 1000000 in
theorem short_any (e : Ent) (A : Option Addr) (c : Nat) (B : Option Addr) (d : Nat) (w : World) :
    Calls Tryd.prog 26 #[.agg #[.int .i64 e.no, .int .i64 e.time, .int .i64 e.code, .string e.who, .string e.what, .slice A e.prev.length c, .slice B e.hash.length d]] w fun r w' => r = .returned (.bool (shortB e)) ∧ Below w.heap.size w w' := by
  go_enter Tryd.func26, Tryd.ntmps26
  go_upto_region 1 with (fail)
  have q1 := entAt (e := e) (A := A) (c := c) (B := B) (d := d) (heap_alloc_new w (.cells (entCells e A c B d).toArray 30))
  refine short_r1 e A c B d w.heap.size (by rfl) q1 (by rfl) ?_
  clear q1
  intros
  rename Below _ _ _ => hB
  have hb := ext_trans (alloc_ext w _) hB
  have HB := Lib.hid hb
  clear hB hb
  simp only [Act.put, List.setIfInBounds_toArray, List.set_cons_zero, List.set_cons_succ]
  go_wp2_with fail
  go_ret
  exact ⟨rfl, HB.out⟩
set_option maxRecDepth 100000 in
set_option maxHeartbeats 2000000 in
theorem same_r1 {Q : Exit → Act → World → Prop} {a0 : Act} {w0 : World} (e : Ent) (A : Option Addr) (c : Nat) (B : Option Addr) (d : Nat) (b : Nat) (y : Ent) (A2 : Option Addr) (c2 : Nat) (B2 : Option Addr) (d2 : Nat) (b2 : Nat) (z2 : a0.tmps.getD 2 undef = .pointer (some ⟨b, 0, none⟩)) (z3 : a0.tmps.getD 3 undef = .pointer (some ⟨b2, 0, none⟩)) (hHC : ∀ j v, (entCells e A c B d)[j]? = some v → w0.cell? ⟨b, j, none⟩ = some v) (hHD : ∀ j v, (entCells y A2 c2 B2 d2)[j]? = some v → w0.cell? ⟨b2, j, none⟩ = some v) (hHI : EntIn w0 e A c B d) (hHJ : EntIn w0 y A2 c2 B2 d2) (zsz : a0.tmps.size = 56)
    (hQ : ∀ (v6 v7 v8 v9 v10 v13 v14 v15 v16 v17 v20 v21 v22 v23 v24 v27 v28 v29 v30 v31 v34 v35 v36 v37 v38 v39 v40 v43 v44 v45 v46 v47 v48 v49 : Value) (w1 : World), Below w0.heap.size w0 w1 → ((e.no == y.no) = true → v6 = .pointer (some ⟨b, 1, none⟩)) → ((e.no == y.no) = true → v7 = .int .i64 e.time) → ((e.no == y.no) = true → v8 = .pointer (some ⟨b2, 1, none⟩)) → ((e.no == y.no) = true → v9 = .int .i64 y.time) → ((e.no == y.no) = true → v10 = .bool (e.time == y.time)) → ((e.no == y.no && e.time == y.time) = true → v13 = .pointer (some ⟨b, 2, none⟩)) → ((e.no == y.no && e.time == y.time) = true → v14 = .int .i64 e.code) → ((e.no == y.no && e.time == y.time) = true → v15 = .pointer (some ⟨b2, 2, none⟩)) → ((e.no == y.no && e.time == y.time) = true → v16 = .int .i64 y.code) → ((e.no == y.no && e.time == y.time) = true → v17 = .bool (e.code == y.code)) → (((e.no == y.no && e.time == y.time) && e.code == y.code) = true → v20 = .pointer (some ⟨b, 3, none⟩)) → (((e.no == y.no && e.time == y.time) && e.code == y.code) = true → v21 = .string e.who) → (((e.no == y.no && e.time == y.time) && e.code == y.code) = true → v22 = .pointer (some ⟨b2, 3, none⟩)) → (((e.no == y.no && e.time == y.time) && e.code == y.code) = true → v23 = .string y.who) → (((e.no == y.no && e.time == y.time) && e.code == y.code) = true → v24 = .bool (e.who.toList == y.who.toList)) → ((((e.no == y.no && e.time == y.time) && e.code == y.code) && e.who.toList == y.who.toList) = true → v27 = .pointer (some ⟨b, 4, none⟩)) → ((((e.no == y.no && e.time == y.time) && e.code == y.code) && e.who.toList == y.who.toList) = true → v28 = .string e.what) → ((((e.no == y.no && e.time == y.time) && e.code == y.code) && e.who.toList == y.who.toList) = true → v29 = .pointer (some ⟨b2, 4, none⟩)) → ((((e.no == y.no && e.time == y.time) && e.code == y.code) && e.who.toList == y.who.toList) = true → v30 = .string y.what) → ((((e.no == y.no && e.time == y.time) && e.code == y.code) && e.who.toList == y.who.toList) = true → v31 = .bool (e.what.toList == y.what.toList)) → (((((e.no == y.no && e.time == y.time) && e.code == y.code) && e.who.toList == y.who.toList) && e.what.toList == y.what.toList) = true → v34 = .pointer (some ⟨b, 5, none⟩)) → (((((e.no == y.no && e.time == y.time) && e.code == y.code) && e.who.toList == y.who.toList) && e.what.toList == y.what.toList) = true → v35 = .slice A e.prev.length c) → (((((e.no == y.no && e.time == y.time) && e.code == y.code) && e.who.toList == y.who.toList) && e.what.toList == y.what.toList) = true → v36 = .string ⟨(e.prev).toArray⟩) → (((((e.no == y.no && e.time == y.time) && e.code == y.code) && e.who.toList == y.who.toList) && e.what.toList == y.what.toList) = true → v37 = .pointer (some ⟨b2, 5, none⟩)) → (((((e.no == y.no && e.time == y.time) && e.code == y.code) && e.who.toList == y.who.toList) && e.what.toList == y.what.toList) = true → v38 = .slice A2 y.prev.length c2) → (((((e.no == y.no && e.time == y.time) && e.code == y.code) && e.who.toList == y.who.toList) && e.what.toList == y.what.toList) = true → v39 = .string ⟨(y.prev).toArray⟩) → (((((e.no == y.no && e.time == y.time) && e.code == y.code) && e.who.toList == y.who.toList) && e.what.toList == y.what.toList) = true → v40 = .bool (e.prev == y.prev)) → ((((((e.no == y.no && e.time == y.time) && e.code == y.code) && e.who.toList == y.who.toList) && e.what.toList == y.what.toList) && e.prev == y.prev) = true → v43 = .pointer (some ⟨b, 6, none⟩)) → ((((((e.no == y.no && e.time == y.time) && e.code == y.code) && e.who.toList == y.who.toList) && e.what.toList == y.what.toList) && e.prev == y.prev) = true → v44 = .slice B e.hash.length d) → ((((((e.no == y.no && e.time == y.time) && e.code == y.code) && e.who.toList == y.who.toList) && e.what.toList == y.what.toList) && e.prev == y.prev) = true → v45 = .string ⟨(e.hash).toArray⟩) → ((((((e.no == y.no && e.time == y.time) && e.code == y.code) && e.who.toList == y.who.toList) && e.what.toList == y.what.toList) && e.prev == y.prev) = true → v46 = .pointer (some ⟨b2, 6, none⟩)) → ((((((e.no == y.no && e.time == y.time) && e.code == y.code) && e.who.toList == y.who.toList) && e.what.toList == y.what.toList) && e.prev == y.prev) = true → v47 = .slice B2 y.hash.length d2) → ((((((e.no == y.no && e.time == y.time) && e.code == y.code) && e.who.toList == y.who.toList) && e.what.toList == y.what.toList) && e.prev == y.prev) = true → v48 = .string ⟨(y.hash).toArray⟩) → ((((((e.no == y.no && e.time == y.time) && e.code == y.code) && e.who.toList == y.who.toList) && e.what.toList == y.what.toList) && e.prev == y.prev) = true → v49 = .bool (e.hash == y.hash)) → Q .normal ((((((((((((((((((((((((((((((((((((((((((((((((((((a0.put (some 5) (.pointer (some ⟨b, 0, none⟩))).put (some 6) (.int .i64 e.no)).put (some 7) (.pointer (some ⟨b2, 0, none⟩))).put (some 8) (.int .i64 y.no)).put (some 9) (.bool (e.no == y.no))).put (some 10) (.bool (e.no == y.no))).put (some 11) v6).put (some 12) v7).put (some 13) v8).put (some 14) v9).put (some 15) v10).put (some 16) (.bool (e.no == y.no && e.time == y.time))).put (some 17) (.bool (e.no == y.no && e.time == y.time))).put (some 18) v13).put (some 19) v14).put (some 20) v15).put (some 21) v16).put (some 22) v17).put (some 23) (.bool ((e.no == y.no && e.time == y.time) && e.code == y.code))).put (some 24) (.bool ((e.no == y.no && e.time == y.time) && e.code == y.code))).put (some 25) v20).put (some 26) v21).put (some 27) v22).put (some 28) v23).put (some 29) v24).put (some 30) (.bool (((e.no == y.no && e.time == y.time) && e.code == y.code) && e.who.toList == y.who.toList))).put (some 31) (.bool (((e.no == y.no && e.time == y.time) && e.code == y.code) && e.who.toList == y.who.toList))).put (some 32) v27).put (some 33) v28).put (some 34) v29).put (some 35) v30).put (some 36) v31).put (some 37) (.bool ((((e.no == y.no && e.time == y.time) && e.code == y.code) && e.who.toList == y.who.toList) && e.what.toList == y.what.toList))).put (some 38) (.bool ((((e.no == y.no && e.time == y.time) && e.code == y.code) && e.who.toList == y.who.toList) && e.what.toList == y.what.toList))).put (some 39) v34).put (some 40) v35).put (some 41) v36).put (some 42) v37).put (some 43) v38).put (some 44) v39).put (some 45) v40).put (some 46) (.bool (((((e.no == y.no && e.time == y.time) && e.code == y.code) && e.who.toList == y.who.toList) && e.what.toList == y.what.toList) && e.prev == y.prev))).put (some 47) (.bool (((((e.no == y.no && e.time == y.time) && e.code == y.code) && e.who.toList == y.who.toList) && e.what.toList == y.what.toList) && e.prev == y.prev))).put (some 48) v43).put (some 49) v44).put (some 50) v45).put (some 51) v46).put (some 52) v47).put (some 53) v48).put (some 54) v49).put (some 55) (.bool ((((((e.no == y.no && e.time == y.time) && e.code == y.code) && e.who.toList == y.who.toList) && e.what.toList == y.what.toList) && e.prev == y.prev) && e.hash == y.hash))).put (some 4) (.bool ((((((e.no == y.no && e.time == y.time) && e.code == y.code) && e.who.toList == y.who.toList) && e.what.toList == y.what.toList) && e.prev == y.prev) && e.hash == y.hash))) w1) :
    (regOf Tryd.f13 1).wp Tryd.prog Q a0 w0 := by
  have Z2 := Lib.hid z2
  clear z2
  have Z3 := Lib.hid z3
  clear z3
  have HC := Lib.hid hHC
  clear hHC
  have HD := Lib.hid hHD
  clear hHD
  have HI := Lib.hid hHI
  clear hHI
  have HJ := Lib.hid hHJ
  clear hHJ
  have HQ := Lib.hid hQ
  clear hQ
  conv => arg 2; whnf
  refine wp_region_facts false (by kernel_rfl) (by kernel_rfl) 56 (by kernel_rfl) zsz (by kernel_rfl) (Below w0.heap.size w0) (fun w w' => Below w.heap.size w w') (drewIf_ext _ _) (fun _ _ h k => ext_trans h k) (fun i v w => match i with
    | 0 => v = .pointer (some ⟨b, 0, none⟩)
    | 1 => v = .int .i64 e.no
    | 2 => v = .pointer (some ⟨b2, 0, none⟩)
    | 3 => v = .int .i64 y.no
    | 4 => v = .bool (e.no == y.no)
    | 5 => v = .bool (e.no == y.no)
    | 6 => ((e.no == y.no) = true → v = .pointer (some ⟨b, 1, none⟩))
    | 7 => ((e.no == y.no) = true → v = .int .i64 e.time)
    | 8 => ((e.no == y.no) = true → v = .pointer (some ⟨b2, 1, none⟩))
    | 9 => ((e.no == y.no) = true → v = .int .i64 y.time)
    | 10 => ((e.no == y.no) = true → v = .bool (e.time == y.time))
    | 11 => v = .bool (e.no == y.no && e.time == y.time)
    | 12 => v = .bool (e.no == y.no && e.time == y.time)
    | 13 => ((e.no == y.no && e.time == y.time) = true → v = .pointer (some ⟨b, 2, none⟩))
    | 14 => ((e.no == y.no && e.time == y.time) = true → v = .int .i64 e.code)
    | 15 => ((e.no == y.no && e.time == y.time) = true → v = .pointer (some ⟨b2, 2, none⟩))
    | 16 => ((e.no == y.no && e.time == y.time) = true → v = .int .i64 y.code)
    | 17 => ((e.no == y.no && e.time == y.time) = true → v = .bool (e.code == y.code))
    | 18 => v = .bool ((e.no == y.no && e.time == y.time) && e.code == y.code)
    | 19 => v = .bool ((e.no == y.no && e.time == y.time) && e.code == y.code)
    | 20 => (((e.no == y.no && e.time == y.time) && e.code == y.code) = true → v = .pointer (some ⟨b, 3, none⟩))
    | 21 => (((e.no == y.no && e.time == y.time) && e.code == y.code) = true → v = .string e.who)
    | 22 => (((e.no == y.no && e.time == y.time) && e.code == y.code) = true → v = .pointer (some ⟨b2, 3, none⟩))
    | 23 => (((e.no == y.no && e.time == y.time) && e.code == y.code) = true → v = .string y.who)
    | 24 => (((e.no == y.no && e.time == y.time) && e.code == y.code) = true → v = .bool (e.who.toList == y.who.toList))
    | 25 => v = .bool (((e.no == y.no && e.time == y.time) && e.code == y.code) && e.who.toList == y.who.toList)
    | 26 => v = .bool (((e.no == y.no && e.time == y.time) && e.code == y.code) && e.who.toList == y.who.toList)
    | 27 => ((((e.no == y.no && e.time == y.time) && e.code == y.code) && e.who.toList == y.who.toList) = true → v = .pointer (some ⟨b, 4, none⟩))
    | 28 => ((((e.no == y.no && e.time == y.time) && e.code == y.code) && e.who.toList == y.who.toList) = true → v = .string e.what)
    | 29 => ((((e.no == y.no && e.time == y.time) && e.code == y.code) && e.who.toList == y.who.toList) = true → v = .pointer (some ⟨b2, 4, none⟩))
    | 30 => ((((e.no == y.no && e.time == y.time) && e.code == y.code) && e.who.toList == y.who.toList) = true → v = .string y.what)
    | 31 => ((((e.no == y.no && e.time == y.time) && e.code == y.code) && e.who.toList == y.who.toList) = true → v = .bool (e.what.toList == y.what.toList))
    | 32 => v = .bool ((((e.no == y.no && e.time == y.time) && e.code == y.code) && e.who.toList == y.who.toList) && e.what.toList == y.what.toList)
    | 33 => v = .bool ((((e.no == y.no && e.time == y.time) && e.code == y.code) && e.who.toList == y.who.toList) && e.what.toList == y.what.toList)
    | 34 => (((((e.no == y.no && e.time == y.time) && e.code == y.code) && e.who.toList == y.who.toList) && e.what.toList == y.what.toList) = true → v = .pointer (some ⟨b, 5, none⟩))
    | 35 => (((((e.no == y.no && e.time == y.time) && e.code == y.code) && e.who.toList == y.who.toList) && e.what.toList == y.what.toList) = true → v = .slice A e.prev.length c)
    | 36 => (((((e.no == y.no && e.time == y.time) && e.code == y.code) && e.who.toList == y.who.toList) && e.what.toList == y.what.toList) = true → v = .string ⟨(e.prev).toArray⟩)
    | 37 => (((((e.no == y.no && e.time == y.time) && e.code == y.code) && e.who.toList == y.who.toList) && e.what.toList == y.what.toList) = true → v = .pointer (some ⟨b2, 5, none⟩))
    | 38 => (((((e.no == y.no && e.time == y.time) && e.code == y.code) && e.who.toList == y.who.toList) && e.what.toList == y.what.toList) = true → v = .slice A2 y.prev.length c2)
    | 39 => (((((e.no == y.no && e.time == y.time) && e.code == y.code) && e.who.toList == y.who.toList) && e.what.toList == y.what.toList) = true → v = .string ⟨(y.prev).toArray⟩)
    | 40 => (((((e.no == y.no && e.time == y.time) && e.code == y.code) && e.who.toList == y.who.toList) && e.what.toList == y.what.toList) = true → v = .bool (e.prev == y.prev))
    | 41 => v = .bool (((((e.no == y.no && e.time == y.time) && e.code == y.code) && e.who.toList == y.who.toList) && e.what.toList == y.what.toList) && e.prev == y.prev)
    | 42 => v = .bool (((((e.no == y.no && e.time == y.time) && e.code == y.code) && e.who.toList == y.who.toList) && e.what.toList == y.what.toList) && e.prev == y.prev)
    | 43 => ((((((e.no == y.no && e.time == y.time) && e.code == y.code) && e.who.toList == y.who.toList) && e.what.toList == y.what.toList) && e.prev == y.prev) = true → v = .pointer (some ⟨b, 6, none⟩))
    | 44 => ((((((e.no == y.no && e.time == y.time) && e.code == y.code) && e.who.toList == y.who.toList) && e.what.toList == y.what.toList) && e.prev == y.prev) = true → v = .slice B e.hash.length d)
    | 45 => ((((((e.no == y.no && e.time == y.time) && e.code == y.code) && e.who.toList == y.who.toList) && e.what.toList == y.what.toList) && e.prev == y.prev) = true → v = .string ⟨(e.hash).toArray⟩)
    | 46 => ((((((e.no == y.no && e.time == y.time) && e.code == y.code) && e.who.toList == y.who.toList) && e.what.toList == y.what.toList) && e.prev == y.prev) = true → v = .pointer (some ⟨b2, 6, none⟩))
    | 47 => ((((((e.no == y.no && e.time == y.time) && e.code == y.code) && e.who.toList == y.who.toList) && e.what.toList == y.what.toList) && e.prev == y.prev) = true → v = .slice B2 y.hash.length d2)
    | 48 => ((((((e.no == y.no && e.time == y.time) && e.code == y.code) && e.who.toList == y.who.toList) && e.what.toList == y.what.toList) && e.prev == y.prev) = true → v = .string ⟨(y.hash).toArray⟩)
    | 49 => ((((((e.no == y.no && e.time == y.time) && e.code == y.code) && e.who.toList == y.who.toList) && e.what.toList == y.what.toList) && e.prev == y.prev) = true → v = .bool (e.hash == y.hash))
    | 50 => v = .bool ((((((e.no == y.no && e.time == y.time) && e.code == y.code) && e.who.toList == y.who.toList) && e.what.toList == y.what.toList) && e.prev == y.prev) && e.hash == y.hash)
    | 51 => v = .bool ((((((e.no == y.no && e.time == y.time) && e.code == y.code) && e.who.toList == y.who.toList) && e.what.toList == y.what.toList) && e.prev == y.prev) && e.hash == y.hash)
    | _ => True) ?_ ?_ ?_
  · intro i v w w' h hb
    match i, h with
    | 0, h => exact h
    | 1, h => exact h
    | 2, h => exact h
    | 3, h => exact h
    | 4, h => exact h
    | 5, h => exact h
    | 6, h => exact h
    | 7, h => exact h
    | 8, h => exact h
    | 9, h => exact h
    | 10, h => exact h
    | 11, h => exact h
    | 12, h => exact h
    | 13, h => exact h
    | 14, h => exact h
    | 15, h => exact h
    | 16, h => exact h
    | 17, h => exact h
    | 18, h => exact h
    | 19, h => exact h
    | 20, h => exact h
    | 21, h => exact h
    | 22, h => exact h
    | 23, h => exact h
    | 24, h => exact h
    | 25, h => exact h
    | 26, h => exact h
    | 27, h => exact h
    | 28, h => exact h
    | 29, h => exact h
    | 30, h => exact h
    | 31, h => exact h
    | 32, h => exact h
    | 33, h => exact h
    | 34, h => exact h
    | 35, h => exact h
    | 36, h => exact h
    | 37, h => exact h
    | 38, h => exact h
    | 39, h => exact h
    | 40, h => exact h
    | 41, h => exact h
    | 42, h => exact h
    | 43, h => exact h
    | 44, h => exact h
    | 45, h => exact h
    | 46, h => exact h
    | 47, h => exact h
    | 48, h => exact h
    | 49, h => exact h
    | 50, h => exact h
    | 51, h => exact h
    | _ + 52, _ => trivial
  refine Obs.cons (fun σ a w hB hσ hp K hK => ?_) ?_
  · rw [if_pos (by rfl)]
    have e2 : σ 2 = .pointer (some ⟨b, 0, none⟩) := (hσ 2 (by kernel_rfl)).trans Z2.out
    have HK := Lib.hid hK
    have HB := Lib.hid hB
    clear hK hp hσ hB
    unfold stepS
    go_simp
    exact HK.out _ _ (Below.refl _ _) rfl
  refine Obs.cons (fun σ a w hB hσ hp K hK => ?_) ?_
  · rw [if_pos (by rfl)]
    have e5 : σ 5 = .pointer (some ⟨b, 0, none⟩) := (hp 0 rfl)
    have hc := cell_later hB (HC.out 0 _ rfl)
    have HK := Lib.hid hK
    have HB := Lib.hid hB
    clear hK hp hσ hB
    unfold stepS
    go_simp
    exact HK.out _ _ (Below.refl _ _) rfl
  refine Obs.cons (fun σ a w hB hσ hp K hK => ?_) ?_
  · rw [if_pos (by rfl)]
    have e3 : σ 3 = .pointer (some ⟨b2, 0, none⟩) := (hσ 3 (by kernel_rfl)).trans Z3.out
    have HK := Lib.hid hK
    have HB := Lib.hid hB
    clear hK hp hσ hB
    unfold stepS
    go_simp
    exact HK.out _ _ (Below.refl _ _) rfl
  refine Obs.cons (fun σ a w hB hσ hp K hK => ?_) ?_
  · rw [if_pos (by rfl)]
    have e7 : σ 7 = .pointer (some ⟨b2, 0, none⟩) := (hp 2 rfl)
    have hc := cell_later hB (HD.out 0 _ rfl)
    have HK := Lib.hid hK
    have HB := Lib.hid hB
    clear hK hp hσ hB
    unfold stepS
    go_simp
    exact HK.out _ _ (Below.refl _ _) rfl
  refine Obs.cons (fun σ a w hB hσ hp K hK => ?_) ?_
  · rw [if_pos (by rfl)]
    have e6 : σ 6 = .int .i64 e.no := (hp 1 rfl)
    have e8 : σ 8 = .int .i64 y.no := (hp 3 rfl)
    have HK := Lib.hid hK
    have HB := Lib.hid hB
    clear hK hp hσ hB
    unfold stepS
    go_simp
    exact HK.out _ _ (Below.refl _ _) rfl
  refine Obs.cons (fun σ a w hB hσ hp K hK => ?_) ?_
  · rw [if_pos (by rfl)]
    have e9 : σ 9 = .bool (e.no == y.no) := (hp 4 rfl)
    refine stepS_move _ rfl _ e9 ?_
    exact hK _ _ (Below.refl _ _) rfl
  refine Obs.cons (fun σ a w hB hσ hp K hK => ?_) ?_
  · have eg : σ 10 = .bool (e.no == y.no) := hp 5 rfl
    rw [wantedS_of (d := 10) rfl rfl eg]
    by_cases hg : (e.no == y.no) = true
    rotate_left
    · rw [if_neg (by simpa using hg)]
      exact hK _ _ (Below.refl _ _) (fun h => absurd h hg)
    rw [if_pos (by simpa using hg)]
    have e2 : σ 2 = .pointer (some ⟨b, 0, none⟩) := (hσ 2 (by kernel_rfl)).trans Z2.out
    have HK := Lib.hid hK
    have HB := Lib.hid hB
    clear hK hp hσ hB eg
    have HG := Lib.hid hg
    clear hg
    unfold stepS
    go_simp
    exact HK.out _ _ (Below.refl _ _) (fun _ => rfl)
  refine Obs.cons (fun σ a w hB hσ hp K hK => ?_) ?_
  · have eg : σ 10 = .bool (e.no == y.no) := hp 5 rfl
    rw [wantedS_of (d := 10) rfl rfl eg]
    by_cases hg : (e.no == y.no) = true
    rotate_left
    · rw [if_neg (by simpa using hg)]
      exact hK _ _ (Below.refl _ _) (fun h => absurd h hg)
    rw [if_pos (by simpa using hg)]
    have e11 : σ 11 = .pointer (some ⟨b, 1, none⟩) := (hp 6 rfl) hg
    have hc := cell_later hB (HC.out 1 _ rfl)
    have HK := Lib.hid hK
    have HB := Lib.hid hB
    clear hK hp hσ hB eg
    have HG := Lib.hid hg
    clear hg
    unfold stepS
    go_simp
    exact HK.out _ _ (Below.refl _ _) (fun _ => rfl)
  refine Obs.cons (fun σ a w hB hσ hp K hK => ?_) ?_
  · have eg : σ 10 = .bool (e.no == y.no) := hp 5 rfl
    rw [wantedS_of (d := 10) rfl rfl eg]
    by_cases hg : (e.no == y.no) = true
    rotate_left
    · rw [if_neg (by simpa using hg)]
      exact hK _ _ (Below.refl _ _) (fun h => absurd h hg)
    rw [if_pos (by simpa using hg)]
    have e3 : σ 3 = .pointer (some ⟨b2, 0, none⟩) := (hσ 3 (by kernel_rfl)).trans Z3.out
    have HK := Lib.hid hK
    have HB := Lib.hid hB
    clear hK hp hσ hB eg
    have HG := Lib.hid hg
    clear hg
    unfold stepS
    go_simp
    exact HK.out _ _ (Below.refl _ _) (fun _ => rfl)
  refine Obs.cons (fun σ a w hB hσ hp K hK => ?_) ?_
  · have eg : σ 10 = .bool (e.no == y.no) := hp 5 rfl
    rw [wantedS_of (d := 10) rfl rfl eg]
    by_cases hg : (e.no == y.no) = true
    rotate_left
    · rw [if_neg (by simpa using hg)]
      exact hK _ _ (Below.refl _ _) (fun h => absurd h hg)
    rw [if_pos (by simpa using hg)]
    have e13 : σ 13 = .pointer (some ⟨b2, 1, none⟩) := (hp 8 rfl) hg
    have hc := cell_later hB (HD.out 1 _ rfl)
    have HK := Lib.hid hK
    have HB := Lib.hid hB
    clear hK hp hσ hB eg
    have HG := Lib.hid hg
    clear hg
    unfold stepS
    go_simp
    exact HK.out _ _ (Below.refl _ _) (fun _ => rfl)
  refine Obs.cons (fun σ a w hB hσ hp K hK => ?_) ?_
  · have eg : σ 10 = .bool (e.no == y.no) := hp 5 rfl
    rw [wantedS_of (d := 10) rfl rfl eg]
    by_cases hg : (e.no == y.no) = true
    rotate_left
    · rw [if_neg (by simpa using hg)]
      exact hK _ _ (Below.refl _ _) (fun h => absurd h hg)
    rw [if_pos (by simpa using hg)]
    have e12 : σ 12 = .int .i64 e.time := (hp 7 rfl) hg
    have e14 : σ 14 = .int .i64 y.time := (hp 9 rfl) hg
    have HK := Lib.hid hK
    have HB := Lib.hid hB
    clear hK hp hσ hB eg
    have HG := Lib.hid hg
    clear hg
    unfold stepS
    go_simp
    exact HK.out _ _ (Below.refl _ _) (fun _ => rfl)
  refine Obs.cons (fun σ a w hB hσ hp K hK => ?_) ?_
  · rw [if_pos (by rfl)]
    have e10 : σ 10 = .bool (e.no == y.no) := (hp 5 rfl)
    have e15 : ((e.no == y.no) = true → σ 15 = .bool (e.time == y.time)) := hp 10 rfl
    refine stepS_pick _ _ _ rfl _ e10 _ (pick_and e15) ?_
    exact hK _ _ (Below.refl _ _) rfl
  refine Obs.cons (fun σ a w hB hσ hp K hK => ?_) ?_
  · rw [if_pos (by rfl)]
    have e16 : σ 16 = .bool (e.no == y.no && e.time == y.time) := (hp 11 rfl)
    refine stepS_move _ rfl _ e16 ?_
    exact hK _ _ (Below.refl _ _) rfl
  refine Obs.cons (fun σ a w hB hσ hp K hK => ?_) ?_
  · have eg : σ 17 = .bool (e.no == y.no && e.time == y.time) := hp 12 rfl
    rw [wantedS_of (d := 17) rfl rfl eg]
    by_cases hg : (e.no == y.no && e.time == y.time) = true
    rotate_left
    · rw [if_neg (by simpa using hg)]
      exact hK _ _ (Below.refl _ _) (fun h => absurd h hg)
    rw [if_pos (by simpa using hg)]
    have e2 : σ 2 = .pointer (some ⟨b, 0, none⟩) := (hσ 2 (by kernel_rfl)).trans Z2.out
    have HK := Lib.hid hK
    have HB := Lib.hid hB
    clear hK hp hσ hB eg
    have HG := Lib.hid hg
    clear hg
    unfold stepS
    go_simp
    exact HK.out _ _ (Below.refl _ _) (fun _ => rfl)
  refine Obs.cons (fun σ a w hB hσ hp K hK => ?_) ?_
  · have eg : σ 17 = .bool (e.no == y.no && e.time == y.time) := hp 12 rfl
    rw [wantedS_of (d := 17) rfl rfl eg]
    by_cases hg : (e.no == y.no && e.time == y.time) = true
    rotate_left
    · rw [if_neg (by simpa using hg)]
      exact hK _ _ (Below.refl _ _) (fun h => absurd h hg)
    rw [if_pos (by simpa using hg)]
    have e18 : σ 18 = .pointer (some ⟨b, 2, none⟩) := (hp 13 rfl) hg
    have hc := cell_later hB (HC.out 2 _ rfl)
    have HK := Lib.hid hK
    have HB := Lib.hid hB
    clear hK hp hσ hB eg
    have HG := Lib.hid hg
    clear hg
    unfold stepS
    go_simp
    exact HK.out _ _ (Below.refl _ _) (fun _ => rfl)
  refine Obs.cons (fun σ a w hB hσ hp K hK => ?_) ?_
  · have eg : σ 17 = .bool (e.no == y.no && e.time == y.time) := hp 12 rfl
    rw [wantedS_of (d := 17) rfl rfl eg]
    by_cases hg : (e.no == y.no && e.time == y.time) = true
    rotate_left
    · rw [if_neg (by simpa using hg)]
      exact hK _ _ (Below.refl _ _) (fun h => absurd h hg)
    rw [if_pos (by simpa using hg)]
    have e3 : σ 3 = .pointer (some ⟨b2, 0, none⟩) := (hσ 3 (by kernel_rfl)).trans Z3.out
    have HK := Lib.hid hK
    have HB := Lib.hid hB
    clear hK hp hσ hB eg
    have HG := Lib.hid hg
    clear hg
    unfold stepS
    go_simp
    exact HK.out _ _ (Below.refl _ _) (fun _ => rfl)
  refine Obs.cons (fun σ a w hB hσ hp K hK => ?_) ?_
  · have eg : σ 17 = .bool (e.no == y.no && e.time == y.time) := hp 12 rfl
    rw [wantedS_of (d := 17) rfl rfl eg]
    by_cases hg : (e.no == y.no && e.time == y.time) = true
    rotate_left
    · rw [if_neg (by simpa using hg)]
      exact hK _ _ (Below.refl _ _) (fun h => absurd h hg)
    rw [if_pos (by simpa using hg)]
    have e20 : σ 20 = .pointer (some ⟨b2, 2, none⟩) := (hp 15 rfl) hg
    have hc := cell_later hB (HD.out 2 _ rfl)
    have HK := Lib.hid hK
    have HB := Lib.hid hB
    clear hK hp hσ hB eg
    have HG := Lib.hid hg
    clear hg
    unfold stepS
    go_simp
    exact HK.out _ _ (Below.refl _ _) (fun _ => rfl)
  refine Obs.cons (fun σ a w hB hσ hp K hK => ?_) ?_
  · have eg : σ 17 = .bool (e.no == y.no && e.time == y.time) := hp 12 rfl
    rw [wantedS_of (d := 17) rfl rfl eg]
    by_cases hg : (e.no == y.no && e.time == y.time) = true
    rotate_left
    · rw [if_neg (by simpa using hg)]
      exact hK _ _ (Below.refl _ _) (fun h => absurd h hg)
    rw [if_pos (by simpa using hg)]
    have e19 : σ 19 = .int .i64 e.code := (hp 14 rfl) hg
    have e21 : σ 21 = .int .i64 y.code := (hp 16 rfl) hg
    have HK := Lib.hid hK
    have HB := Lib.hid hB
    clear hK hp hσ hB eg
    have HG := Lib.hid hg
    clear hg
    unfold stepS
    go_simp
    exact HK.out _ _ (Below.refl _ _) (fun _ => rfl)
  refine Obs.cons (fun σ a w hB hσ hp K hK => ?_) ?_
  · rw [if_pos (by rfl)]
    have e17 : σ 17 = .bool (e.no == y.no && e.time == y.time) := (hp 12 rfl)
    have e22 : ((e.no == y.no && e.time == y.time) = true → σ 22 = .bool (e.code == y.code)) := hp 17 rfl
    refine stepS_pick _ _ _ rfl _ e17 _ (pick_and e22) ?_
    exact hK _ _ (Below.refl _ _) rfl
  refine Obs.cons (fun σ a w hB hσ hp K hK => ?_) ?_
  · rw [if_pos (by rfl)]
    have e23 : σ 23 = .bool ((e.no == y.no && e.time == y.time) && e.code == y.code) := (hp 18 rfl)
    refine stepS_move _ rfl _ e23 ?_
    exact hK _ _ (Below.refl _ _) rfl
  refine Obs.cons (fun σ a w hB hσ hp K hK => ?_) ?_
  · have eg : σ 24 = .bool ((e.no == y.no && e.time == y.time) && e.code == y.code) := hp 19 rfl
    rw [wantedS_of (d := 24) rfl rfl eg]
    by_cases hg : ((e.no == y.no && e.time == y.time) && e.code == y.code) = true
    rotate_left
    · rw [if_neg (by simpa using hg)]
      exact hK _ _ (Below.refl _ _) (fun h => absurd h hg)
    rw [if_pos (by simpa using hg)]
    have e2 : σ 2 = .pointer (some ⟨b, 0, none⟩) := (hσ 2 (by kernel_rfl)).trans Z2.out
    have HK := Lib.hid hK
    have HB := Lib.hid hB
    clear hK hp hσ hB eg
    have HG := Lib.hid hg
    clear hg
    unfold stepS
    go_simp
    exact HK.out _ _ (Below.refl _ _) (fun _ => rfl)
  refine Obs.cons (fun σ a w hB hσ hp K hK => ?_) ?_
  · have eg : σ 24 = .bool ((e.no == y.no && e.time == y.time) && e.code == y.code) := hp 19 rfl
    rw [wantedS_of (d := 24) rfl rfl eg]
    by_cases hg : ((e.no == y.no && e.time == y.time) && e.code == y.code) = true
    rotate_left
    · rw [if_neg (by simpa using hg)]
      exact hK _ _ (Below.refl _ _) (fun h => absurd h hg)
    rw [if_pos (by simpa using hg)]
    have e25 : σ 25 = .pointer (some ⟨b, 3, none⟩) := (hp 20 rfl) hg
    have hc := cell_later hB (HC.out 3 _ rfl)
    have HK := Lib.hid hK
    have HB := Lib.hid hB
    clear hK hp hσ hB eg
    have HG := Lib.hid hg
    clear hg
    unfold stepS
    go_simp
    exact HK.out _ _ (Below.refl _ _) (fun _ => rfl)
  refine Obs.cons (fun σ a w hB hσ hp K hK => ?_) ?_
  · have eg : σ 24 = .bool ((e.no == y.no && e.time == y.time) && e.code == y.code) := hp 19 rfl
    rw [wantedS_of (d := 24) rfl rfl eg]
    by_cases hg : ((e.no == y.no && e.time == y.time) && e.code == y.code) = true
    rotate_left
    · rw [if_neg (by simpa using hg)]
      exact hK _ _ (Below.refl _ _) (fun h => absurd h hg)
    rw [if_pos (by simpa using hg)]
    have e3 : σ 3 = .pointer (some ⟨b2, 0, none⟩) := (hσ 3 (by kernel_rfl)).trans Z3.out
    have HK := Lib.hid hK
    have HB := Lib.hid hB
    clear hK hp hσ hB eg
    have HG := Lib.hid hg
    clear hg
    unfold stepS
    go_simp
    exact HK.out _ _ (Below.refl _ _) (fun _ => rfl)
  refine Obs.cons (fun σ a w hB hσ hp K hK => ?_) ?_
  · have eg : σ 24 = .bool ((e.no == y.no && e.time == y.time) && e.code == y.code) := hp 19 rfl
    rw [wantedS_of (d := 24) rfl rfl eg]
    by_cases hg : ((e.no == y.no && e.time == y.time) && e.code == y.code) = true
    rotate_left
    · rw [if_neg (by simpa using hg)]
      exact hK _ _ (Below.refl _ _) (fun h => absurd h hg)
    rw [if_pos (by simpa using hg)]
    have e27 : σ 27 = .pointer (some ⟨b2, 3, none⟩) := (hp 22 rfl) hg
    have hc := cell_later hB (HD.out 3 _ rfl)
    have HK := Lib.hid hK
    have HB := Lib.hid hB
    clear hK hp hσ hB eg
    have HG := Lib.hid hg
    clear hg
    unfold stepS
    go_simp
    exact HK.out _ _ (Below.refl _ _) (fun _ => rfl)
  refine Obs.cons (fun σ a w hB hσ hp K hK => ?_) ?_
  · have eg : σ 24 = .bool ((e.no == y.no && e.time == y.time) && e.code == y.code) := hp 19 rfl
    rw [wantedS_of (d := 24) rfl rfl eg]
    by_cases hg : ((e.no == y.no && e.time == y.time) && e.code == y.code) = true
    rotate_left
    · rw [if_neg (by simpa using hg)]
      exact hK _ _ (Below.refl _ _) (fun h => absurd h hg)
    rw [if_pos (by simpa using hg)]
    have e26 : σ 26 = .string e.who := (hp 21 rfl) hg
    have e28 : σ 28 = .string y.who := (hp 23 rfl) hg
    have HK := Lib.hid hK
    have HB := Lib.hid hB
    clear hK hp hσ hB eg
    have HG := Lib.hid hg
    clear hg
    unfold stepS
    go_simp
    exact HK.out _ _ (Below.refl _ _) (fun _ => rfl)
  refine Obs.cons (fun σ a w hB hσ hp K hK => ?_) ?_
  · rw [if_pos (by rfl)]
    have e24 : σ 24 = .bool ((e.no == y.no && e.time == y.time) && e.code == y.code) := (hp 19 rfl)
    have e29 : (((e.no == y.no && e.time == y.time) && e.code == y.code) = true → σ 29 = .bool (e.who.toList == y.who.toList)) := hp 24 rfl
    refine stepS_pick _ _ _ rfl _ e24 _ (pick_and e29) ?_
    exact hK _ _ (Below.refl _ _) rfl
  refine Obs.cons (fun σ a w hB hσ hp K hK => ?_) ?_
  · rw [if_pos (by rfl)]
    have e30 : σ 30 = .bool (((e.no == y.no && e.time == y.time) && e.code == y.code) && e.who.toList == y.who.toList) := (hp 25 rfl)
    refine stepS_move _ rfl _ e30 ?_
    exact hK _ _ (Below.refl _ _) rfl
  refine Obs.cons (fun σ a w hB hσ hp K hK => ?_) ?_
  · have eg : σ 31 = .bool (((e.no == y.no && e.time == y.time) && e.code == y.code) && e.who.toList == y.who.toList) := hp 26 rfl
    rw [wantedS_of (d := 31) rfl rfl eg]
    by_cases hg : (((e.no == y.no && e.time == y.time) && e.code == y.code) && e.who.toList == y.who.toList) = true
    rotate_left
    · rw [if_neg (by simpa using hg)]
      exact hK _ _ (Below.refl _ _) (fun h => absurd h hg)
    rw [if_pos (by simpa using hg)]
    have e2 : σ 2 = .pointer (some ⟨b, 0, none⟩) := (hσ 2 (by kernel_rfl)).trans Z2.out
    have HK := Lib.hid hK
    have HB := Lib.hid hB
    clear hK hp hσ hB eg
    have HG := Lib.hid hg
    clear hg
    unfold stepS
    go_simp
    exact HK.out _ _ (Below.refl _ _) (fun _ => rfl)
  refine Obs.cons (fun σ a w hB hσ hp K hK => ?_) ?_
  · have eg : σ 31 = .bool (((e.no == y.no && e.time == y.time) && e.code == y.code) && e.who.toList == y.who.toList) := hp 26 rfl
    rw [wantedS_of (d := 31) rfl rfl eg]
    by_cases hg : (((e.no == y.no && e.time == y.time) && e.code == y.code) && e.who.toList == y.who.toList) = true
    rotate_left
    · rw [if_neg (by simpa using hg)]
      exact hK _ _ (Below.refl _ _) (fun h => absurd h hg)
    rw [if_pos (by simpa using hg)]
    have e32 : σ 32 = .pointer (some ⟨b, 4, none⟩) := (hp 27 rfl) hg
    have hc := cell_later hB (HC.out 4 _ rfl)
    have HK := Lib.hid hK
    have HB := Lib.hid hB
    clear hK hp hσ hB eg
    have HG := Lib.hid hg
    clear hg
    unfold stepS
    go_simp
    exact HK.out _ _ (Below.refl _ _) (fun _ => rfl)
  refine Obs.cons (fun σ a w hB hσ hp K hK => ?_) ?_
  · have eg : σ 31 = .bool (((e.no == y.no && e.time == y.time) && e.code == y.code) && e.who.toList == y.who.toList) := hp 26 rfl
    rw [wantedS_of (d := 31) rfl rfl eg]
    by_cases hg : (((e.no == y.no && e.time == y.time) && e.code == y.code) && e.who.toList == y.who.toList) = true
    rotate_left
    · rw [if_neg (by simpa using hg)]
      exact hK _ _ (Below.refl _ _) (fun h => absurd h hg)
    rw [if_pos (by simpa using hg)]
    have e3 : σ 3 = .pointer (some ⟨b2, 0, none⟩) := (hσ 3 (by kernel_rfl)).trans Z3.out
    have HK := Lib.hid hK
    have HB := Lib.hid hB
    clear hK hp hσ hB eg
    have HG := Lib.hid hg
    clear hg
    unfold stepS
    go_simp
    exact HK.out _ _ (Below.refl _ _) (fun _ => rfl)
  refine Obs.cons (fun σ a w hB hσ hp K hK => ?_) ?_
  · have eg : σ 31 = .bool (((e.no == y.no && e.time == y.time) && e.code == y.code) && e.who.toList == y.who.toList) := hp 26 rfl
    rw [wantedS_of (d := 31) rfl rfl eg]
    by_cases hg : (((e.no == y.no && e.time == y.time) && e.code == y.code) && e.who.toList == y.who.toList) = true
    rotate_left
    · rw [if_neg (by simpa using hg)]
      exact hK _ _ (Below.refl _ _) (fun h => absurd h hg)
    rw [if_pos (by simpa using hg)]
    have e34 : σ 34 = .pointer (some ⟨b2, 4, none⟩) := (hp 29 rfl) hg
    have hc := cell_later hB (HD.out 4 _ rfl)
    have HK := Lib.hid hK
    have HB := Lib.hid hB
    clear hK hp hσ hB eg
    have HG := Lib.hid hg
    clear hg
    unfold stepS
    go_simp
    exact HK.out _ _ (Below.refl _ _) (fun _ => rfl)
  refine Obs.cons (fun σ a w hB hσ hp K hK => ?_) ?_
  · have eg : σ 31 = .bool (((e.no == y.no && e.time == y.time) && e.code == y.code) && e.who.toList == y.who.toList) := hp 26 rfl
    rw [wantedS_of (d := 31) rfl rfl eg]
    by_cases hg : (((e.no == y.no && e.time == y.time) && e.code == y.code) && e.who.toList == y.who.toList) = true
    rotate_left
    · rw [if_neg (by simpa using hg)]
      exact hK _ _ (Below.refl _ _) (fun h => absurd h hg)
    rw [if_pos (by simpa using hg)]
    have e33 : σ 33 = .string e.what := (hp 28 rfl) hg
    have e35 : σ 35 = .string y.what := (hp 30 rfl) hg
    have HK := Lib.hid hK
    have HB := Lib.hid hB
    clear hK hp hσ hB eg
    have HG := Lib.hid hg
    clear hg
    unfold stepS
    go_simp
    exact HK.out _ _ (Below.refl _ _) (fun _ => rfl)
  refine Obs.cons (fun σ a w hB hσ hp K hK => ?_) ?_
  · rw [if_pos (by rfl)]
    have e31 : σ 31 = .bool (((e.no == y.no && e.time == y.time) && e.code == y.code) && e.who.toList == y.who.toList) := (hp 26 rfl)
    have e36 : ((((e.no == y.no && e.time == y.time) && e.code == y.code) && e.who.toList == y.who.toList) = true → σ 36 = .bool (e.what.toList == y.what.toList)) := hp 31 rfl
    refine stepS_pick _ _ _ rfl _ e31 _ (pick_and e36) ?_
    exact hK _ _ (Below.refl _ _) rfl
  refine Obs.cons (fun σ a w hB hσ hp K hK => ?_) ?_
  · rw [if_pos (by rfl)]
    have e37 : σ 37 = .bool ((((e.no == y.no && e.time == y.time) && e.code == y.code) && e.who.toList == y.who.toList) && e.what.toList == y.what.toList) := (hp 32 rfl)
    refine stepS_move _ rfl _ e37 ?_
    exact hK _ _ (Below.refl _ _) rfl
  refine Obs.cons (fun σ a w hB hσ hp K hK => ?_) ?_
  · have eg : σ 38 = .bool ((((e.no == y.no && e.time == y.time) && e.code == y.code) && e.who.toList == y.who.toList) && e.what.toList == y.what.toList) := hp 33 rfl
    rw [wantedS_of (d := 38) rfl rfl eg]
    by_cases hg : ((((e.no == y.no && e.time == y.time) && e.code == y.code) && e.who.toList == y.who.toList) && e.what.toList == y.what.toList) = true
    rotate_left
    · rw [if_neg (by simpa using hg)]
      exact hK _ _ (Below.refl _ _) (fun h => absurd h hg)
    rw [if_pos (by simpa using hg)]
    have e2 : σ 2 = .pointer (some ⟨b, 0, none⟩) := (hσ 2 (by kernel_rfl)).trans Z2.out
    have HK := Lib.hid hK
    have HB := Lib.hid hB
    clear hK hp hσ hB eg
    have HG := Lib.hid hg
    clear hg
    unfold stepS
    go_simp
    exact HK.out _ _ (Below.refl _ _) (fun _ => rfl)
  refine Obs.cons (fun σ a w hB hσ hp K hK => ?_) ?_
  · have eg : σ 38 = .bool ((((e.no == y.no && e.time == y.time) && e.code == y.code) && e.who.toList == y.who.toList) && e.what.toList == y.what.toList) := hp 33 rfl
    rw [wantedS_of (d := 38) rfl rfl eg]
    by_cases hg : ((((e.no == y.no && e.time == y.time) && e.code == y.code) && e.who.toList == y.who.toList) && e.what.toList == y.what.toList) = true
    rotate_left
    · rw [if_neg (by simpa using hg)]
      exact hK _ _ (Below.refl _ _) (fun h => absurd h hg)
    rw [if_pos (by simpa using hg)]
    have e39 : σ 39 = .pointer (some ⟨b, 5, none⟩) := (hp 34 rfl) hg
    have hc := cell_later hB (HC.out 5 _ rfl)
    have HK := Lib.hid hK
    have HB := Lib.hid hB
    clear hK hp hσ hB eg
    have HG := Lib.hid hg
    clear hg
    unfold stepS
    go_simp
    exact HK.out _ _ (Below.refl _ _) (fun _ => rfl)
  refine Obs.cons (fun σ a w hB hσ hp K hK => ?_) ?_
  · have eg : σ 38 = .bool ((((e.no == y.no && e.time == y.time) && e.code == y.code) && e.who.toList == y.who.toList) && e.what.toList == y.what.toList) := hp 33 rfl
    rw [wantedS_of (d := 38) rfl rfl eg]
    by_cases hg : ((((e.no == y.no && e.time == y.time) && e.code == y.code) && e.who.toList == y.who.toList) && e.what.toList == y.what.toList) = true
    rotate_left
    · rw [if_neg (by simpa using hg)]
      exact hK _ _ (Below.refl _ _) (fun h => absurd h hg)
    rw [if_pos (by simpa using hg)]
    have e40 : σ 40 = .slice A e.prev.length c := (hp 35 rfl) hg
    refine stepS_conv_bs _ _ _ _ rfl Tryd.underlying28 Tryd.underlying5 Tryd.underlying9 _ (⟨A, c, e40, HI.out.hc, HI.out.hc2, HI.out.sp.below hB⟩) ?_
    exact hK _ _ (Below.refl _ _) (fun _ => rfl)
  refine Obs.cons (fun σ a w hB hσ hp K hK => ?_) ?_
  · have eg : σ 38 = .bool ((((e.no == y.no && e.time == y.time) && e.code == y.code) && e.who.toList == y.who.toList) && e.what.toList == y.what.toList) := hp 33 rfl
    rw [wantedS_of (d := 38) rfl rfl eg]
    by_cases hg : ((((e.no == y.no && e.time == y.time) && e.code == y.code) && e.who.toList == y.who.toList) && e.what.toList == y.what.toList) = true
    rotate_left
    · rw [if_neg (by simpa using hg)]
      exact hK _ _ (Below.refl _ _) (fun h => absurd h hg)
    rw [if_pos (by simpa using hg)]
    have e3 : σ 3 = .pointer (some ⟨b2, 0, none⟩) := (hσ 3 (by kernel_rfl)).trans Z3.out
    have HK := Lib.hid hK
    have HB := Lib.hid hB
    clear hK hp hσ hB eg
    have HG := Lib.hid hg
    clear hg
    unfold stepS
    go_simp
    exact HK.out _ _ (Below.refl _ _) (fun _ => rfl)
  refine Obs.cons (fun σ a w hB hσ hp K hK => ?_) ?_
  · have eg : σ 38 = .bool ((((e.no == y.no && e.time == y.time) && e.code == y.code) && e.who.toList == y.who.toList) && e.what.toList == y.what.toList) := hp 33 rfl
    rw [wantedS_of (d := 38) rfl rfl eg]
    by_cases hg : ((((e.no == y.no && e.time == y.time) && e.code == y.code) && e.who.toList == y.who.toList) && e.what.toList == y.what.toList) = true
    rotate_left
    · rw [if_neg (by simpa using hg)]
      exact hK _ _ (Below.refl _ _) (fun h => absurd h hg)
    rw [if_pos (by simpa using hg)]
    have e42 : σ 42 = .pointer (some ⟨b2, 5, none⟩) := (hp 37 rfl) hg
    have hc := cell_later hB (HD.out 5 _ rfl)
    have HK := Lib.hid hK
    have HB := Lib.hid hB
    clear hK hp hσ hB eg
    have HG := Lib.hid hg
    clear hg
    unfold stepS
    go_simp
    exact HK.out _ _ (Below.refl _ _) (fun _ => rfl)
  refine Obs.cons (fun σ a w hB hσ hp K hK => ?_) ?_
  · have eg : σ 38 = .bool ((((e.no == y.no && e.time == y.time) && e.code == y.code) && e.who.toList == y.who.toList) && e.what.toList == y.what.toList) := hp 33 rfl
    rw [wantedS_of (d := 38) rfl rfl eg]
    by_cases hg : ((((e.no == y.no && e.time == y.time) && e.code == y.code) && e.who.toList == y.who.toList) && e.what.toList == y.what.toList) = true
    rotate_left
    · rw [if_neg (by simpa using hg)]
      exact hK _ _ (Below.refl _ _) (fun h => absurd h hg)
    rw [if_pos (by simpa using hg)]
    have e43 : σ 43 = .slice A2 y.prev.length c2 := (hp 38 rfl) hg
    refine stepS_conv_bs _ _ _ _ rfl Tryd.underlying28 Tryd.underlying5 Tryd.underlying9 _ (⟨A2, c2, e43, HJ.out.hc, HJ.out.hc2, HJ.out.sp.below hB⟩) ?_
    exact hK _ _ (Below.refl _ _) (fun _ => rfl)
  refine Obs.cons (fun σ a w hB hσ hp K hK => ?_) ?_
  · have eg : σ 38 = .bool ((((e.no == y.no && e.time == y.time) && e.code == y.code) && e.who.toList == y.who.toList) && e.what.toList == y.what.toList) := hp 33 rfl
    rw [wantedS_of (d := 38) rfl rfl eg]
    by_cases hg : ((((e.no == y.no && e.time == y.time) && e.code == y.code) && e.who.toList == y.who.toList) && e.what.toList == y.what.toList) = true
    rotate_left
    · rw [if_neg (by simpa using hg)]
      exact hK _ _ (Below.refl _ _) (fun h => absurd h hg)
    rw [if_pos (by simpa using hg)]
    have e41 : σ 41 = .string ⟨(e.prev).toArray⟩ := (hp 36 rfl) hg
    have e44 : σ 44 = .string ⟨(y.prev).toArray⟩ := (hp 39 rfl) hg
    have HK := Lib.hid hK
    have HB := Lib.hid hB
    clear hK hp hσ hB eg
    have HG := Lib.hid hg
    clear hg
    unfold stepS
    go_simp
    exact HK.out _ _ (Below.refl _ _) (fun _ => rfl)
  refine Obs.cons (fun σ a w hB hσ hp K hK => ?_) ?_
  · rw [if_pos (by rfl)]
    have e38 : σ 38 = .bool ((((e.no == y.no && e.time == y.time) && e.code == y.code) && e.who.toList == y.who.toList) && e.what.toList == y.what.toList) := (hp 33 rfl)
    have e45 : (((((e.no == y.no && e.time == y.time) && e.code == y.code) && e.who.toList == y.who.toList) && e.what.toList == y.what.toList) = true → σ 45 = .bool (e.prev == y.prev)) := hp 40 rfl
    refine stepS_pick _ _ _ rfl _ e38 _ (pick_and e45) ?_
    exact hK _ _ (Below.refl _ _) rfl
  refine Obs.cons (fun σ a w hB hσ hp K hK => ?_) ?_
  · rw [if_pos (by rfl)]
    have e46 : σ 46 = .bool (((((e.no == y.no && e.time == y.time) && e.code == y.code) && e.who.toList == y.who.toList) && e.what.toList == y.what.toList) && e.prev == y.prev) := (hp 41 rfl)
    refine stepS_move _ rfl _ e46 ?_
    exact hK _ _ (Below.refl _ _) rfl
  refine Obs.cons (fun σ a w hB hσ hp K hK => ?_) ?_
  · have eg : σ 47 = .bool (((((e.no == y.no && e.time == y.time) && e.code == y.code) && e.who.toList == y.who.toList) && e.what.toList == y.what.toList) && e.prev == y.prev) := hp 42 rfl
    rw [wantedS_of (d := 47) rfl rfl eg]
    by_cases hg : (((((e.no == y.no && e.time == y.time) && e.code == y.code) && e.who.toList == y.who.toList) && e.what.toList == y.what.toList) && e.prev == y.prev) = true
    rotate_left
    · rw [if_neg (by simpa using hg)]
      exact hK _ _ (Below.refl _ _) (fun h => absurd h hg)
    rw [if_pos (by simpa using hg)]
    have e2 : σ 2 = .pointer (some ⟨b, 0, none⟩) := (hσ 2 (by kernel_rfl)).trans Z2.out
    have HK := Lib.hid hK
    have HB := Lib.hid hB
    clear hK hp hσ hB eg
    have HG := Lib.hid hg
    clear hg
    unfold stepS
    go_simp
    exact HK.out _ _ (Below.refl _ _) (fun _ => rfl)
  refine Obs.cons (fun σ a w hB hσ hp K hK => ?_) ?_
  · have eg : σ 47 = .bool (((((e.no == y.no && e.time == y.time) && e.code == y.code) && e.who.toList == y.who.toList) && e.what.toList == y.what.toList) && e.prev == y.prev) := hp 42 rfl
    rw [wantedS_of (d := 47) rfl rfl eg]
    by_cases hg : (((((e.no == y.no && e.time == y.time) && e.code == y.code) && e.who.toList == y.who.toList) && e.what.toList == y.what.toList) && e.prev == y.prev) = true
    rotate_left
    · rw [if_neg (by simpa using hg)]
      exact hK _ _ (Below.refl _ _) (fun h => absurd h hg)
    rw [if_pos (by simpa using hg)]
    have e48 : σ 48 = .pointer (some ⟨b, 6, none⟩) := (hp 43 rfl) hg
    have hc := cell_later hB (HC.out 6 _ rfl)
    have HK := Lib.hid hK
    have HB := Lib.hid hB
    clear hK hp hσ hB eg
    have HG := Lib.hid hg
    clear hg
    unfold stepS
    go_simp
    exact HK.out _ _ (Below.refl _ _) (fun _ => rfl)
  refine Obs.cons (fun σ a w hB hσ hp K hK => ?_) ?_
  · have eg : σ 47 = .bool (((((e.no == y.no && e.time == y.time) && e.code == y.code) && e.who.toList == y.who.toList) && e.what.toList == y.what.toList) && e.prev == y.prev) := hp 42 rfl
    rw [wantedS_of (d := 47) rfl rfl eg]
    by_cases hg : (((((e.no == y.no && e.time == y.time) && e.code == y.code) && e.who.toList == y.who.toList) && e.what.toList == y.what.toList) && e.prev == y.prev) = true
    rotate_left
    · rw [if_neg (by simpa using hg)]
      exact hK _ _ (Below.refl _ _) (fun h => absurd h hg)
    rw [if_pos (by simpa using hg)]
    have e49 : σ 49 = .slice B e.hash.length d := (hp 44 rfl) hg
    refine stepS_conv_bs _ _ _ _ rfl Tryd.underlying28 Tryd.underlying5 Tryd.underlying9 _ (⟨B, d, e49, HI.out.hd, HI.out.hd2, HI.out.sh.below hB⟩) ?_
    exact hK _ _ (Below.refl _ _) (fun _ => rfl)
  refine Obs.cons (fun σ a w hB hσ hp K hK => ?_) ?_
  · have eg : σ 47 = .bool (((((e.no == y.no && e.time == y.time) && e.code == y.code) && e.who.toList == y.who.toList) && e.what.toList == y.what.toList) && e.prev == y.prev) := hp 42 rfl
    rw [wantedS_of (d := 47) rfl rfl eg]
    by_cases hg : (((((e.no == y.no && e.time == y.time) && e.code == y.code) && e.who.toList == y.who.toList) && e.what.toList == y.what.toList) && e.prev == y.prev) = true
    rotate_left
    · rw [if_neg (by simpa using hg)]
      exact hK _ _ (Below.refl _ _) (fun h => absurd h hg)
    rw [if_pos (by simpa using hg)]
    have e3 : σ 3 = .pointer (some ⟨b2, 0, none⟩) := (hσ 3 (by kernel_rfl)).trans Z3.out
    have HK := Lib.hid hK
    have HB := Lib.hid hB
    clear hK hp hσ hB eg
    have HG := Lib.hid hg
    clear hg
    unfold stepS
    go_simp
    exact HK.out _ _ (Below.refl _ _) (fun _ => rfl)
  refine Obs.cons (fun σ a w hB hσ hp K hK => ?_) ?_
  · have eg : σ 47 = .bool (((((e.no == y.no && e.time == y.time) && e.code == y.code) && e.who.toList == y.who.toList) && e.what.toList == y.what.toList) && e.prev == y.prev) := hp 42 rfl
    rw [wantedS_of (d := 47) rfl rfl eg]
    by_cases hg : (((((e.no == y.no && e.time == y.time) && e.code == y.code) && e.who.toList == y.who.toList) && e.what.toList == y.what.toList) && e.prev == y.prev) = true
    rotate_left
    · rw [if_neg (by simpa using hg)]
      exact hK _ _ (Below.refl _ _) (fun h => absurd h hg)
    rw [if_pos (by simpa using hg)]
    have e51 : σ 51 = .pointer (some ⟨b2, 6, none⟩) := (hp 46 rfl) hg
    have hc := cell_later hB (HD.out 6 _ rfl)
    have HK := Lib.hid hK
    have HB := Lib.hid hB
    clear hK hp hσ hB eg
    have HG := Lib.hid hg
    clear hg
    unfold stepS
    go_simp
    exact HK.out _ _ (Below.refl _ _) (fun _ => rfl)
  refine Obs.cons (fun σ a w hB hσ hp K hK => ?_) ?_
  · have eg : σ 47 = .bool (((((e.no == y.no && e.time == y.time) && e.code == y.code) && e.who.toList == y.who.toList) && e.what.toList == y.what.toList) && e.prev == y.prev) := hp 42 rfl
    rw [wantedS_of (d := 47) rfl rfl eg]
    by_cases hg : (((((e.no == y.no && e.time == y.time) && e.code == y.code) && e.who.toList == y.who.toList) && e.what.toList == y.what.toList) && e.prev == y.prev) = true
    rotate_left
    · rw [if_neg (by simpa using hg)]
      exact hK _ _ (Below.refl _ _) (fun h => absurd h hg)
    rw [if_pos (by simpa using hg)]
    have e52 : σ 52 = .slice B2 y.hash.length d2 := (hp 47 rfl) hg
    refine stepS_conv_bs _ _ _ _ rfl Tryd.underlying28 Tryd.underlying5 Tryd.underlying9 _ (⟨B2, d2, e52, HJ.out.hd, HJ.out.hd2, HJ.out.sh.below hB⟩) ?_
    exact hK _ _ (Below.refl _ _) (fun _ => rfl)
  refine Obs.cons (fun σ a w hB hσ hp K hK => ?_) ?_
  · have eg : σ 47 = .bool (((((e.no == y.no && e.time == y.time) && e.code == y.code) && e.who.toList == y.who.toList) && e.what.toList == y.what.toList) && e.prev == y.prev) := hp 42 rfl
    rw [wantedS_of (d := 47) rfl rfl eg]
    by_cases hg : (((((e.no == y.no && e.time == y.time) && e.code == y.code) && e.who.toList == y.who.toList) && e.what.toList == y.what.toList) && e.prev == y.prev) = true
    rotate_left
    · rw [if_neg (by simpa using hg)]
      exact hK _ _ (Below.refl _ _) (fun h => absurd h hg)
    rw [if_pos (by simpa using hg)]
    have e50 : σ 50 = .string ⟨(e.hash).toArray⟩ := (hp 45 rfl) hg
    have e53 : σ 53 = .string ⟨(y.hash).toArray⟩ := (hp 48 rfl) hg
    have HK := Lib.hid hK
    have HB := Lib.hid hB
    clear hK hp hσ hB eg
    have HG := Lib.hid hg
    clear hg
    unfold stepS
    go_simp
    exact HK.out _ _ (Below.refl _ _) (fun _ => rfl)
  refine Obs.cons (fun σ a w hB hσ hp K hK => ?_) ?_
  · rw [if_pos (by rfl)]
    have e47 : σ 47 = .bool (((((e.no == y.no && e.time == y.time) && e.code == y.code) && e.who.toList == y.who.toList) && e.what.toList == y.what.toList) && e.prev == y.prev) := (hp 42 rfl)
    have e54 : ((((((e.no == y.no && e.time == y.time) && e.code == y.code) && e.who.toList == y.who.toList) && e.what.toList == y.what.toList) && e.prev == y.prev) = true → σ 54 = .bool (e.hash == y.hash)) := hp 49 rfl
    refine stepS_pick _ _ _ rfl _ e47 _ (pick_and e54) ?_
    exact hK _ _ (Below.refl _ _) rfl
  refine Obs.cons (fun σ a w hB hσ hp K hK => ?_) ?_
  · rw [if_pos (by rfl)]
    have e55 : σ 55 = .bool ((((((e.no == y.no && e.time == y.time) && e.code == y.code) && e.who.toList == y.who.toList) && e.what.toList == y.what.toList) && e.prev == y.prev) && e.hash == y.hash) := (hp 50 rfl)
    refine stepS_assign _ rfl _ e55 ?_
    exact hK _ _ (Below.refl _ _) rfl
  · exact Obs.nil _
  · intro σ w hB hf
    have f0 : σ 5 = .pointer (some ⟨b, 0, none⟩) := hf 0 (by decide)
    have f1 : σ 6 = .int .i64 e.no := hf 1 (by decide)
    have f2 : σ 7 = .pointer (some ⟨b2, 0, none⟩) := hf 2 (by decide)
    have f3 : σ 8 = .int .i64 y.no := hf 3 (by decide)
    have f4 : σ 9 = .bool (e.no == y.no) := hf 4 (by decide)
    have f5 : σ 10 = .bool (e.no == y.no) := hf 5 (by decide)
    have f6 : ((e.no == y.no) = true → σ 11 = .pointer (some ⟨b, 1, none⟩)) := hf 6 (by decide)
    have f7 : ((e.no == y.no) = true → σ 12 = .int .i64 e.time) := hf 7 (by decide)
    have f8 : ((e.no == y.no) = true → σ 13 = .pointer (some ⟨b2, 1, none⟩)) := hf 8 (by decide)
    have f9 : ((e.no == y.no) = true → σ 14 = .int .i64 y.time) := hf 9 (by decide)
    have f10 : ((e.no == y.no) = true → σ 15 = .bool (e.time == y.time)) := hf 10 (by decide)
    have f11 : σ 16 = .bool (e.no == y.no && e.time == y.time) := hf 11 (by decide)
    have f12 : σ 17 = .bool (e.no == y.no && e.time == y.time) := hf 12 (by decide)
    have f13 : ((e.no == y.no && e.time == y.time) = true → σ 18 = .pointer (some ⟨b, 2, none⟩)) := hf 13 (by decide)
    have f14 : ((e.no == y.no && e.time == y.time) = true → σ 19 = .int .i64 e.code) := hf 14 (by decide)
    have f15 : ((e.no == y.no && e.time == y.time) = true → σ 20 = .pointer (some ⟨b2, 2, none⟩)) := hf 15 (by decide)
    have f16 : ((e.no == y.no && e.time == y.time) = true → σ 21 = .int .i64 y.code) := hf 16 (by decide)
    have f17 : ((e.no == y.no && e.time == y.time) = true → σ 22 = .bool (e.code == y.code)) := hf 17 (by decide)
    have f18 : σ 23 = .bool ((e.no == y.no && e.time == y.time) && e.code == y.code) := hf 18 (by decide)
    have f19 : σ 24 = .bool ((e.no == y.no && e.time == y.time) && e.code == y.code) := hf 19 (by decide)
    have f20 : (((e.no == y.no && e.time == y.time) && e.code == y.code) = true → σ 25 = .pointer (some ⟨b, 3, none⟩)) := hf 20 (by decide)
    have f21 : (((e.no == y.no && e.time == y.time) && e.code == y.code) = true → σ 26 = .string e.who) := hf 21 (by decide)
    have f22 : (((e.no == y.no && e.time == y.time) && e.code == y.code) = true → σ 27 = .pointer (some ⟨b2, 3, none⟩)) := hf 22 (by decide)
    have f23 : (((e.no == y.no && e.time == y.time) && e.code == y.code) = true → σ 28 = .string y.who) := hf 23 (by decide)
    have f24 : (((e.no == y.no && e.time == y.time) && e.code == y.code) = true → σ 29 = .bool (e.who.toList == y.who.toList)) := hf 24 (by decide)
    have f25 : σ 30 = .bool (((e.no == y.no && e.time == y.time) && e.code == y.code) && e.who.toList == y.who.toList) := hf 25 (by decide)
    have f26 : σ 31 = .bool (((e.no == y.no && e.time == y.time) && e.code == y.code) && e.who.toList == y.who.toList) := hf 26 (by decide)
    have f27 : ((((e.no == y.no && e.time == y.time) && e.code == y.code) && e.who.toList == y.who.toList) = true → σ 32 = .pointer (some ⟨b, 4, none⟩)) := hf 27 (by decide)
    have f28 : ((((e.no == y.no && e.time == y.time) && e.code == y.code) && e.who.toList == y.who.toList) = true → σ 33 = .string e.what) := hf 28 (by decide)
    have f29 : ((((e.no == y.no && e.time == y.time) && e.code == y.code) && e.who.toList == y.who.toList) = true → σ 34 = .pointer (some ⟨b2, 4, none⟩)) := hf 29 (by decide)
    have f30 : ((((e.no == y.no && e.time == y.time) && e.code == y.code) && e.who.toList == y.who.toList) = true → σ 35 = .string y.what) := hf 30 (by decide)
    have f31 : ((((e.no == y.no && e.time == y.time) && e.code == y.code) && e.who.toList == y.who.toList) = true → σ 36 = .bool (e.what.toList == y.what.toList)) := hf 31 (by decide)
    have f32 : σ 37 = .bool ((((e.no == y.no && e.time == y.time) && e.code == y.code) && e.who.toList == y.who.toList) && e.what.toList == y.what.toList) := hf 32 (by decide)
    have f33 : σ 38 = .bool ((((e.no == y.no && e.time == y.time) && e.code == y.code) && e.who.toList == y.who.toList) && e.what.toList == y.what.toList) := hf 33 (by decide)
    have f34 : (((((e.no == y.no && e.time == y.time) && e.code == y.code) && e.who.toList == y.who.toList) && e.what.toList == y.what.toList) = true → σ 39 = .pointer (some ⟨b, 5, none⟩)) := hf 34 (by decide)
    have f35 : (((((e.no == y.no && e.time == y.time) && e.code == y.code) && e.who.toList == y.who.toList) && e.what.toList == y.what.toList) = true → σ 40 = .slice A e.prev.length c) := hf 35 (by decide)
    have f36 : (((((e.no == y.no && e.time == y.time) && e.code == y.code) && e.who.toList == y.who.toList) && e.what.toList == y.what.toList) = true → σ 41 = .string ⟨(e.prev).toArray⟩) := hf 36 (by decide)
    have f37 : (((((e.no == y.no && e.time == y.time) && e.code == y.code) && e.who.toList == y.who.toList) && e.what.toList == y.what.toList) = true → σ 42 = .pointer (some ⟨b2, 5, none⟩)) := hf 37 (by decide)
    have f38 : (((((e.no == y.no && e.time == y.time) && e.code == y.code) && e.who.toList == y.who.toList) && e.what.toList == y.what.toList) = true → σ 43 = .slice A2 y.prev.length c2) := hf 38 (by decide)
    have f39 : (((((e.no == y.no && e.time == y.time) && e.code == y.code) && e.who.toList == y.who.toList) && e.what.toList == y.what.toList) = true → σ 44 = .string ⟨(y.prev).toArray⟩) := hf 39 (by decide)
    have f40 : (((((e.no == y.no && e.time == y.time) && e.code == y.code) && e.who.toList == y.who.toList) && e.what.toList == y.what.toList) = true → σ 45 = .bool (e.prev == y.prev)) := hf 40 (by decide)
    have f41 : σ 46 = .bool (((((e.no == y.no && e.time == y.time) && e.code == y.code) && e.who.toList == y.who.toList) && e.what.toList == y.what.toList) && e.prev == y.prev) := hf 41 (by decide)
    have f42 : σ 47 = .bool (((((e.no == y.no && e.time == y.time) && e.code == y.code) && e.who.toList == y.who.toList) && e.what.toList == y.what.toList) && e.prev == y.prev) := hf 42 (by decide)
    have f43 : ((((((e.no == y.no && e.time == y.time) && e.code == y.code) && e.who.toList == y.who.toList) && e.what.toList == y.what.toList) && e.prev == y.prev) = true → σ 48 = .pointer (some ⟨b, 6, none⟩)) := hf 43 (by decide)
    have f44 : ((((((e.no == y.no && e.time == y.time) && e.code == y.code) && e.who.toList == y.who.toList) && e.what.toList == y.what.toList) && e.prev == y.prev) = true → σ 49 = .slice B e.hash.length d) := hf 44 (by decide)
    have f45 : ((((((e.no == y.no && e.time == y.time) && e.code == y.code) && e.who.toList == y.who.toList) && e.what.toList == y.what.toList) && e.prev == y.prev) = true → σ 50 = .string ⟨(e.hash).toArray⟩) := hf 45 (by decide)
    have f46 : ((((((e.no == y.no && e.time == y.time) && e.code == y.code) && e.who.toList == y.who.toList) && e.what.toList == y.what.toList) && e.prev == y.prev) = true → σ 51 = .pointer (some ⟨b2, 6, none⟩)) := hf 46 (by decide)
    have f47 : ((((((e.no == y.no && e.time == y.time) && e.code == y.code) && e.who.toList == y.who.toList) && e.what.toList == y.what.toList) && e.prev == y.prev) = true → σ 52 = .slice B2 y.hash.length d2) := hf 47 (by decide)
    have f48 : ((((((e.no == y.no && e.time == y.time) && e.code == y.code) && e.who.toList == y.who.toList) && e.what.toList == y.what.toList) && e.prev == y.prev) = true → σ 53 = .string ⟨(y.hash).toArray⟩) := hf 48 (by decide)
    have f49 : ((((((e.no == y.no && e.time == y.time) && e.code == y.code) && e.who.toList == y.who.toList) && e.what.toList == y.what.toList) && e.prev == y.prev) = true → σ 54 = .bool (e.hash == y.hash)) := hf 49 (by decide)
    have f50 : σ 55 = .bool ((((((e.no == y.no && e.time == y.time) && e.code == y.code) && e.who.toList == y.who.toList) && e.what.toList == y.what.toList) && e.prev == y.prev) && e.hash == y.hash) := hf 50 (by decide)
    have f51 : σ 4 = .bool ((((((e.no == y.no && e.time == y.time) && e.code == y.code) && e.who.toList == y.who.toList) && e.what.toList == y.what.toList) && e.prev == y.prev) && e.hash == y.hash) := hf 51 (by decide)
    have hq := HQ.out (σ 11) (σ 12) (σ 13) (σ 14) (σ 15) (σ 18) (σ 19) (σ 20) (σ 21) (σ 22) (σ 25) (σ 26) (σ 27) (σ 28) (σ 29) (σ 32) (σ 33) (σ 34) (σ 35) (σ 36) (σ 39) (σ 40) (σ 41) (σ 42) (σ 43) (σ 44) (σ 45) (σ 48) (σ 49) (σ 50) (σ 51) (σ 52) (σ 53) (σ 54) w hB f6 f7 f8 f9 f10 f13 f14 f15 f16 f17 f20 f21 f22 f23 f24 f27 f28 f29 f30 f31 f34 f35 f36 f37 f38 f39 f40 f43 f44 f45 f46 f47 f48 f49
    simp only [dstsL, List.filterMap_cons, List.filterMap_nil, setAll]
    rw [f0, f1, f2, f3, f4, f5, f11, f12, f18, f19, f25, f26, f32, f33, f41, f42, f50, f51]
    simp only [Act.put] at hq
    exact hq
set_option maxRecDepth 100000 in
set_option maxHeartbeats 1000000 in
theorem same_any (e : Ent) (A : Option Addr) (c : Nat) (B : Option Addr) (d : Nat) (y : Ent) (A2 : Option Addr) (c2 : Nat) (B2 : Option Addr) (d2 : Nat) (w : World) (HI : Hid (EntIn w e A c B d)) (HJ : Hid (EntIn w y A2 c2 B2 d2)) :
    Calls Tryd.prog 13 #[.agg #[.int .i64 e.no, .int .i64 e.time, .int .i64 e.code, .string e.who, .string e.what, .slice A e.prev.length c, .slice B e.hash.length d], .agg #[.int .i64 y.no, .int .i64 y.time, .int .i64 y.code, .string y.who, .string y.what, .slice A2 y.prev.length c2, .slice B2 y.hash.length d2]] w fun r w' => r = .returned (.bool (sameB e y)) ∧ Below w.heap.size w w' := by
  go_enter Tryd.func13, Tryd.ntmps13
  go_upto_region 1 with (fail)
  have hb2 := ext_trans (alloc_ext w (.cells (entCells e A c B d).toArray 30)) (alloc_ext _ (.cells (entCells y A2 c2 B2 d2).toArray 30))
  have q1 := entAt (e := e) (A := A) (c := c) (B := B) (d := d) (heap_keep (heap_alloc_new w (.cells (entCells e A c B d).toArray 30)) (alloc_ext _ (.cells (entCells y A2 c2 B2 d2).toArray 30)))
  have q2 := entAt (e := y) (A := A2) (c := c2) (B := B2) (d := d2) (heap_alloc_new (w.alloc (.cells (entCells e A c B d).toArray 30)) (.cells (entCells y A2 c2 B2 d2).toArray 30))
  have hs2 : (w.alloc (.cells (entCells e A c B d).toArray 30)).heap.size = w.heap.size + 1 := by simp
  rw [hs2] at q2
  refine same_r1 e A c B d w.heap.size y A2 c2 B2 d2 (w.heap.size + 1) (by rfl) (by rfl) q1 q2 (HI.out.below hb2) (HJ.out.below hb2) (by rfl) ?_
  clear q1 q2 hs2
  intros
  rename Below _ _ _ => hB
  have hb := ext_trans hb2 hB
  have HB := Lib.hid hb
  clear hB hb hb2
  simp only [Act.put, List.setIfInBounds_toArray, List.set_cons_zero, List.set_cons_succ]
  go_wp2_with fail
  go_ret
  exact ⟨rfl, HB.out⟩
end Go.Proofs.YtbjnpomcgcbflaaDoor
