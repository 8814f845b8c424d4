/- The walk of the law AuditChains. Written by wip/gen/XL10.py. -/
import Derived.Test.YtbjnpomcgcbflaaDoorL7
import Derived.Test.YtbjnpomcgcbflaaDoorD4
import Derived.Deep.MidRow
set_option linter.unusedVariables false
set_option linter.unusedSimpArgs false
set_option linter.unnecessarySimpa false
namespace Go.Proofs.YtbjnpomcgcbflaaDoor
open Go.RowKit Go.Deep

def Sm (e : Ent) : Prop := ∀ p ∈ saidB e ++ [e.hash], p.length ≤ 1000
theorem Sm.bytes {e : Ent} (h : Sm e) : (bytesB e).length ≤ 14014 := by
  have := encB_len _ _ h
  simp only [saidB, List.length_cons, List.length_nil, List.length_append] at this
  unfold bytesB
  exact Nat.le_trans this (by decide)
theorem sm_next {c : List Ent} {s : Say} (hc : ∀ e ∈ c, Sm e) (hs : okSay s = true) : Sm (nextB c s.time s.code s.who s.what) := by
  simp only [okSay, Bool.and_eq_true, decide_eq_true_eq] at hs
  have hh : (headB c).length ≤ 1000 := by
    unfold headB
    cases hq : c.getLast? with
    | none => simp [zeroB]
    | some e => exact hc e (List.mem_of_getLast? hq) _ (by simp)
  intro p hp
  simp only [saidB, nextB, List.cons_append, List.nil_append, List.mem_cons, List.not_mem_nil, or_false] at hp
  rcases hp with rfl | rfl | rfl | rfl | rfl | rfl | rfl
  · rw [wideB_length]; decide
  · rw [wideB_length]; decide
  · rw [wideB_length]; decide
  · rw [baL_length]; exact hs.1
  · rw [baL_length]; exact hs.2
  · exact hh
  · rw [shaOut_length]; decide
theorem chainB_sm {l : List Say} : ∀ c : List Ent, (∀ e ∈ c, Sm e) → (∀ s ∈ l, okSay s = true) → ∀ e ∈ chainB c l, Sm e := by
  induction l with
  | nil => intro c hc _; exact hc
  | cons s l ih =>
    intro c hc hs
    refine ih _ (fun e he => ?_) (fun x hx => hs x (List.mem_cons_of_mem _ hx))
    rcases List.mem_append.1 he with he | he
    · exact hc e he
    · simp at he
      subst he
      exact sm_next hc (hs s (by simp))
theorem chain_ver (l : List Say) : verB (chainB [] l) (headB (chainB [] l)) = (l.length, true) := by
  have g := chainB_good l [] goodNil
  have h1 := (verB_good _ _).2 g
  exact Prod.ext ((verB_len h1).trans (by rw [chainB_length]; simp)) h1
set_option maxRecDepth 100000 in
set_option maxHeartbeats 2000000 in
theorem chains_r12 {Q : Exit → Act → World → Prop} {a0 : Act} {w0 : World} (e : Ent) (A : Option Addr) (c : Nat) (B : Option Addr) (d : Nat) (A2 : Option Addr) (c2 : Nat) (B2 : Option Addr) (d2 : Nat) (b9 b o k n ca : Nat) (z4 : a0.tmps.getD 4 undef = .slice (some ⟨b, o, none⟩) n ca) (z8 : a0.tmps.getD 8 undef = .int .i64 (k : Int)) (z9 : a0.tmps.getD 9 undef = .pointer (some ⟨b9, 0, none⟩)) (hHK : (k : Int) < (n : Int)) (hHX : w0.rangeAt b9 0 (entCells e A c B d) ∧ EntIn w0 e A c B d) (hHY : EntAt w0 b (o + k * 7) e A2 c2 B2 d2) (zsz : a0.tmps.size = 113)
    (hQ : ∀ (v5 v6 : Value) (w1 : World), Below w0.heap.size w0 w1 → v5 = .bool true → v6 = .bool true → Q .normal (((((((a0.put (some 55) (.agg (entCells e A c B d).toArray)).put (some 56) (.slice (some ⟨b, o, none⟩) n ca)).put (some 57) (.int .i64 (k : Int))).put (some 58) (.pointer (some ⟨b, o + k * 7, none⟩))).put (some 59) (.agg (entCells e A2 c2 B2 d2).toArray)).put (some 60) v5).put (some 11) v6) w1) :
    (regOf Tryd.f10 12).wp Tryd.prog Q a0 w0 := by
  have Z4 := Lib.hid z4
  clear z4
  have Z8 := Lib.hid z8
  clear z8
  have Z9 := Lib.hid z9
  clear z9
  have HK := Lib.hid hHK
  clear hHK
  have HX := Lib.hid hHX
  clear hHX
  have HY := Lib.hid hHY
  clear hHY
  have HQ := Lib.hid hQ
  clear hQ
  conv => arg 2; whnf
  refine wp_region_facts true (by kernel_rfl) (by kernel_rfl) 113 (by kernel_rfl) zsz (by kernel_rfl) (Below w0.heap.size w0) (fun w w' => Below w.heap.size w w') (drewIf_ext _ _) (fun _ _ h k => ext_trans h k) (fun i v w => match i with
    | 0 => v = .agg (entCells e A c B d).toArray
    | 1 => v = .slice (some ⟨b, o, none⟩) n ca
    | 2 => v = .int .i64 (k : Int)
    | 3 => v = .pointer (some ⟨b, o + k * 7, none⟩)
    | 4 => v = .agg (entCells e A2 c2 B2 d2).toArray
    | 5 => v = .bool true
    | 6 => v = .bool true
    | _ => True) ?_ ?_ ?_
  · intro i v w w' h hb
    match i, h with
    | 0, h => exact h
    | 1, h => exact h
    | 2, h => exact h
    | 3, h => exact h
    | 4, h => exact h
    | 5, h => exact h
    | 6, h => exact h
    | _ + 7, _ => trivial
  refine Obs.cons (fun σ a w hB hσ hp K hK => ?_) ?_
  · rw [if_pos (by rfl)]
    have e9 : σ 9 = .pointer (some ⟨b9, 0, none⟩) := (hσ 9 (by kernel_rfl)).trans Z9.out
    refine stepS_load_mid 30 _ rfl (b9) (0) e9 (entCells e A c B d) _ (rangeAt_later hB HX.out.1) Tryd.underlying30 rfl (by kernel_rfl) ?_
    exact hK _ _ (Below.refl _ _) rfl
  refine Obs.cons (fun σ a w hB hσ hp K hK => ?_) ?_
  · rw [if_pos (by rfl)]
    have e4 : σ 4 = .slice (some ⟨b, o, none⟩) n ca := (hσ 4 (by kernel_rfl)).trans Z4.out
    refine stepS_move _ rfl _ e4 ?_
    exact hK _ _ (Below.refl _ _) rfl
  refine Obs.cons (fun σ a w hB hσ hp K hK => ?_) ?_
  · rw [if_pos (by rfl)]
    have e8 : σ 8 = .int .i64 (k : Int) := (hσ 8 (by kernel_rfl)).trans Z8.out
    refine stepS_move _ rfl _ e8 ?_
    exact hK _ _ (Below.refl _ _) rfl
  refine Obs.cons (fun σ a w hB hσ hp K hK => ?_) ?_
  · rw [if_pos (by rfl)]
    have e56 : σ 56 = .slice (some ⟨b, o, none⟩) n ca := (hp 1 rfl)
    have e57 : σ 57 = .int .i64 (k : Int) := (hp 2 rfl)
    have hc := HK.out
    have HK := Lib.hid hK
    have HB := Lib.hid hB
    clear hK hp hσ hB
    unfold stepS
    go_simp
    exact HK.out _ _ (Below.refl _ _) rfl
  refine Obs.cons (fun σ a w hB hσ hp K hK => ?_) ?_
  · rw [if_pos (by rfl)]
    have e58 : σ 58 = .pointer (some ⟨b, o + k * 7, none⟩) := (hp 3 rfl)
    refine stepS_load_mid 30 _ rfl (b) (o + k * 7) e58 (entCells e A2 c2 B2 d2) _ (rangeAt_later hB HY.out.row) Tryd.underlying30 rfl (by kernel_rfl) ?_
    exact hK _ _ (Below.refl _ _) rfl
  refine Obs.cons (fun σ a w hB hσ hp K hK => ?_) ?_
  · rw [if_pos (by rfl)]
    have e55 : σ 55 = .agg (entCells e A c B d).toArray := (hp 0 rfl)
    have e59 : σ 59 = .agg (entCells e A2 c2 B2 d2).toArray := (hp 4 rfl)
    refine stepS_call _ Tryd.func13 (by kernel_rfl) (by kernel_rfl) _ _ rfl _ rfl ?_
    simp only [List.map_toArray, List.map_cons, List.map_nil, evalS, e55, e59]
    refine Calls.mono ((by have h := same_any e A c B d e A2 c2 B2 d2 w (HX.out.2.below hB) (HY.out.hi.below hB); rw [sameB_eq.2 rfl] at h; exact h)) ?_
    rintro e w1 ⟨rfl, hb⟩
    exact ⟨_, rfl, hK _ _ (hb) rfl⟩
  refine Obs.cons (fun σ a w hB hσ hp K hK => ?_) ?_
  · rw [if_pos (by rfl)]
    have e60 : σ 60 = .bool true := (hp 5 rfl)
    refine stepS_assign _ rfl _ rfl ?_
    exact hK _ _ (Below.refl _ _) e60
  · exact Obs.nil _
  · intro σ w hB hf
    have f0 : σ 55 = .agg (entCells e A c B d).toArray := hf 0 (by decide)
    have f1 : σ 56 = .slice (some ⟨b, o, none⟩) n ca := hf 1 (by decide)
    have f2 : σ 57 = .int .i64 (k : Int) := hf 2 (by decide)
    have f3 : σ 58 = .pointer (some ⟨b, o + k * 7, none⟩) := hf 3 (by decide)
    have f4 : σ 59 = .agg (entCells e A2 c2 B2 d2).toArray := hf 4 (by decide)
    have f5 : σ 60 = .bool true := hf 5 (by decide)
    have f6 : σ 11 = .bool true := hf 6 (by decide)
    have hq := HQ.out (σ 60) (σ 11) w hB f5 f6
    simp only [dstsL, List.filterMap_cons, List.filterMap_nil, setAll]
    rw [f0, f1, f2, f3, f4]
    simp only [Act.put] at hq
    exact hq
set_option maxRecDepth 100000 in
set_option maxHeartbeats 2000000 in
theorem chains_r13 {Q : Exit → Act → World → Prop} {a0 : Act} {w0 : World} (s : Say) (b9 b o k n ca : Nat) (z0 : a0.tmps.getD 0 undef = .slice (some ⟨b, o, none⟩) n ca) (z8 : a0.tmps.getD 8 undef = .int .i64 (k : Int)) (z9 : a0.tmps.getD 9 undef = .pointer (some ⟨b9, 0, none⟩)) (z10 : a0.tmps.getD 10 undef = .bool true) (z11 : a0.tmps.getD 11 undef = .bool true) (hHK : (k : Int) < (n : Int)) (hHE : w0.cell? ⟨b9, 0, none⟩ = some (.int .i64 (k : Int)) ∧ w0.cell? ⟨b9, 1, none⟩ = some (.int .i64 s.time) ∧ w0.cell? ⟨b9, 2, none⟩ = some (.int .i64 s.code) ∧ w0.cell? ⟨b9, 3, none⟩ = some (.string s.who) ∧ w0.cell? ⟨b9, 4, none⟩ = some (.string s.what)) (hHS : w0.cell? ⟨b, o + k * 4, none⟩ = some (.int .i64 s.time) ∧ w0.cell? ⟨b, o + k * 4 + 1, none⟩ = some (.int .i64 s.code) ∧ w0.cell? ⟨b, o + k * 4 + 2, none⟩ = some (.string s.who) ∧ w0.cell? ⟨b, o + k * 4 + 3, none⟩ = some (.string s.what)) (zsz : a0.tmps.size = 113)
    (hQ : ∀ (v3 v4 v7 v8 v9 v10 v13 v14 v15 v16 v17 v18 v19 v20 v23 v24 v25 v26 v27 v28 v29 v30 v33 v34 v35 v36 v37 v38 v39 v40 v43 v44 v45 v46 v47 v48 v49 v50 : Value) (w1 : World), Below w0.heap.size w0 w1 → (false = false → v3 = .bool true) → (false = false → v4 = .bool false) → (false = false → v7 = .pointer (some ⟨b9, 0, none⟩)) → (false = false → v8 = .int .i64 (k : Int)) → (false = false → v9 = .int .i64 (k : Int)) → (false = false → v10 = .bool false) → (false = false → v13 = .pointer (some ⟨b9, 1, none⟩)) → (false = false → v14 = .int .i64 s.time) → (false = false → v15 = .slice (some ⟨b, o, none⟩) n ca) → (false = false → v16 = .int .i64 (k : Int)) → (false = false → v17 = .pointer (some ⟨b, o + k * 4, none⟩)) → (false = false → v18 = .pointer (some ⟨b, o + k * 4, none⟩)) → (false = false → v19 = .int .i64 s.time) → (false = false → v20 = .bool false) → (false = false → v23 = .pointer (some ⟨b9, 2, none⟩)) → (false = false → v24 = .int .i64 s.code) → (false = false → v25 = .slice (some ⟨b, o, none⟩) n ca) → (false = false → v26 = .int .i64 (k : Int)) → (false = false → v27 = .pointer (some ⟨b, o + k * 4, none⟩)) → (false = false → v28 = .pointer (some ⟨b, o + k * 4 + 1, none⟩)) → (false = false → v29 = .int .i64 s.code) → (false = false → v30 = .bool false) → (false = false → v33 = .pointer (some ⟨b9, 3, none⟩)) → (false = false → v34 = .string s.who) → (false = false → v35 = .slice (some ⟨b, o, none⟩) n ca) → (false = false → v36 = .int .i64 (k : Int)) → (false = false → v37 = .pointer (some ⟨b, o + k * 4, none⟩)) → (false = false → v38 = .pointer (some ⟨b, o + k * 4 + 2, none⟩)) → (false = false → v39 = .string s.who) → (false = false → v40 = .bool false) → (false = false → v43 = .pointer (some ⟨b9, 4, none⟩)) → (false = false → v44 = .string s.what) → (false = false → v45 = .slice (some ⟨b, o, none⟩) n ca) → (false = false → v46 = .int .i64 (k : Int)) → (false = false → v47 = .pointer (some ⟨b, o + k * 4, none⟩)) → (false = false → v48 = .pointer (some ⟨b, o + k * 4 + 3, none⟩)) → (false = false → v49 = .string s.what) → (false = false → v50 = .bool false) → Q .normal ((((((((((((((((((((((((((((((((((((((((((((((((((((a0.put (some 61) (.bool true)).put (some 62) (.bool false)).put (some 63) (.bool false)).put (some 64) v3).put (some 65) v4).put (some 66) (.bool false)).put (some 67) (.bool false)).put (some 68) v7).put (some 69) v8).put (some 70) v9).put (some 71) v10).put (some 72) (.bool false)).put (some 73) (.bool false)).put (some 74) v13).put (some 75) v14).put (some 76) v15).put (some 77) v16).put (some 78) v17).put (some 79) v18).put (some 80) v19).put (some 81) v20).put (some 82) (.bool false)).put (some 83) (.bool false)).put (some 84) v23).put (some 85) v24).put (some 86) v25).put (some 87) v26).put (some 88) v27).put (some 89) v28).put (some 90) v29).put (some 91) v30).put (some 92) (.bool false)).put (some 93) (.bool false)).put (some 94) v33).put (some 95) v34).put (some 96) v35).put (some 97) v36).put (some 98) v37).put (some 99) v38).put (some 100) v39).put (some 101) v40).put (some 102) (.bool false)).put (some 103) (.bool false)).put (some 104) v43).put (some 105) v44).put (some 106) v45).put (some 107) v46).put (some 108) v47).put (some 109) v48).put (some 110) v49).put (some 111) v50).put (some 112) (.bool false)) w1) :
    (regOf Tryd.f10 13).wp Tryd.prog Q a0 w0 := by
  have Z0 := Lib.hid z0
  clear z0
  have Z8 := Lib.hid z8
  clear z8
  have Z9 := Lib.hid z9
  clear z9
  have Z10 := Lib.hid z10
  clear z10
  have Z11 := Lib.hid z11
  clear z11
  have HK := Lib.hid hHK
  clear hHK
  have HE := Lib.hid hHE
  clear hHE
  have HS := Lib.hid hHS
  clear hHS
  have HQ := Lib.hid hQ
  clear hQ
  conv => arg 2; whnf
  refine wp_region_facts true (by kernel_rfl) (by kernel_rfl) 113 (by kernel_rfl) zsz (by kernel_rfl) (Below w0.heap.size w0) (fun w w' => Below w.heap.size w w') (drewIf_ext _ _) (fun _ _ h k => ext_trans h k) (fun i v w => match i with
    | 0 => v = .bool true
    | 1 => v = .bool false
    | 2 => v = .bool false
    | 3 => (false = false → v = .bool true)
    | 4 => (false = false → v = .bool false)
    | 5 => v = .bool false
    | 6 => v = .bool false
    | 7 => (false = false → v = .pointer (some ⟨b9, 0, none⟩))
    | 8 => (false = false → v = .int .i64 (k : Int))
    | 9 => (false = false → v = .int .i64 (k : Int))
    | 10 => (false = false → v = .bool false)
    | 11 => v = .bool false
    | 12 => v = .bool false
    | 13 => (false = false → v = .pointer (some ⟨b9, 1, none⟩))
    | 14 => (false = false → v = .int .i64 s.time)
    | 15 => (false = false → v = .slice (some ⟨b, o, none⟩) n ca)
    | 16 => (false = false → v = .int .i64 (k : Int))
    | 17 => (false = false → v = .pointer (some ⟨b, o + k * 4, none⟩))
    | 18 => (false = false → v = .pointer (some ⟨b, o + k * 4, none⟩))
    | 19 => (false = false → v = .int .i64 s.time)
    | 20 => (false = false → v = .bool false)
    | 21 => v = .bool false
    | 22 => v = .bool false
    | 23 => (false = false → v = .pointer (some ⟨b9, 2, none⟩))
    | 24 => (false = false → v = .int .i64 s.code)
    | 25 => (false = false → v = .slice (some ⟨b, o, none⟩) n ca)
    | 26 => (false = false → v = .int .i64 (k : Int))
    | 27 => (false = false → v = .pointer (some ⟨b, o + k * 4, none⟩))
    | 28 => (false = false → v = .pointer (some ⟨b, o + k * 4 + 1, none⟩))
    | 29 => (false = false → v = .int .i64 s.code)
    | 30 => (false = false → v = .bool false)
    | 31 => v = .bool false
    | 32 => v = .bool false
    | 33 => (false = false → v = .pointer (some ⟨b9, 3, none⟩))
    | 34 => (false = false → v = .string s.who)
    | 35 => (false = false → v = .slice (some ⟨b, o, none⟩) n ca)
    | 36 => (false = false → v = .int .i64 (k : Int))
    | 37 => (false = false → v = .pointer (some ⟨b, o + k * 4, none⟩))
    | 38 => (false = false → v = .pointer (some ⟨b, o + k * 4 + 2, none⟩))
    | 39 => (false = false → v = .string s.who)
    | 40 => (false = false → v = .bool false)
    | 41 => v = .bool false
    | 42 => v = .bool false
    | 43 => (false = false → v = .pointer (some ⟨b9, 4, none⟩))
    | 44 => (false = false → v = .string s.what)
    | 45 => (false = false → v = .slice (some ⟨b, o, none⟩) n ca)
    | 46 => (false = false → v = .int .i64 (k : Int))
    | 47 => (false = false → v = .pointer (some ⟨b, o + k * 4, none⟩))
    | 48 => (false = false → v = .pointer (some ⟨b, o + k * 4 + 3, none⟩))
    | 49 => (false = false → v = .string s.what)
    | 50 => (false = false → v = .bool false)
    | 51 => v = .bool false
    | _ => True) ?_ ?_ ?_
  · intro i v w w' h hb
    match i, h with
    | 0, h => exact h
    | 1, h => exact h
    | 2, h => exact h
    | 3, h => exact h
    | 4, h => exact h
    | 5, h => exact h
    | 6, h => exact h
    | 7, h => exact h
    | 8, h => exact h
    | 9, h => exact h
    | 10, h => exact h
    | 11, h => exact h
    | 12, h => exact h
    | 13, h => exact h
    | 14, h => exact h
    | 15, h => exact h
    | 16, h => exact h
    | 17, h => exact h
    | 18, h => exact h
    | 19, h => exact h
    | 20, h => exact h
    | 21, h => exact h
    | 22, h => exact h
    | 23, h => exact h
    | 24, h => exact h
    | 25, h => exact h
    | 26, h => exact h
    | 27, h => exact h
    | 28, h => exact h
    | 29, h => exact h
    | 30, h => exact h
    | 31, h => exact h
    | 32, h => exact h
    | 33, h => exact h
    | 34, h => exact h
    | 35, h => exact h
    | 36, h => exact h
    | 37, h => exact h
    | 38, h => exact h
    | 39, h => exact h
    | 40, h => exact h
    | 41, h => exact h
    | 42, h => exact h
    | 43, h => exact h
    | 44, h => exact h
    | 45, h => exact h
    | 46, h => exact h
    | 47, h => exact h
    | 48, h => exact h
    | 49, h => exact h
    | 50, h => exact h
    | 51, h => exact h
    | _ + 52, _ => trivial
  refine Obs.cons (fun σ a w hB hσ hp K hK => ?_) ?_
  · rw [if_pos (by rfl)]
    have e10 : σ 10 = .bool true := (hσ 10 (by kernel_rfl)).trans Z10.out
    refine stepS_move _ rfl _ e10 ?_
    exact hK _ _ (Below.refl _ _) rfl
  refine Obs.cons (fun σ a w hB hσ hp K hK => ?_) ?_
  · rw [if_pos (by rfl)]
    have e61 : σ 61 = .bool true := (hp 0 rfl)
    have HK := Lib.hid hK
    have HB := Lib.hid hB
    clear hK hp hσ hB
    unfold stepS
    go_simp
    exact HK.out _ _ (Below.refl _ _) rfl
  refine Obs.cons (fun σ a w hB hσ hp K hK => ?_) ?_
  · rw [if_pos (by rfl)]
    have e62 : σ 62 = .bool false := (hp 1 rfl)
    refine stepS_move _ rfl _ e62 ?_
    exact hK _ _ (Below.refl _ _) rfl
  refine Obs.cons (fun σ a w hB hσ hp K hK => ?_) ?_
  · have eg : σ 63 = .bool false := hp 2 rfl
    rw [wantedS_of (d := 63) rfl rfl eg]
    by_cases hg : false = false
    rotate_left
    · rw [if_neg (by simpa using hg)]
      exact hK _ _ (Below.refl _ _) (fun h => absurd h hg)
    rw [if_pos (by simpa using hg)]
    have e11 : σ 11 = .bool true := (hσ 11 (by kernel_rfl)).trans Z11.out
    refine stepS_move _ rfl _ e11 ?_
    exact hK _ _ (Below.refl _ _) (fun _ => rfl)
  refine Obs.cons (fun σ a w hB hσ hp K hK => ?_) ?_
  · have eg : σ 63 = .bool false := hp 2 rfl
    rw [wantedS_of (d := 63) rfl rfl eg]
    by_cases hg : false = false
    rotate_left
    · rw [if_neg (by simpa using hg)]
      exact hK _ _ (Below.refl _ _) (fun h => absurd h hg)
    rw [if_pos (by simpa using hg)]
    have e64 : σ 64 = .bool true := (hp 3 rfl) hg
    have HK := Lib.hid hK
    have HB := Lib.hid hB
    clear hK hp hσ hB eg
    have HG := Lib.hid hg
    clear hg
    unfold stepS
    go_simp
    exact HK.out _ _ (Below.refl _ _) (fun _ => rfl)
  refine Obs.cons (fun σ a w hB hσ hp K hK => ?_) ?_
  · rw [if_pos (by rfl)]
    have e63 : σ 63 = .bool false := (hp 2 rfl)
    have e65 : (false = false → σ 65 = .bool false) := hp 4 rfl
    refine stepS_pick _ _ _ rfl false e63 (.bool false) (by rw [if_neg (by decide)]; exact (e65 rfl).symm) ?_
    exact hK _ _ (Below.refl _ _) rfl
  refine Obs.cons (fun σ a w hB hσ hp K hK => ?_) ?_
  · rw [if_pos (by rfl)]
    have e66 : σ 66 = .bool false := (hp 5 rfl)
    refine stepS_move _ rfl _ e66 ?_
    exact hK _ _ (Below.refl _ _) rfl
  refine Obs.cons (fun σ a w hB hσ hp K hK => ?_) ?_
  · have eg : σ 67 = .bool false := hp 6 rfl
    rw [wantedS_of (d := 67) rfl rfl eg]
    by_cases hg : false = false
    rotate_left
    · rw [if_neg (by simpa using hg)]
      exact hK _ _ (Below.refl _ _) (fun h => absurd h hg)
    rw [if_pos (by simpa using hg)]
    have e9 : σ 9 = .pointer (some ⟨b9, 0, none⟩) := (hσ 9 (by kernel_rfl)).trans Z9.out
    have HK := Lib.hid hK
    have HB := Lib.hid hB
    clear hK hp hσ hB eg
    have HG := Lib.hid hg
    clear hg
    unfold stepS
    go_simp
    exact HK.out _ _ (Below.refl _ _) (fun _ => rfl)
  refine Obs.cons (fun σ a w hB hσ hp K hK => ?_) ?_
  · have eg : σ 67 = .bool false := hp 6 rfl
    rw [wantedS_of (d := 67) rfl rfl eg]
    by_cases hg : false = false
    rotate_left
    · rw [if_neg (by simpa using hg)]
      exact hK _ _ (Below.refl _ _) (fun h => absurd h hg)
    rw [if_pos (by simpa using hg)]
    have e68 : σ 68 = .pointer (some ⟨b9, 0, none⟩) := (hp 7 rfl) hg
    have hc := cell_later hB (HE.out.1)
    have HK := Lib.hid hK
    have HB := Lib.hid hB
    clear hK hp hσ hB eg
    have HG := Lib.hid hg
    clear hg
    unfold stepS
    go_simp
    exact HK.out _ _ (Below.refl _ _) (fun _ => rfl)
  refine Obs.cons (fun σ a w hB hσ hp K hK => ?_) ?_
  · have eg : σ 67 = .bool false := hp 6 rfl
    rw [wantedS_of (d := 67) rfl rfl eg]
    by_cases hg : false = false
    rotate_left
    · rw [if_neg (by simpa using hg)]
      exact hK _ _ (Below.refl _ _) (fun h => absurd h hg)
    rw [if_pos (by simpa using hg)]
    have e8 : σ 8 = .int .i64 (k : Int) := (hσ 8 (by kernel_rfl)).trans Z8.out
    refine stepS_move _ rfl _ e8 ?_
    exact hK _ _ (Below.refl _ _) (fun _ => rfl)
  refine Obs.cons (fun σ a w hB hσ hp K hK => ?_) ?_
  · have eg : σ 67 = .bool false := hp 6 rfl
    rw [wantedS_of (d := 67) rfl rfl eg]
    by_cases hg : false = false
    rotate_left
    · rw [if_neg (by simpa using hg)]
      exact hK _ _ (Below.refl _ _) (fun h => absurd h hg)
    rw [if_pos (by simpa using hg)]
    have e69 : σ 69 = .int .i64 (k : Int) := (hp 8 rfl) hg
    have e70 : σ 70 = .int .i64 (k : Int) := (hp 9 rfl) hg
    have HK := Lib.hid hK
    have HB := Lib.hid hB
    clear hK hp hσ hB eg
    have HG := Lib.hid hg
    clear hg
    unfold stepS
    go_simp
    exact HK.out _ _ (Below.refl _ _) (fun _ => rfl)
  refine Obs.cons (fun σ a w hB hσ hp K hK => ?_) ?_
  · rw [if_pos (by rfl)]
    have e67 : σ 67 = .bool false := (hp 6 rfl)
    have e71 : (false = false → σ 71 = .bool false) := hp 10 rfl
    refine stepS_pick _ _ _ rfl false e67 (.bool false) (by rw [if_neg (by decide)]; exact (e71 rfl).symm) ?_
    exact hK _ _ (Below.refl _ _) rfl
  refine Obs.cons (fun σ a w hB hσ hp K hK => ?_) ?_
  · rw [if_pos (by rfl)]
    have e72 : σ 72 = .bool false := (hp 11 rfl)
    refine stepS_move _ rfl _ e72 ?_
    exact hK _ _ (Below.refl _ _) rfl
  refine Obs.cons (fun σ a w hB hσ hp K hK => ?_) ?_
  · have eg : σ 73 = .bool false := hp 12 rfl
    rw [wantedS_of (d := 73) rfl rfl eg]
    by_cases hg : false = false
    rotate_left
    · rw [if_neg (by simpa using hg)]
      exact hK _ _ (Below.refl _ _) (fun h => absurd h hg)
    rw [if_pos (by simpa using hg)]
    have e9 : σ 9 = .pointer (some ⟨b9, 0, none⟩) := (hσ 9 (by kernel_rfl)).trans Z9.out
    have HK := Lib.hid hK
    have HB := Lib.hid hB
    clear hK hp hσ hB eg
    have HG := Lib.hid hg
    clear hg
    unfold stepS
    go_simp
    exact HK.out _ _ (Below.refl _ _) (fun _ => rfl)
  refine Obs.cons (fun σ a w hB hσ hp K hK => ?_) ?_
  · have eg : σ 73 = .bool false := hp 12 rfl
    rw [wantedS_of (d := 73) rfl rfl eg]
    by_cases hg : false = false
    rotate_left
    · rw [if_neg (by simpa using hg)]
      exact hK _ _ (Below.refl _ _) (fun h => absurd h hg)
    rw [if_pos (by simpa using hg)]
    have e74 : σ 74 = .pointer (some ⟨b9, 1, none⟩) := (hp 13 rfl) hg
    have hc := cell_later hB (HE.out.2.1)
    have HK := Lib.hid hK
    have HB := Lib.hid hB
    clear hK hp hσ hB eg
    have HG := Lib.hid hg
    clear hg
    unfold stepS
    go_simp
    exact HK.out _ _ (Below.refl _ _) (fun _ => rfl)
  refine Obs.cons (fun σ a w hB hσ hp K hK => ?_) ?_
  · have eg : σ 73 = .bool false := hp 12 rfl
    rw [wantedS_of (d := 73) rfl rfl eg]
    by_cases hg : false = false
    rotate_left
    · rw [if_neg (by simpa using hg)]
      exact hK _ _ (Below.refl _ _) (fun h => absurd h hg)
    rw [if_pos (by simpa using hg)]
    have e0 : σ 0 = .slice (some ⟨b, o, none⟩) n ca := (hσ 0 (by kernel_rfl)).trans Z0.out
    refine stepS_move _ rfl _ e0 ?_
    exact hK _ _ (Below.refl _ _) (fun _ => rfl)
  refine Obs.cons (fun σ a w hB hσ hp K hK => ?_) ?_
  · have eg : σ 73 = .bool false := hp 12 rfl
    rw [wantedS_of (d := 73) rfl rfl eg]
    by_cases hg : false = false
    rotate_left
    · rw [if_neg (by simpa using hg)]
      exact hK _ _ (Below.refl _ _) (fun h => absurd h hg)
    rw [if_pos (by simpa using hg)]
    have e8 : σ 8 = .int .i64 (k : Int) := (hσ 8 (by kernel_rfl)).trans Z8.out
    refine stepS_move _ rfl _ e8 ?_
    exact hK _ _ (Below.refl _ _) (fun _ => rfl)
  refine Obs.cons (fun σ a w hB hσ hp K hK => ?_) ?_
  · have eg : σ 73 = .bool false := hp 12 rfl
    rw [wantedS_of (d := 73) rfl rfl eg]
    by_cases hg : false = false
    rotate_left
    · rw [if_neg (by simpa using hg)]
      exact hK _ _ (Below.refl _ _) (fun h => absurd h hg)
    rw [if_pos (by simpa using hg)]
    have e76 : σ 76 = .slice (some ⟨b, o, none⟩) n ca := (hp 15 rfl) hg
    have e77 : σ 77 = .int .i64 (k : Int) := (hp 16 rfl) hg
    have hc := HK.out
    have HK := Lib.hid hK
    have HB := Lib.hid hB
    clear hK hp hσ hB eg
    have HG := Lib.hid hg
    clear hg
    unfold stepS
    go_simp
    exact HK.out _ _ (Below.refl _ _) (fun _ => rfl)
  refine Obs.cons (fun σ a w hB hσ hp K hK => ?_) ?_
  · have eg : σ 73 = .bool false := hp 12 rfl
    rw [wantedS_of (d := 73) rfl rfl eg]
    by_cases hg : false = false
    rotate_left
    · rw [if_neg (by simpa using hg)]
      exact hK _ _ (Below.refl _ _) (fun h => absurd h hg)
    rw [if_pos (by simpa using hg)]
    have e78 : σ 78 = .pointer (some ⟨b, o + k * 4, none⟩) := (hp 17 rfl) hg
    have HK := Lib.hid hK
    have HB := Lib.hid hB
    clear hK hp hσ hB eg
    have HG := Lib.hid hg
    clear hg
    unfold stepS
    go_simp
    exact HK.out _ _ (Below.refl _ _) (fun _ => rfl)
  refine Obs.cons (fun σ a w hB hσ hp K hK => ?_) ?_
  · have eg : σ 73 = .bool false := hp 12 rfl
    rw [wantedS_of (d := 73) rfl rfl eg]
    by_cases hg : false = false
    rotate_left
    · rw [if_neg (by simpa using hg)]
      exact hK _ _ (Below.refl _ _) (fun h => absurd h hg)
    rw [if_pos (by simpa using hg)]
    have e79 : σ 79 = .pointer (some ⟨b, o + k * 4, none⟩) := (hp 18 rfl) hg
    have hc := cell_later hB (HS.out.1)
    have HK := Lib.hid hK
    have HB := Lib.hid hB
    clear hK hp hσ hB eg
    have HG := Lib.hid hg
    clear hg
    unfold stepS
    go_simp
    exact HK.out _ _ (Below.refl _ _) (fun _ => rfl)
  refine Obs.cons (fun σ a w hB hσ hp K hK => ?_) ?_
  · have eg : σ 73 = .bool false := hp 12 rfl
    rw [wantedS_of (d := 73) rfl rfl eg]
    by_cases hg : false = false
    rotate_left
    · rw [if_neg (by simpa using hg)]
      exact hK _ _ (Below.refl _ _) (fun h => absurd h hg)
    rw [if_pos (by simpa using hg)]
    have e75 : σ 75 = .int .i64 s.time := (hp 14 rfl) hg
    have e80 : σ 80 = .int .i64 s.time := (hp 19 rfl) hg
    have HK := Lib.hid hK
    have HB := Lib.hid hB
    clear hK hp hσ hB eg
    have HG := Lib.hid hg
    clear hg
    unfold stepS
    go_simp
    exact HK.out _ _ (Below.refl _ _) (fun _ => rfl)
  refine Obs.cons (fun σ a w hB hσ hp K hK => ?_) ?_
  · rw [if_pos (by rfl)]
    have e73 : σ 73 = .bool false := (hp 12 rfl)
    have e81 : (false = false → σ 81 = .bool false) := hp 20 rfl
    refine stepS_pick _ _ _ rfl false e73 (.bool false) (by rw [if_neg (by decide)]; exact (e81 rfl).symm) ?_
    exact hK _ _ (Below.refl _ _) rfl
  refine Obs.cons (fun σ a w hB hσ hp K hK => ?_) ?_
  · rw [if_pos (by rfl)]
    have e82 : σ 82 = .bool false := (hp 21 rfl)
    refine stepS_move _ rfl _ e82 ?_
    exact hK _ _ (Below.refl _ _) rfl
  refine Obs.cons (fun σ a w hB hσ hp K hK => ?_) ?_
  · have eg : σ 83 = .bool false := hp 22 rfl
    rw [wantedS_of (d := 83) rfl rfl eg]
    by_cases hg : false = false
    rotate_left
    · rw [if_neg (by simpa using hg)]
      exact hK _ _ (Below.refl _ _) (fun h => absurd h hg)
    rw [if_pos (by simpa using hg)]
    have e9 : σ 9 = .pointer (some ⟨b9, 0, none⟩) := (hσ 9 (by kernel_rfl)).trans Z9.out
    have HK := Lib.hid hK
    have HB := Lib.hid hB
    clear hK hp hσ hB eg
    have HG := Lib.hid hg
    clear hg
    unfold stepS
    go_simp
    exact HK.out _ _ (Below.refl _ _) (fun _ => rfl)
  refine Obs.cons (fun σ a w hB hσ hp K hK => ?_) ?_
  · have eg : σ 83 = .bool false := hp 22 rfl
    rw [wantedS_of (d := 83) rfl rfl eg]
    by_cases hg : false = false
    rotate_left
    · rw [if_neg (by simpa using hg)]
      exact hK _ _ (Below.refl _ _) (fun h => absurd h hg)
    rw [if_pos (by simpa using hg)]
    have e84 : σ 84 = .pointer (some ⟨b9, 2, none⟩) := (hp 23 rfl) hg
    have hc := cell_later hB (HE.out.2.2.1)
    have HK := Lib.hid hK
    have HB := Lib.hid hB
    clear hK hp hσ hB eg
    have HG := Lib.hid hg
    clear hg
    unfold stepS
    go_simp
    exact HK.out _ _ (Below.refl _ _) (fun _ => rfl)
  refine Obs.cons (fun σ a w hB hσ hp K hK => ?_) ?_
  · have eg : σ 83 = .bool false := hp 22 rfl
    rw [wantedS_of (d := 83) rfl rfl eg]
    by_cases hg : false = false
    rotate_left
    · rw [if_neg (by simpa using hg)]
      exact hK _ _ (Below.refl _ _) (fun h => absurd h hg)
    rw [if_pos (by simpa using hg)]
    have e0 : σ 0 = .slice (some ⟨b, o, none⟩) n ca := (hσ 0 (by kernel_rfl)).trans Z0.out
    refine stepS_move _ rfl _ e0 ?_
    exact hK _ _ (Below.refl _ _) (fun _ => rfl)
  refine Obs.cons (fun σ a w hB hσ hp K hK => ?_) ?_
  · have eg : σ 83 = .bool false := hp 22 rfl
    rw [wantedS_of (d := 83) rfl rfl eg]
    by_cases hg : false = false
    rotate_left
    · rw [if_neg (by simpa using hg)]
      exact hK _ _ (Below.refl _ _) (fun h => absurd h hg)
    rw [if_pos (by simpa using hg)]
    have e8 : σ 8 = .int .i64 (k : Int) := (hσ 8 (by kernel_rfl)).trans Z8.out
    refine stepS_move _ rfl _ e8 ?_
    exact hK _ _ (Below.refl _ _) (fun _ => rfl)
  refine Obs.cons (fun σ a w hB hσ hp K hK => ?_) ?_
  · have eg : σ 83 = .bool false := hp 22 rfl
    rw [wantedS_of (d := 83) rfl rfl eg]
    by_cases hg : false = false
    rotate_left
    · rw [if_neg (by simpa using hg)]
      exact hK _ _ (Below.refl _ _) (fun h => absurd h hg)
    rw [if_pos (by simpa using hg)]
    have e86 : σ 86 = .slice (some ⟨b, o, none⟩) n ca := (hp 25 rfl) hg
    have e87 : σ 87 = .int .i64 (k : Int) := (hp 26 rfl) hg
    have hc := HK.out
    have HK := Lib.hid hK
    have HB := Lib.hid hB
    clear hK hp hσ hB eg
    have HG := Lib.hid hg
    clear hg
    unfold stepS
    go_simp
    exact HK.out _ _ (Below.refl _ _) (fun _ => rfl)
  refine Obs.cons (fun σ a w hB hσ hp K hK => ?_) ?_
  · have eg : σ 83 = .bool false := hp 22 rfl
    rw [wantedS_of (d := 83) rfl rfl eg]
    by_cases hg : false = false
    rotate_left
    · rw [if_neg (by simpa using hg)]
      exact hK _ _ (Below.refl _ _) (fun h => absurd h hg)
    rw [if_pos (by simpa using hg)]
    have e88 : σ 88 = .pointer (some ⟨b, o + k * 4, none⟩) := (hp 27 rfl) hg
    have HK := Lib.hid hK
    have HB := Lib.hid hB
    clear hK hp hσ hB eg
    have HG := Lib.hid hg
    clear hg
    unfold stepS
    go_simp
    exact HK.out _ _ (Below.refl _ _) (fun _ => rfl)
  refine Obs.cons (fun σ a w hB hσ hp K hK => ?_) ?_
  · have eg : σ 83 = .bool false := hp 22 rfl
    rw [wantedS_of (d := 83) rfl rfl eg]
    by_cases hg : false = false
    rotate_left
    · rw [if_neg (by simpa using hg)]
      exact hK _ _ (Below.refl _ _) (fun h => absurd h hg)
    rw [if_pos (by simpa using hg)]
    have e89 : σ 89 = .pointer (some ⟨b, o + k * 4 + 1, none⟩) := (hp 28 rfl) hg
    have hc := cell_later hB (HS.out.2.1)
    have HK := Lib.hid hK
    have HB := Lib.hid hB
    clear hK hp hσ hB eg
    have HG := Lib.hid hg
    clear hg
    unfold stepS
    go_simp
    exact HK.out _ _ (Below.refl _ _) (fun _ => rfl)
  refine Obs.cons (fun σ a w hB hσ hp K hK => ?_) ?_
  · have eg : σ 83 = .bool false := hp 22 rfl
    rw [wantedS_of (d := 83) rfl rfl eg]
    by_cases hg : false = false
    rotate_left
    · rw [if_neg (by simpa using hg)]
      exact hK _ _ (Below.refl _ _) (fun h => absurd h hg)
    rw [if_pos (by simpa using hg)]
    have e85 : σ 85 = .int .i64 s.code := (hp 24 rfl) hg
    have e90 : σ 90 = .int .i64 s.code := (hp 29 rfl) hg
    have HK := Lib.hid hK
    have HB := Lib.hid hB
    clear hK hp hσ hB eg
    have HG := Lib.hid hg
    clear hg
    unfold stepS
    go_simp
    exact HK.out _ _ (Below.refl _ _) (fun _ => rfl)
  refine Obs.cons (fun σ a w hB hσ hp K hK => ?_) ?_
  · rw [if_pos (by rfl)]
    have e83 : σ 83 = .bool false := (hp 22 rfl)
    have e91 : (false = false → σ 91 = .bool false) := hp 30 rfl
    refine stepS_pick _ _ _ rfl false e83 (.bool false) (by rw [if_neg (by decide)]; exact (e91 rfl).symm) ?_
    exact hK _ _ (Below.refl _ _) rfl
  refine Obs.cons (fun σ a w hB hσ hp K hK => ?_) ?_
  · rw [if_pos (by rfl)]
    have e92 : σ 92 = .bool false := (hp 31 rfl)
    refine stepS_move _ rfl _ e92 ?_
    exact hK _ _ (Below.refl _ _) rfl
  refine Obs.cons (fun σ a w hB hσ hp K hK => ?_) ?_
  · have eg : σ 93 = .bool false := hp 32 rfl
    rw [wantedS_of (d := 93) rfl rfl eg]
    by_cases hg : false = false
    rotate_left
    · rw [if_neg (by simpa using hg)]
      exact hK _ _ (Below.refl _ _) (fun h => absurd h hg)
    rw [if_pos (by simpa using hg)]
    have e9 : σ 9 = .pointer (some ⟨b9, 0, none⟩) := (hσ 9 (by kernel_rfl)).trans Z9.out
    have HK := Lib.hid hK
    have HB := Lib.hid hB
    clear hK hp hσ hB eg
    have HG := Lib.hid hg
    clear hg
    unfold stepS
    go_simp
    exact HK.out _ _ (Below.refl _ _) (fun _ => rfl)
  refine Obs.cons (fun σ a w hB hσ hp K hK => ?_) ?_
  · have eg : σ 93 = .bool false := hp 32 rfl
    rw [wantedS_of (d := 93) rfl rfl eg]
    by_cases hg : false = false
    rotate_left
    · rw [if_neg (by simpa using hg)]
      exact hK _ _ (Below.refl _ _) (fun h => absurd h hg)
    rw [if_pos (by simpa using hg)]
    have e94 : σ 94 = .pointer (some ⟨b9, 3, none⟩) := (hp 33 rfl) hg
    have hc := cell_later hB (HE.out.2.2.2.1)
    have HK := Lib.hid hK
    have HB := Lib.hid hB
    clear hK hp hσ hB eg
    have HG := Lib.hid hg
    clear hg
    unfold stepS
    go_simp
    exact HK.out _ _ (Below.refl _ _) (fun _ => rfl)
  refine Obs.cons (fun σ a w hB hσ hp K hK => ?_) ?_
  · have eg : σ 93 = .bool false := hp 32 rfl
    rw [wantedS_of (d := 93) rfl rfl eg]
    by_cases hg : false = false
    rotate_left
    · rw [if_neg (by simpa using hg)]
      exact hK _ _ (Below.refl _ _) (fun h => absurd h hg)
    rw [if_pos (by simpa using hg)]
    have e0 : σ 0 = .slice (some ⟨b, o, none⟩) n ca := (hσ 0 (by kernel_rfl)).trans Z0.out
    refine stepS_move _ rfl _ e0 ?_
    exact hK _ _ (Below.refl _ _) (fun _ => rfl)
  refine Obs.cons (fun σ a w hB hσ hp K hK => ?_) ?_
  · have eg : σ 93 = .bool false := hp 32 rfl
    rw [wantedS_of (d := 93) rfl rfl eg]
    by_cases hg : false = false
    rotate_left
    · rw [if_neg (by simpa using hg)]
      exact hK _ _ (Below.refl _ _) (fun h => absurd h hg)
    rw [if_pos (by simpa using hg)]
    have e8 : σ 8 = .int .i64 (k : Int) := (hσ 8 (by kernel_rfl)).trans Z8.out
    refine stepS_move _ rfl _ e8 ?_
    exact hK _ _ (Below.refl _ _) (fun _ => rfl)
  refine Obs.cons (fun σ a w hB hσ hp K hK => ?_) ?_
  · have eg : σ 93 = .bool false := hp 32 rfl
    rw [wantedS_of (d := 93) rfl rfl eg]
    by_cases hg : false = false
    rotate_left
    · rw [if_neg (by simpa using hg)]
      exact hK _ _ (Below.refl _ _) (fun h => absurd h hg)
    rw [if_pos (by simpa using hg)]
    have e96 : σ 96 = .slice (some ⟨b, o, none⟩) n ca := (hp 35 rfl) hg
    have e97 : σ 97 = .int .i64 (k : Int) := (hp 36 rfl) hg
    have hc := HK.out
    have HK := Lib.hid hK
    have HB := Lib.hid hB
    clear hK hp hσ hB eg
    have HG := Lib.hid hg
    clear hg
    unfold stepS
    go_simp
    exact HK.out _ _ (Below.refl _ _) (fun _ => rfl)
  refine Obs.cons (fun σ a w hB hσ hp K hK => ?_) ?_
  · have eg : σ 93 = .bool false := hp 32 rfl
    rw [wantedS_of (d := 93) rfl rfl eg]
    by_cases hg : false = false
    rotate_left
    · rw [if_neg (by simpa using hg)]
      exact hK _ _ (Below.refl _ _) (fun h => absurd h hg)
    rw [if_pos (by simpa using hg)]
    have e98 : σ 98 = .pointer (some ⟨b, o + k * 4, none⟩) := (hp 37 rfl) hg
    have HK := Lib.hid hK
    have HB := Lib.hid hB
    clear hK hp hσ hB eg
    have HG := Lib.hid hg
    clear hg
    unfold stepS
    go_simp
    exact HK.out _ _ (Below.refl _ _) (fun _ => rfl)
  refine Obs.cons (fun σ a w hB hσ hp K hK => ?_) ?_
  · have eg : σ 93 = .bool false := hp 32 rfl
    rw [wantedS_of (d := 93) rfl rfl eg]
    by_cases hg : false = false
    rotate_left
    · rw [if_neg (by simpa using hg)]
      exact hK _ _ (Below.refl _ _) (fun h => absurd h hg)
    rw [if_pos (by simpa using hg)]
    have e99 : σ 99 = .pointer (some ⟨b, o + k * 4 + 2, none⟩) := (hp 38 rfl) hg
    have hc := cell_later hB (HS.out.2.2.1)
    have HK := Lib.hid hK
    have HB := Lib.hid hB
    clear hK hp hσ hB eg
    have HG := Lib.hid hg
    clear hg
    unfold stepS
    go_simp
    exact HK.out _ _ (Below.refl _ _) (fun _ => rfl)
  refine Obs.cons (fun σ a w hB hσ hp K hK => ?_) ?_
  · have eg : σ 93 = .bool false := hp 32 rfl
    rw [wantedS_of (d := 93) rfl rfl eg]
    by_cases hg : false = false
    rotate_left
    · rw [if_neg (by simpa using hg)]
      exact hK _ _ (Below.refl _ _) (fun h => absurd h hg)
    rw [if_pos (by simpa using hg)]
    have e95 : σ 95 = .string s.who := (hp 34 rfl) hg
    have e100 : σ 100 = .string s.who := (hp 39 rfl) hg
    have HK := Lib.hid hK
    have HB := Lib.hid hB
    clear hK hp hσ hB eg
    have HG := Lib.hid hg
    clear hg
    unfold stepS
    go_simp
    exact HK.out _ _ (Below.refl _ _) (fun _ => rfl)
  refine Obs.cons (fun σ a w hB hσ hp K hK => ?_) ?_
  · rw [if_pos (by rfl)]
    have e93 : σ 93 = .bool false := (hp 32 rfl)
    have e101 : (false = false → σ 101 = .bool false) := hp 40 rfl
    refine stepS_pick _ _ _ rfl false e93 (.bool false) (by rw [if_neg (by decide)]; exact (e101 rfl).symm) ?_
    exact hK _ _ (Below.refl _ _) rfl
  refine Obs.cons (fun σ a w hB hσ hp K hK => ?_) ?_
  · rw [if_pos (by rfl)]
    have e102 : σ 102 = .bool false := (hp 41 rfl)
    refine stepS_move _ rfl _ e102 ?_
    exact hK _ _ (Below.refl _ _) rfl
  refine Obs.cons (fun σ a w hB hσ hp K hK => ?_) ?_
  · have eg : σ 103 = .bool false := hp 42 rfl
    rw [wantedS_of (d := 103) rfl rfl eg]
    by_cases hg : false = false
    rotate_left
    · rw [if_neg (by simpa using hg)]
      exact hK _ _ (Below.refl _ _) (fun h => absurd h hg)
    rw [if_pos (by simpa using hg)]
    have e9 : σ 9 = .pointer (some ⟨b9, 0, none⟩) := (hσ 9 (by kernel_rfl)).trans Z9.out
    have HK := Lib.hid hK
    have HB := Lib.hid hB
    clear hK hp hσ hB eg
    have HG := Lib.hid hg
    clear hg
    unfold stepS
    go_simp
    exact HK.out _ _ (Below.refl _ _) (fun _ => rfl)
  refine Obs.cons (fun σ a w hB hσ hp K hK => ?_) ?_
  · have eg : σ 103 = .bool false := hp 42 rfl
    rw [wantedS_of (d := 103) rfl rfl eg]
    by_cases hg : false = false
    rotate_left
    · rw [if_neg (by simpa using hg)]
      exact hK _ _ (Below.refl _ _) (fun h => absurd h hg)
    rw [if_pos (by simpa using hg)]
    have e104 : σ 104 = .pointer (some ⟨b9, 4, none⟩) := (hp 43 rfl) hg
    have hc := cell_later hB (HE.out.2.2.2.2)
    have HK := Lib.hid hK
    have HB := Lib.hid hB
    clear hK hp hσ hB eg
    have HG := Lib.hid hg
    clear hg
    unfold stepS
    go_simp
    exact HK.out _ _ (Below.refl _ _) (fun _ => rfl)
  refine Obs.cons (fun σ a w hB hσ hp K hK => ?_) ?_
  · have eg : σ 103 = .bool false := hp 42 rfl
    rw [wantedS_of (d := 103) rfl rfl eg]
    by_cases hg : false = false
    rotate_left
    · rw [if_neg (by simpa using hg)]
      exact hK _ _ (Below.refl _ _) (fun h => absurd h hg)
    rw [if_pos (by simpa using hg)]
    have e0 : σ 0 = .slice (some ⟨b, o, none⟩) n ca := (hσ 0 (by kernel_rfl)).trans Z0.out
    refine stepS_move _ rfl _ e0 ?_
    exact hK _ _ (Below.refl _ _) (fun _ => rfl)
  refine Obs.cons (fun σ a w hB hσ hp K hK => ?_) ?_
  · have eg : σ 103 = .bool false := hp 42 rfl
    rw [wantedS_of (d := 103) rfl rfl eg]
    by_cases hg : false = false
    rotate_left
    · rw [if_neg (by simpa using hg)]
      exact hK _ _ (Below.refl _ _) (fun h => absurd h hg)
    rw [if_pos (by simpa using hg)]
    have e8 : σ 8 = .int .i64 (k : Int) := (hσ 8 (by kernel_rfl)).trans Z8.out
    refine stepS_move _ rfl _ e8 ?_
    exact hK _ _ (Below.refl _ _) (fun _ => rfl)
  refine Obs.cons (fun σ a w hB hσ hp K hK => ?_) ?_
  · have eg : σ 103 = .bool false := hp 42 rfl
    rw [wantedS_of (d := 103) rfl rfl eg]
    by_cases hg : false = false
    rotate_left
    · rw [if_neg (by simpa using hg)]
      exact hK _ _ (Below.refl _ _) (fun h => absurd h hg)
    rw [if_pos (by simpa using hg)]
    have e106 : σ 106 = .slice (some ⟨b, o, none⟩) n ca := (hp 45 rfl) hg
    have e107 : σ 107 = .int .i64 (k : Int) := (hp 46 rfl) hg
    have hc := HK.out
    have HK := Lib.hid hK
    have HB := Lib.hid hB
    clear hK hp hσ hB eg
    have HG := Lib.hid hg
    clear hg
    unfold stepS
    go_simp
    exact HK.out _ _ (Below.refl _ _) (fun _ => rfl)
  refine Obs.cons (fun σ a w hB hσ hp K hK => ?_) ?_
  · have eg : σ 103 = .bool false := hp 42 rfl
    rw [wantedS_of (d := 103) rfl rfl eg]
    by_cases hg : false = false
    rotate_left
    · rw [if_neg (by simpa using hg)]
      exact hK _ _ (Below.refl _ _) (fun h => absurd h hg)
    rw [if_pos (by simpa using hg)]
    have e108 : σ 108 = .pointer (some ⟨b, o + k * 4, none⟩) := (hp 47 rfl) hg
    have HK := Lib.hid hK
    have HB := Lib.hid hB
    clear hK hp hσ hB eg
    have HG := Lib.hid hg
    clear hg
    unfold stepS
    go_simp
    exact HK.out _ _ (Below.refl _ _) (fun _ => rfl)
  refine Obs.cons (fun σ a w hB hσ hp K hK => ?_) ?_
  · have eg : σ 103 = .bool false := hp 42 rfl
    rw [wantedS_of (d := 103) rfl rfl eg]
    by_cases hg : false = false
    rotate_left
    · rw [if_neg (by simpa using hg)]
      exact hK _ _ (Below.refl _ _) (fun h => absurd h hg)
    rw [if_pos (by simpa using hg)]
    have e109 : σ 109 = .pointer (some ⟨b, o + k * 4 + 3, none⟩) := (hp 48 rfl) hg
    have hc := cell_later hB (HS.out.2.2.2)
    have HK := Lib.hid hK
    have HB := Lib.hid hB
    clear hK hp hσ hB eg
    have HG := Lib.hid hg
    clear hg
    unfold stepS
    go_simp
    exact HK.out _ _ (Below.refl _ _) (fun _ => rfl)
  refine Obs.cons (fun σ a w hB hσ hp K hK => ?_) ?_
  · have eg : σ 103 = .bool false := hp 42 rfl
    rw [wantedS_of (d := 103) rfl rfl eg]
    by_cases hg : false = false
    rotate_left
    · rw [if_neg (by simpa using hg)]
      exact hK _ _ (Below.refl _ _) (fun h => absurd h hg)
    rw [if_pos (by simpa using hg)]
    have e105 : σ 105 = .string s.what := (hp 44 rfl) hg
    have e110 : σ 110 = .string s.what := (hp 49 rfl) hg
    have HK := Lib.hid hK
    have HB := Lib.hid hB
    clear hK hp hσ hB eg
    have HG := Lib.hid hg
    clear hg
    unfold stepS
    go_simp
    exact HK.out _ _ (Below.refl _ _) (fun _ => rfl)
  refine Obs.cons (fun σ a w hB hσ hp K hK => ?_) ?_
  · rw [if_pos (by rfl)]
    have e103 : σ 103 = .bool false := (hp 42 rfl)
    have e111 : (false = false → σ 111 = .bool false) := hp 50 rfl
    refine stepS_pick _ _ _ rfl false e103 (.bool false) (by rw [if_neg (by decide)]; exact (e111 rfl).symm) ?_
    exact hK _ _ (Below.refl _ _) rfl
  · exact Obs.nil _
  · intro σ w hB hf
    have f0 : σ 61 = .bool true := hf 0 (by decide)
    have f1 : σ 62 = .bool false := hf 1 (by decide)
    have f2 : σ 63 = .bool false := hf 2 (by decide)
    have f3 : (false = false → σ 64 = .bool true) := hf 3 (by decide)
    have f4 : (false = false → σ 65 = .bool false) := hf 4 (by decide)
    have f5 : σ 66 = .bool false := hf 5 (by decide)
    have f6 : σ 67 = .bool false := hf 6 (by decide)
    have f7 : (false = false → σ 68 = .pointer (some ⟨b9, 0, none⟩)) := hf 7 (by decide)
    have f8 : (false = false → σ 69 = .int .i64 (k : Int)) := hf 8 (by decide)
    have f9 : (false = false → σ 70 = .int .i64 (k : Int)) := hf 9 (by decide)
    have f10 : (false = false → σ 71 = .bool false) := hf 10 (by decide)
    have f11 : σ 72 = .bool false := hf 11 (by decide)
    have f12 : σ 73 = .bool false := hf 12 (by decide)
    have f13 : (false = false → σ 74 = .pointer (some ⟨b9, 1, none⟩)) := hf 13 (by decide)
    have f14 : (false = false → σ 75 = .int .i64 s.time) := hf 14 (by decide)
    have f15 : (false = false → σ 76 = .slice (some ⟨b, o, none⟩) n ca) := hf 15 (by decide)
    have f16 : (false = false → σ 77 = .int .i64 (k : Int)) := hf 16 (by decide)
    have f17 : (false = false → σ 78 = .pointer (some ⟨b, o + k * 4, none⟩)) := hf 17 (by decide)
    have f18 : (false = false → σ 79 = .pointer (some ⟨b, o + k * 4, none⟩)) := hf 18 (by decide)
    have f19 : (false = false → σ 80 = .int .i64 s.time) := hf 19 (by decide)
    have f20 : (false = false → σ 81 = .bool false) := hf 20 (by decide)
    have f21 : σ 82 = .bool false := hf 21 (by decide)
    have f22 : σ 83 = .bool false := hf 22 (by decide)
    have f23 : (false = false → σ 84 = .pointer (some ⟨b9, 2, none⟩)) := hf 23 (by decide)
    have f24 : (false = false → σ 85 = .int .i64 s.code) := hf 24 (by decide)
    have f25 : (false = false → σ 86 = .slice (some ⟨b, o, none⟩) n ca) := hf 25 (by decide)
    have f26 : (false = false → σ 87 = .int .i64 (k : Int)) := hf 26 (by decide)
    have f27 : (false = false → σ 88 = .pointer (some ⟨b, o + k * 4, none⟩)) := hf 27 (by decide)
    have f28 : (false = false → σ 89 = .pointer (some ⟨b, o + k * 4 + 1, none⟩)) := hf 28 (by decide)
    have f29 : (false = false → σ 90 = .int .i64 s.code) := hf 29 (by decide)
    have f30 : (false = false → σ 91 = .bool false) := hf 30 (by decide)
    have f31 : σ 92 = .bool false := hf 31 (by decide)
    have f32 : σ 93 = .bool false := hf 32 (by decide)
    have f33 : (false = false → σ 94 = .pointer (some ⟨b9, 3, none⟩)) := hf 33 (by decide)
    have f34 : (false = false → σ 95 = .string s.who) := hf 34 (by decide)
    have f35 : (false = false → σ 96 = .slice (some ⟨b, o, none⟩) n ca) := hf 35 (by decide)
    have f36 : (false = false → σ 97 = .int .i64 (k : Int)) := hf 36 (by decide)
    have f37 : (false = false → σ 98 = .pointer (some ⟨b, o + k * 4, none⟩)) := hf 37 (by decide)
    have f38 : (false = false → σ 99 = .pointer (some ⟨b, o + k * 4 + 2, none⟩)) := hf 38 (by decide)
    have f39 : (false = false → σ 100 = .string s.who) := hf 39 (by decide)
    have f40 : (false = false → σ 101 = .bool false) := hf 40 (by decide)
    have f41 : σ 102 = .bool false := hf 41 (by decide)
    have f42 : σ 103 = .bool false := hf 42 (by decide)
    have f43 : (false = false → σ 104 = .pointer (some ⟨b9, 4, none⟩)) := hf 43 (by decide)
    have f44 : (false = false → σ 105 = .string s.what) := hf 44 (by decide)
    have f45 : (false = false → σ 106 = .slice (some ⟨b, o, none⟩) n ca) := hf 45 (by decide)
    have f46 : (false = false → σ 107 = .int .i64 (k : Int)) := hf 46 (by decide)
    have f47 : (false = false → σ 108 = .pointer (some ⟨b, o + k * 4, none⟩)) := hf 47 (by decide)
    have f48 : (false = false → σ 109 = .pointer (some ⟨b, o + k * 4 + 3, none⟩)) := hf 48 (by decide)
    have f49 : (false = false → σ 110 = .string s.what) := hf 49 (by decide)
    have f50 : (false = false → σ 111 = .bool false) := hf 50 (by decide)
    have f51 : σ 112 = .bool false := hf 51 (by decide)
    have hq := HQ.out (σ 64) (σ 65) (σ 68) (σ 69) (σ 70) (σ 71) (σ 74) (σ 75) (σ 76) (σ 77) (σ 78) (σ 79) (σ 80) (σ 81) (σ 84) (σ 85) (σ 86) (σ 87) (σ 88) (σ 89) (σ 90) (σ 91) (σ 94) (σ 95) (σ 96) (σ 97) (σ 98) (σ 99) (σ 100) (σ 101) (σ 104) (σ 105) (σ 106) (σ 107) (σ 108) (σ 109) (σ 110) (σ 111) w hB f3 f4 f7 f8 f9 f10 f13 f14 f15 f16 f17 f18 f19 f20 f23 f24 f25 f26 f27 f28 f29 f30 f33 f34 f35 f36 f37 f38 f39 f40 f43 f44 f45 f46 f47 f48 f49 f50
    simp only [dstsL, List.filterMap_cons, List.filterMap_nil, setAll]
    rw [f0, f1, f2, f5, f6, f11, f12, f21, f22, f31, f32, f41, f42, f51]
    simp only [Act.put] at hq
    exact hq
theorem EntAt.later {w w' : World} {b o : Nat} {e : Ent} {A : Option Addr} {c : Nat} {B : Option Addr} {d : Nat} (h : EntAt w b o e A c B d) (hb : Below w.heap.size w w') : EntAt w' b o e A c B d :=
  ⟨cell_later hb h.c0, cell_later hb h.c1, cell_later hb h.c2, cell_later hb h.c3, cell_later hb h.c4, cell_later hb h.c5, cell_later hb h.c6, h.hi.below hb⟩
set_option maxRecDepth 100000 in
set_option maxHeartbeats 2000000 in
theorem auditChains_walk {A : Option Addr} {l : List Say} {n : Nat} (hn : l.length = n) (c : Nat) (w : World) (h : Hid (Arr SayE 4 w A l)) :
    Calls Tryd.prog 10 #[.slice A n c] w fun r w' => r = .returned (.bool true) ∧ Below w.heap.size w w' := by
  have HN := Lib.hid hn
  clear hn
  go_enter Tryd.func10, Tryd.ntmps10
  go_wp2_with fail
  refine (awake_any w).mono ?_
  rintro r w1 ⟨rfl, b1⟩
  have B1 := Lib.hid b1
  clear b1
  by_cases h20 : (20 : Int) < n
  · have k2 := chain_no (A := A) HN.out c w1 h20
    go_wp2_with fail
    refine k2.mono ?_
    rintro r w2 ⟨rfl, b2⟩
    have B2 := Lib.hid (ext_trans B1.out b2)
    clear k2 b2
    go_wp2_with fail
    go_ret
    exact ⟨rfl, B2.out⟩
  have hn20 : n ≤ 20 := by omega
  have k2 := chain_any HN.out hn20 c w1 (h.out.below SayE.stays B1.out)
  clear h20
  go_wp2_with fail
  refine k2.mono ?_
  rintro r w2 ⟨v, rfl, ho, b2⟩
  have B2 := Lib.hid (ext_trans B1.out b2)
  clear k2 b2
  cases hok : l.all okSay
  · have H := Lib.hid hok
    have HO := Lib.hid ho
    clear hok ho
    go_wp2_with fail
    go_ret
    exact ⟨rfl, B2.out⟩
  have ho := ho hok
  obtain ⟨Ac, cc, rfl, hcc, hcc2, har, -⟩ := ho.own.arr
  have hle := chainB_le [] (fun e he => by cases he) (List.all_eq_true.1 hok)
  have hsm := chainB_sm [] (fun e he => by cases he) (List.all_eq_true.1 hok)
  have hlen : (chainB [] l).length = n := by rw [chainB_length]; simp; exact HN.out
  have hft := chainB_fits l (by have := HN.out; omega) (says_fits h.out)
  have HA := Lib.hid (And.intro har hle)
  have HM := Lib.hid (And.intro hsm hft)
  have HL := Lib.hid hlen
  rw [hlen] at hcc
  clear hok ho har hle hsm hft
  rw [hlen]
  clear hlen
  have k3 := head_any (l := chainB [] l) HL.out (by omega) cc w2 HA.out.1 HA.out.2
  go_wp2_with fail
  refine k3.mono ?_
  rintro r w3 ⟨Ah, ch, rfl, hch, hch2, hsh, b3, -⟩
  have k4 := verify_any (l := chainB [] l) HL.out (by omega) cc Ah (headB (chainB [] l)) ch w3 (HA.out.1.below EntE.stays b3) HA.out.2 hsh
  rw [chain_ver, HN.out] at k4
  have B3 := Lib.hid (ext_trans B2.out b3)
  have HA3 : Hid (Arr EntE 7 w3 Ac (chainB [] l)) := HA.out.1.below EntE.stays b3
  clear b3 k3 hch hch2 hsh
  go_wp2_with fail
  refine k4.mono ?_
  rintro r w4 ⟨rfl, b4⟩
  have B4 := Lib.hid (ext_trans B3.out b4)
  have HA4 : Hid (Arr EntE 7 w4 Ac (chainB [] l)) := HA3.out.below EntE.stays b4
  have HS4 : Hid (Arr SayE 4 w4 A l) := h.out.below SayE.stays B4.out
  clear k4 b4 HA3 B3
  go_wp2_with fail
  go_loopw [8] (fun v8 wr => ∃ k : Nat, k ≤ n ∧ v8 = .int .i64 k ∧ Hid (Below w4.heap.size w4 wr)) (fun v8 _ => n - (intOf v8).toNat)
  case atStart => exact ⟨0, by omega, rfl, Below.refl _ _⟩
  case round =>
    obtain ⟨k, hk, rfl, HB⟩ := hrel
    by_cases hlt : k < n
    · obtain ⟨s, hs⟩ : ∃ e, l[k]? = some e := ⟨_, List.getElem?_eq_getElem (by have := HN.out; omega)⟩
      have he := chainB_at l k s hs
      have hkl : (chainB [] (l.take k)).length = k := by rw [chainB_length]; simp; have := HN.out; omega
      have hno : (nextB (chainB [] (l.take k)) s.time s.code s.who s.what).no = (k : Int) := congrArg Int.ofNat hkl
      generalize hne : nextB (chainB [] (l.take k)) s.time s.code s.who s.what = e at *
      have h1 : e.time = s.time := by rw [← hne]; rfl
      have h2 : e.code = s.code := by rw [← hne]; rfl
      have h3 : e.who = s.who := by rw [← hne]; rfl
      have h4 : e.what = s.what := by rw [← hne]; rfl
      have hmem := List.mem_of_getElem? he
      obtain ⟨b, o, A1, c1, Bq, d1, rfl, hi⟩ := (HA4.out.below EntE.stays HB.out).ent he
      obtain ⟨b2, o2, rfl, y0, y1, y2, y3, -, -⟩ := (HS4.out.below SayE.stays HB.out).say hs
      have HI := Lib.hid hi
      have HC := Lib.hid (And.intro hno (And.intro h1 (And.intro h2 (And.intro h3 h4))))
      have HSm := Lib.hid (Sm.bytes (HM.out.1 e hmem))
      have HFt := Lib.hid (readB_bytes e (HM.out.2 e hmem))
      have HY : Hid (wr.cell? ⟨b2, o2 + k * 4, none⟩ = some (.int .i64 s.time) ∧ wr.cell? ⟨b2, o2 + k * 4 + 1, none⟩ = some (.int .i64 s.code) ∧ wr.cell? ⟨b2, o2 + k * 4 + 2, none⟩ = some (.string s.who) ∧ wr.cell? ⟨b2, o2 + k * 4 + 3, none⟩ = some (.string s.what)) := ⟨y0, y1, y2, y3⟩
      have k5 := bytes_any e A1 c1 Bq d1 wr hi.hi (HA.out.2 e hmem)
      clear hs he hkl hno hne h1 h2 h3 h4 hmem hi y0 y1 y2 y3
      go_wp2_with (refine wpList_load_mid rfl 30 (.tmp 49) rfl b (o + k * 7) rfl (entCells e A1 c1 Bq d1) _ HI.out.row Tryd.underlying30 rfl infoEntSz ?_)
      refine k5.mono ?_
      rintro r w5 ⟨A5, c5, rfl, hc5, hc52, hs5, b5⟩
      have k6 := read_any (l := bytesB e) rfl c5 hc5 hc52 (by have := HSm.out; omega) w5 hs5
      have B5 := Lib.hid (ext_trans HB.out b5)
      have Bw5 := Lib.hid b5
      clear k5 hc5 hc52 hs5 b5
      go_wp2_with fail
      refine k6.mono ?_
      rintro r w6 (⟨hx, -, -⟩ | ⟨e', A6, c6, B6, d6, hx, rfl, hi6, b6⟩)
      · rw [HFt.out] at hx
        cases hx
      rw [HFt.out] at hx
      cases hx
      have HI6 := Lib.hid hi6
      have B6' := Lib.hid (ext_trans B5.out b6)
      have Bwr := Lib.hid (ext_trans Bw5.out b6)
      clear k6 hi6 b6
      go_wp2_with fail
      have b7 := alloc_ext w6 (.cells #[.int .i64 e.no, .int .i64 e.time, .int .i64 e.code, .string e.who, .string e.what, .slice A6 e.prev.length c6, .slice B6 e.hash.length d6] 30)
      have r7 := heap_alloc_new w6 (.cells #[.int .i64 e.no, .int .i64 e.time, .int .i64 e.code, .string e.who, .string e.what, .slice A6 e.prev.length c6, .slice B6 e.hash.length d6] 30)
      have hy7 := HI.out.later (ext_trans Bwr.out b7)
      have hs7 : Hid (_ ∧ _ ∧ _ ∧ _) := ⟨cell_later (ext_trans Bwr.out b7) HY.out.1, cell_later (ext_trans Bwr.out b7) HY.out.2.1, cell_later (ext_trans Bwr.out b7) HY.out.2.2.1, cell_later (ext_trans Bwr.out b7) HY.out.2.2.2⟩
      have hx7 : (w6.alloc (.cells #[.int .i64 e.no, .int .i64 e.time, .int .i64 e.code, .string e.who, .string e.what, .slice A6 e.prev.length c6, .slice B6 e.hash.length d6] 30)).rangeAt w6.heap.size 0 (entCells e A6 c6 B6 d6) := fun j v hv => by
        rw [Nat.zero_add]
        refine (cell_of_row _ _ j _ _ _ r7).trans ?_
        show (entCells e A6 c6 B6 d6).toArray[j]? = some v
        rw [List.getElem?_toArray]
        exact hv
      refine chains_r12 e A6 c6 B6 d6 A1 c1 Bq d1 w6.heap.size b o k n cc (by rfl) (by rfl) (by rfl) (by omega) ⟨hx7, HI6.out.below b7⟩ hy7 (by rfl) ?_
      intro v5 v6 w8 b8 e5 e6
      subst e5 e6
      have r8 := heap_keep r7 b8
      have q0 : w8.cell? ⟨w6.heap.size, 0, none⟩ = some (.int .i64 (k : Int)) := by
        rw [← HC.out.1]
        exact cell_of_row w8 _ 0 _ _ _ r8
      have q1 : w8.cell? ⟨w6.heap.size, 1, none⟩ = some (.int .i64 s.time) := by
        rw [← HC.out.2.1]
        exact cell_of_row w8 _ 1 _ _ _ r8
      have q2 : w8.cell? ⟨w6.heap.size, 2, none⟩ = some (.int .i64 s.code) := by
        rw [← HC.out.2.2.1]
        exact cell_of_row w8 _ 2 _ _ _ r8
      have q3 : w8.cell? ⟨w6.heap.size, 3, none⟩ = some (.string s.who) := by
        rw [← HC.out.2.2.2.1]
        exact cell_of_row w8 _ 3 _ _ _ r8
      have q4 : w8.cell? ⟨w6.heap.size, 4, none⟩ = some (.string s.what) := by
        rw [← HC.out.2.2.2.2]
        exact cell_of_row w8 _ 4 _ _ _ r8
      have HQ := Lib.hid (And.intro q0 (And.intro q1 (And.intro q2 (And.intro q3 q4))))
      have HZ : Hid (_ ∧ _ ∧ _ ∧ _) := ⟨cell_later b8 hs7.out.1, cell_later b8 hs7.out.2.1, cell_later b8 hs7.out.2.2.1, cell_later b8 hs7.out.2.2.2⟩
      have B8 := Lib.hid (ext_trans (ext_trans B6'.out b7) b8)
      clear b7 r7 hy7 hs7 hx7 b8 r8 q0 q1 q2 q3 q4
      simp only [Act.put, List.setIfInBounds_toArray, List.set_cons_zero, List.set_cons_succ]
      go_wp2_with fail
      refine chains_r13 s w6.heap.size b2 o2 k n c (by rfl) (by rfl) (by rfl) (by rfl) (by rfl) (by omega) HQ.out HZ.out (by rfl) ?_
      intros
      rename Below _ _ _ => b9
      rename World => w9
      have B9 := Lib.hid (ext_trans B8.out b9)
      clear b9
      simp only [Act.put, List.setIfInBounds_toArray, List.set_cons_zero, List.set_cons_succ]
      go_wp2_with fail
      go_roundw
      case rel => exact ⟨k + 1, by omega, by go_num, B9.out⟩
      case measure => simp [intOf]; omega
    · obtain rfl : k = n := by omega
      go_wp2_with fail
      go_ret
      exact ⟨rfl, ext_trans B4.out HB.out⟩
end Go.Proofs.YtbjnpomcgcbflaaDoor
