/- Walks: whether two lists of entries are the same; how many entries are right. Written by wip/gen/XB8.py. -/
import Derived.Test.YtbjnpomcgcbflaaDoorB7
set_option linter.unusedVariables false
set_option linter.unusedSimpArgs false
namespace Go.Proofs.YtbjnpomcgcbflaaDoor
open Go.RowKit Go.Deep

theorem EntAt.row {w : World} {b o : Nat} {e : Ent} {A : Option Addr} {c : Nat} {B : Option Addr} {d : Nat} (h : EntAt w b o e A c B d) : w.rangeAt b o (entCells e A c B d) := fun j v hv => by
  match j, hv with
  | 0, hv => cases hv; exact h.c0
  | 1, hv => cases hv; exact h.c1
  | 2, hv => cases hv; exact h.c2
  | 3, hv => cases hv; exact h.c3
  | 4, hv => cases hv; exact h.c4
  | 5, hv => cases hv; exact h.c5
  | 6, hv => cases hv; exact h.c6
  | n + 7, hv => simp [entCells] at hv
set_option maxRecDepth 100000 in
set_option maxHeartbeats 2000000 in
theorem lists_r6 {Q : Exit → Act → World → Prop} {a0 : Act} {w0 : World} (x : Ent) (A : Option Addr) (c : Nat) (B : Option Addr) (d : Nat) (y : Ent) (A2 : Option Addr) (c2 : Nat) (B2 : Option Addr) (d2 : Nat) (b o b2 o2 k n ca cb : Nat) (z0 : a0.tmps.getD 0 undef = .slice (some ⟨b, o, none⟩) n ca) (z1 : a0.tmps.getD 1 undef = .slice (some ⟨b2, o2, none⟩) n cb) (z5 : a0.tmps.getD 5 undef = .int .i64 (k : Int)) (hHK : (k : Int) < (n : Int)) (hHX : EntAt w0 b (o + k * 7) x A c B d) (hHY : EntAt w0 b2 (o2 + k * 7) y A2 c2 B2 d2) (zsz : a0.tmps.size = 29)
    (hQ : ∀ (v8 v9 : Value) (w1 : World), Below w0.heap.size w0 w1 → v8 = .bool (sameB x y) → v9 = .bool (sameB x y) → Q .normal ((((((((((a0.put (some 18) (.slice (some ⟨b, o, none⟩) n ca)).put (some 19) (.int .i64 (k : Int))).put (some 20) (.pointer (some ⟨b, o + k * 7, none⟩))).put (some 21) (.agg (entCells x A c B d).toArray)).put (some 22) (.slice (some ⟨b2, o2, none⟩) n cb)).put (some 23) (.int .i64 (k : Int))).put (some 24) (.pointer (some ⟨b2, o2 + k * 7, none⟩))).put (some 25) (.agg (entCells y A2 c2 B2 d2).toArray)).put (some 26) v8).put (some 6) v9) w1) :
    (regOf Tryd.f22 6).wp Tryd.prog Q a0 w0 := by
  have Z0 := Lib.hid z0
  clear z0
  have Z1 := Lib.hid z1
  clear z1
  have Z5 := Lib.hid z5
  clear z5
  have HK := Lib.hid hHK
  clear hHK
  have HX := Lib.hid hHX
  clear hHX
  have HY := Lib.hid hHY
  clear hHY
  have HQ := Lib.hid hQ
  clear hQ
  conv => arg 2; whnf
  refine wp_region_facts true (by kernel_rfl) (by kernel_rfl) 29 (by kernel_rfl) zsz (by kernel_rfl) (Below w0.heap.size w0) (fun w w' => Below w.heap.size w w') (drewIf_ext _ _) (fun _ _ h k => ext_trans h k) (fun i v w => match i with
    | 0 => v = .slice (some ⟨b, o, none⟩) n ca
    | 1 => v = .int .i64 (k : Int)
    | 2 => v = .pointer (some ⟨b, o + k * 7, none⟩)
    | 3 => v = .agg (entCells x A c B d).toArray
    | 4 => v = .slice (some ⟨b2, o2, none⟩) n cb
    | 5 => v = .int .i64 (k : Int)
    | 6 => v = .pointer (some ⟨b2, o2 + k * 7, none⟩)
    | 7 => v = .agg (entCells y A2 c2 B2 d2).toArray
    | 8 => v = .bool (sameB x y)
    | 9 => v = .bool (sameB x y)
    | _ => True) ?_ ?_ ?_
  · intro i v w w' h hb
    match i, h with
    | 0, h => exact h
    | 1, h => exact h
    | 2, h => exact h
    | 3, h => exact h
    | 4, h => exact h
    | 5, h => exact h
    | 6, h => exact h
    | 7, h => exact h
    | 8, h => exact h
    | 9, h => exact h
    | _ + 10, _ => trivial
  refine Obs.cons (fun σ a w hB hσ hp K hK => ?_) ?_
  · rw [if_pos (by rfl)]
    have e0 : σ 0 = .slice (some ⟨b, o, none⟩) n ca := (hσ 0 (by kernel_rfl)).trans Z0.out
    refine stepS_move _ rfl _ e0 ?_
    exact hK _ _ (Below.refl _ _) rfl
  refine Obs.cons (fun σ a w hB hσ hp K hK => ?_) ?_
  · rw [if_pos (by rfl)]
    have e5 : σ 5 = .int .i64 (k : Int) := (hσ 5 (by kernel_rfl)).trans Z5.out
    refine stepS_move _ rfl _ e5 ?_
    exact hK _ _ (Below.refl _ _) rfl
  refine Obs.cons (fun σ a w hB hσ hp K hK => ?_) ?_
  · rw [if_pos (by rfl)]
    have e18 : σ 18 = .slice (some ⟨b, o, none⟩) n ca := (hp 0 rfl)
    have e19 : σ 19 = .int .i64 (k : Int) := (hp 1 rfl)
    have hc := HK.out
    have HK := Lib.hid hK
    have HB := Lib.hid hB
    clear hK hp hσ hB
    unfold stepS
    go_simp
    exact HK.out _ _ (Below.refl _ _) rfl
  refine Obs.cons (fun σ a w hB hσ hp K hK => ?_) ?_
  · rw [if_pos (by rfl)]
    have e20 : σ 20 = .pointer (some ⟨b, o + k * 7, none⟩) := (hp 2 rfl)
    refine stepS_load_mid 30 _ rfl (b) (o + k * 7) e20 (entCells x A c B d) _ (rangeAt_later hB HX.out.row) Tryd.underlying30 rfl (by kernel_rfl) ?_
    exact hK _ _ (Below.refl _ _) rfl
  refine Obs.cons (fun σ a w hB hσ hp K hK => ?_) ?_
  · rw [if_pos (by rfl)]
    have e1 : σ 1 = .slice (some ⟨b2, o2, none⟩) n cb := (hσ 1 (by kernel_rfl)).trans Z1.out
    refine stepS_move _ rfl _ e1 ?_
    exact hK _ _ (Below.refl _ _) rfl
  refine Obs.cons (fun σ a w hB hσ hp K hK => ?_) ?_
  · rw [if_pos (by rfl)]
    have e5 : σ 5 = .int .i64 (k : Int) := (hσ 5 (by kernel_rfl)).trans Z5.out
    refine stepS_move _ rfl _ e5 ?_
    exact hK _ _ (Below.refl _ _) rfl
  refine Obs.cons (fun σ a w hB hσ hp K hK => ?_) ?_
  · rw [if_pos (by rfl)]
    have e22 : σ 22 = .slice (some ⟨b2, o2, none⟩) n cb := (hp 4 rfl)
    have e23 : σ 23 = .int .i64 (k : Int) := (hp 5 rfl)
    have hc := HK.out
    have HK := Lib.hid hK
    have HB := Lib.hid hB
    clear hK hp hσ hB
    unfold stepS
    go_simp
    exact HK.out _ _ (Below.refl _ _) rfl
  refine Obs.cons (fun σ a w hB hσ hp K hK => ?_) ?_
  · rw [if_pos (by rfl)]
    have e24 : σ 24 = .pointer (some ⟨b2, o2 + k * 7, none⟩) := (hp 6 rfl)
    refine stepS_load_mid 30 _ rfl (b2) (o2 + k * 7) e24 (entCells y A2 c2 B2 d2) _ (rangeAt_later hB HY.out.row) Tryd.underlying30 rfl (by kernel_rfl) ?_
    exact hK _ _ (Below.refl _ _) rfl
  refine Obs.cons (fun σ a w hB hσ hp K hK => ?_) ?_
  · rw [if_pos (by rfl)]
    have e21 : σ 21 = .agg (entCells x A c B d).toArray := (hp 3 rfl)
    have e25 : σ 25 = .agg (entCells y A2 c2 B2 d2).toArray := (hp 7 rfl)
    refine stepS_call _ Tryd.func13 (by kernel_rfl) (by kernel_rfl) _ _ rfl _ rfl ?_
    simp only [List.map_toArray, List.map_cons, List.map_nil, evalS, e21, e25]
    refine Calls.mono (same_any x A c B d y A2 c2 B2 d2 w (HX.out.hi.below hB) (HY.out.hi.below hB)) ?_
    rintro e w1 ⟨rfl, hb⟩
    exact ⟨_, rfl, hK _ _ (hb) rfl⟩
  refine Obs.cons (fun σ a w hB hσ hp K hK => ?_) ?_
  · rw [if_pos (by rfl)]
    have e26 : σ 26 = .bool (sameB x y) := (hp 8 rfl)
    refine stepS_assign _ rfl _ rfl ?_
    exact hK _ _ (Below.refl _ _) e26
  · exact Obs.nil _
  · intro σ w hB hf
    have f0 : σ 18 = .slice (some ⟨b, o, none⟩) n ca := hf 0 (by decide)
    have f1 : σ 19 = .int .i64 (k : Int) := hf 1 (by decide)
    have f2 : σ 20 = .pointer (some ⟨b, o + k * 7, none⟩) := hf 2 (by decide)
    have f3 : σ 21 = .agg (entCells x A c B d).toArray := hf 3 (by decide)
    have f4 : σ 22 = .slice (some ⟨b2, o2, none⟩) n cb := hf 4 (by decide)
    have f5 : σ 23 = .int .i64 (k : Int) := hf 5 (by decide)
    have f6 : σ 24 = .pointer (some ⟨b2, o2 + k * 7, none⟩) := hf 6 (by decide)
    have f7 : σ 25 = .agg (entCells y A2 c2 B2 d2).toArray := hf 7 (by decide)
    have f8 : σ 26 = .bool (sameB x y) := hf 8 (by decide)
    have f9 : σ 6 = .bool (sameB x y) := hf 9 (by decide)
    have hq := HQ.out (σ 26) (σ 6) w hB f8 f9
    simp only [dstsL, List.filterMap_cons, List.filterMap_nil, setAll]
    rw [f0, f1, f2, f3, f4, f5, f6, f7]
    simp only [Act.put] at hq
    exact hq
def listsB (a b : List Ent) : Bool := decide (a = b)
theorem take_eq_succ {a b : List Ent} {k : Nat} {x y : Ent} (hx : a[k]? = some x) (hy : b[k]? = some y) (h : a.take k = b.take k) (hxy : x = y) : a.take (k + 1) = b.take (k + 1) := by
  rw [List.take_add_one, List.take_add_one, hx, hy, h, hxy]
set_option maxRecDepth 100000 in
set_option maxHeartbeats 1000000 in
theorem lists_any {A B : Option Addr} {l m : List Ent} {n n2 : Nat} (hn : l.length = n) (hm : m.length = n2) (hn2 : n ≤ 1099511627776) (c d : Nat) (w : World) (h : Hid (Arr EntE 7 w A l)) (h2 : Hid (Arr EntE 7 w B m)) :
    Calls Tryd.prog 22 #[.slice A n c, .slice B n2 d] w fun r w' => r = .returned (.bool (listsB l m)) ∧ Below w.heap.size w w' := by
  by_cases hne : n = n2
  · subst hne
    have HN := Lib.hid (And.intro hn hm)
    clear hn hm
    go_enter Tryd.func22, Tryd.ntmps22
    go_wp2_with fail
    go_loopw [5] (fun i wr => ∃ k : Nat, k ≤ n ∧ i = .int .i64 k ∧ Hid (l.take k = m.take k) ∧ Hid (Below w.heap.size w wr)) (fun i _ => n - (intOf i).toNat)
    case atStart => exact ⟨0, by omega, rfl, rfl, Below.refl _ _⟩
    case round =>
      obtain ⟨k, hk, rfl, Hall, HB⟩ := hrel
      by_cases hlt : k < n
      · obtain ⟨x, hx⟩ : ∃ e, l[k]? = some e := ⟨_, List.getElem?_eq_getElem (by have := HN.out.1; omega)⟩
        obtain ⟨y, hy⟩ : ∃ e, m[k]? = some e := ⟨_, List.getElem?_eq_getElem (by have := HN.out.2; omega)⟩
        obtain ⟨b, o, A1, c1, B1, d1, rfl, hi⟩ := (h.out.below EntE.stays HB.out).ent hx
        obtain ⟨b2, o2, A2, c2, B2, d2, rfl, hj⟩ := (h2.out.below EntE.stays HB.out).ent hy
        have HE := Lib.hid (And.intro hx hy)
        have HI := Lib.hid hi
        have HJ := Lib.hid hj
        clear hx hy hi hj
        go_wp2_with fail
        refine lists_r6 x A1 c1 B1 d1 y A2 c2 B2 d2 b o b2 o2 k n c d (by rfl) (by rfl) (by rfl) (by omega) HI.out HJ.out (by rfl) ?_
        intro v8 v9 w1 hB1 e8 e9
        have HB1 := Lib.hid (ext_trans HB.out hB1)
        subst e8 e9
        clear hB1
        simp only [Act.put, List.setIfInBounds_toArray, List.set_cons_zero, List.set_cons_succ]
        cases hs : sameB x y
        all_goals
          have HS := Lib.hid hs
          clear hs
          go_wp2_with fail
        · go_ret
          have e1 : listsB l m = false := decide_eq_false fun e => by
            subst e
            have h1 := HE.out.1.symm.trans HE.out.2
            injection h1 with h1
            have h2 := HS.out
            rw [sameB_eq.2 h1] at h2
            cases h2
          rw [e1]
          exact ⟨rfl, HB1.out⟩
        · go_roundw
          case rel => exact ⟨k + 1, by omega, by go_num, take_eq_succ HE.out.1 HE.out.2 Hall.out (sameB_eq.1 HS.out), HB1.out⟩
          case measure => simp [intOf]; omega
      · obtain rfl : k = n := by omega
        go_wp2_with fail
        go_ret
        have e1 : listsB l m = true := decide_eq_true (by
          have h1 := Hall.out
          rwa [List.take_of_length_le (by have := HN.out.1; omega), List.take_of_length_le (by have := HN.out.2; omega)] at h1)
        rw [e1]
        exact ⟨rfl, HB.out⟩
  · have e1 : listsB l m = false := decide_eq_false fun e => hne (by rw [← hn, ← hm, e])
    rw [e1]
    have hne' : ¬ ((n : Int) = (n2 : Int)) := by omega
    clear hn hm e1 hne
    go_enter Tryd.func22, Tryd.ntmps22
    go_wp2_with fail
    go_ret
    exact ⟨rfl, Below.refl _ _⟩
end Go.Proofs.YtbjnpomcgcbflaaDoor
