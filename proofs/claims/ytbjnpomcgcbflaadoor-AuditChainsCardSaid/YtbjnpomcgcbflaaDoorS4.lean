/- Walks: the copies that sha.block takes of its state and of the constants. -/
import Derived.Test.YtbjnpomcgcbflaaDoorS2
import Derived.Test.YtbjnpomcgcbflaaDoorP3
import Derived.Test.YtbjnpomcgcbflaaDoorReg
set_option linter.unusedVariables false
set_option linter.unusedSimpArgs false
namespace Go.Proofs.YtbjnpomcgcbflaaDoor
open Go.RowKit Go.Deep

set_option maxRecDepth 100000 in
set_option maxHeartbeats 2000000 in
theorem block_r9 {Q : Exit → Act → World → Prop} {a0 : Act} {wr : World} (bs : Nat) {h ov : _} {n : Int} (hh8 : h.length = 8) (S0 : Hid (wr.heap[bs]? = some (.cells (stCells h ov n).toArray 81 (0, 0))))
    (z0 : a0.tmps.getD 0 undef = .pointer (some ⟨bs, 0, none⟩)) (zsz : a0.tmps.size = 170)
    (hQ : ∀ (v0 v1 v2 v3 v4 : Value) (B C : Nat) (w1 : World), Below wr.heap.size wr w1 → wr.heap.size ≤ B → wr.heap.size ≤ C → w1.heap[B]? = some (.cells (u32s h).toArray 77 (0, 0)) → w1.heap[C]? = some (.cells (u32s shaK).toArray 86 (0, 0)) →
      Q .normal (((((((a0.put (some 70) v0).put (some 71) v1).put (some 72) v2).put (some 73) v3).put (some 74) v4).put (some 8) (.pointer (some ⟨B, 0, none⟩))).put (some 9) (.pointer (some ⟨C, 0, none⟩))) w1) :
    (regOf Tryd.f56 9).wp Tryd.prog Q a0 wr := by
  have hlen : (u32s h).length = 8 := by simp [u32s, hh8]
  have klen : (u32s shaK).length = 64 := by kernel_rfl
  conv => arg 2; whnf
  refine wp_region_sig (by kernel_rfl) ?_ ?_ (fun D σ w1 => Below wr.heap.size wr w1 ∧ σ 0 = .pointer (some ⟨bs, 0, none⟩) ∧ (D 0 → σ 70 = .pointer (some ⟨bs, 0, none⟩)) ∧ (D 1 → σ 71 = .pointer (some ⟨bs, 0, none⟩)) ∧ (D 2 → σ 72 = .pointer (some ⟨bs, 0, none⟩)) ∧ (D 3 → σ 73 = .agg (u32s h).toArray) ∧ (D 4 → σ 74 = .agg (u32s shaK).toArray)
        ∧ (D 5 → ∃ B C, σ 8 = .pointer (some ⟨B, 0, none⟩) ∧ wr.heap.size ≤ B ∧ w1.heap[B]? = some (.cells C 77 (0, 0)) ∧ C.size = 8)
        ∧ (D 6 → ∃ B C, σ 9 = .pointer (some ⟨B, 0, none⟩) ∧ wr.heap.size ≤ B ∧ w1.heap[B]? = some (.cells C 86 (0, 0)) ∧ C.size = 64)
        ∧ (D 7 → ∃ B, σ 8 = .pointer (some ⟨B, 0, none⟩) ∧ wr.heap.size ≤ B ∧ w1.heap[B]? = some (.cells (u32s h).toArray 77 (0, 0)))
        ∧ (D 8 → ∃ B, σ 9 = .pointer (some ⟨B, 0, none⟩) ∧ wr.heap.size ≤ B ∧ w1.heap[B]? = some (.cells (u32s shaK).toArray 86 (0, 0)))
        ∧ (D 7 → D 5) ∧ (D 8 → D 6)) ?_ ?_ ?_
  · intro i o ho
    match i, ho with
    | 0, ho | 1, ho | 2, ho | 3, ho | 4, ho | 5, ho | 6, ho | 7, ho | 8, ho =>
      simp only [List.getElem?_toArray, List.getElem?_cons_zero, List.getElem?_cons_succ, Option.some.injEq] at ho
      subst ho
      simp [Region.binds]
    | n + 9, ho => simp at ho
  · rw [zsz]
    simp [dstsL]
  · exact ⟨(Below.refl _ _).drew, z0, False.elim, False.elim, False.elim, False.elim, False.elim, False.elim, False.elim, False.elim, False.elim, False.elim, False.elim⟩
  · intro D i o σ a w1 ho hD hpre ⟨hB1, y0, f0, f1, f2, f3, f4, f5, f6, f7, f8, g7, g8⟩ K hK
    clear z0 zsz hQ
    match i, ho with
    | 0, ho =>
          simp only [List.getElem?_toArray, List.getElem?_cons_zero, List.getElem?_cons_succ, Option.some.injEq] at ho
          subst ho
          rw [if_pos (by rfl)]
          unfold stepS
          have HK := Lib.hid (And.intro hK (And.intro f0 (And.intro f1 (And.intro f2 (And.intro f3 (And.intro f4 (And.intro f5 (And.intro f6 (And.intro f7 (And.intro f8 (And.intro g7 g8)))))))))))
          clear hpre hD hK f0 f1 f2 f3 f4 f5 f6 f7 f8 g7 g8
          go_simp
          obtain ⟨hK, f0, f1, f2, f3, f4, f5, f6, f7, f8, g7, g8⟩ := HK.out
          refine hK _ _ ⟨hB1, y0, fun _ => rfl, ?_, ?_, ?_, ?_, ?_, ?_, ?_, ?_, ?_, ?_⟩
          · exact fun h => f1 (by simpa using h)
          · exact fun h => f2 (by simpa using h)
          · exact fun h => f3 (by simpa using h)
          · exact fun h => f4 (by simpa using h)
          · exact fun h => f5 (by simpa using h)
          · exact fun h => f6 (by simpa using h)
          · exact fun h => f7 (by simpa using h)
          · exact fun h => f8 (by simpa using h)
          · exact fun h => Or.inl (g7 (by simpa using h))
          · exact fun h => Or.inl (g8 (by simpa using h))
    | 1, ho =>
          simp only [List.getElem?_toArray, List.getElem?_cons_zero, List.getElem?_cons_succ, Option.some.injEq] at ho
          subst ho
          rw [if_pos (by rfl)]
          have g := f0 (hpre ⟨0, .data⟩ (by simp) rfl)
          unfold stepS
          have HK := Lib.hid (And.intro hK (And.intro f0 (And.intro f1 (And.intro f2 (And.intro f3 (And.intro f4 (And.intro f5 (And.intro f6 (And.intro f7 (And.intro f8 (And.intro g7 g8)))))))))))
          clear hpre hD hK f0 f1 f2 f3 f4 f5 f6 f7 f8 g7 g8
          go_simp
          obtain ⟨hK, f0, f1, f2, f3, f4, f5, f6, f7, f8, g7, g8⟩ := HK.out
          refine hK _ _ ⟨hB1, y0, ?_, fun _ => rfl, ?_, ?_, ?_, ?_, ?_, ?_, ?_, ?_, ?_⟩
          · exact fun h => f0 (by simpa using h)
          · exact fun h => f2 (by simpa using h)
          · exact fun h => f3 (by simpa using h)
          · exact fun h => f4 (by simpa using h)
          · exact fun h => f5 (by simpa using h)
          · exact fun h => f6 (by simpa using h)
          · exact fun h => f7 (by simpa using h)
          · exact fun h => f8 (by simpa using h)
          · exact fun h => Or.inl (g7 (by simpa using h))
          · exact fun h => Or.inl (g8 (by simpa using h))
    | 2, ho =>
          simp only [List.getElem?_toArray, List.getElem?_cons_zero, List.getElem?_cons_succ, Option.some.injEq] at ho
          subst ho
          rw [if_pos (by rfl)]
          have g := f1 (hpre ⟨1, .data⟩ (by simp) rfl)
          unfold stepS
          have HK := Lib.hid (And.intro hK (And.intro f0 (And.intro f1 (And.intro f2 (And.intro f3 (And.intro f4 (And.intro f5 (And.intro f6 (And.intro f7 (And.intro f8 (And.intro g7 g8)))))))))))
          clear hpre hD hK f0 f1 f2 f3 f4 f5 f6 f7 f8 g7 g8
          go_simp
          obtain ⟨hK, f0, f1, f2, f3, f4, f5, f6, f7, f8, g7, g8⟩ := HK.out
          refine hK _ _ ⟨hB1, y0, ?_, ?_, fun _ => rfl, ?_, ?_, ?_, ?_, ?_, ?_, ?_, ?_⟩
          · exact fun h => f0 (by simpa using h)
          · exact fun h => f1 (by simpa using h)
          · exact fun h => f3 (by simpa using h)
          · exact fun h => f4 (by simpa using h)
          · exact fun h => f5 (by simpa using h)
          · exact fun h => f6 (by simpa using h)
          · exact fun h => f7 (by simpa using h)
          · exact fun h => f8 (by simpa using h)
          · exact fun h => Or.inl (g7 (by simpa using h))
          · exact fun h => Or.inl (g8 (by simpa using h))
    | 3, ho =>
          simp only [List.getElem?_toArray, List.getElem?_cons_zero, List.getElem?_cons_succ, Option.some.injEq] at ho
          subst ho
          rw [if_pos (by rfl)]
          have g := f2 (hpre ⟨2, .data⟩ (by simp) rfl)
          have hra : w1.rangeAt bs 0 (u32s h) := fun j v hv => by
            have hst := heap_keep S0.out hB1
            rw [cell_of_row _ _ _ _ _ _ hst, Nat.zero_add]
            simp only [stCells, List.getElem?_toArray]
            rw [List.getElem?_append_left (List.getElem?_eq_some_iff.1 hv).1]
            exact hv
          refine stepS_load_mid 77 (.tmp 72) rfl bs 0 g (u32s h) _ hra Tryd.underlying77 rfl (by rw [hlen]; kernel_rfl) ?_
          refine hK _ _ ⟨hB1, y0, ?_, ?_, ?_, fun _ => rfl, ?_, ?_, ?_, ?_, ?_, ?_, ?_⟩
          · exact fun h => f0 (by simpa using h)
          · exact fun h => f1 (by simpa using h)
          · exact fun h => f2 (by simpa using h)
          · exact fun h => f4 (by simpa using h)
          · exact fun h => f5 (by simpa using h)
          · exact fun h => f6 (by simpa using h)
          · exact fun h => f7 (by simpa using h)
          · exact fun h => f8 (by simpa using h)
          · exact fun h => Or.inl (g7 (by simpa using h))
          · exact fun h => Or.inl (g8 (by simpa using h))
    | 4, ho =>
          simp only [List.getElem?_toArray, List.getElem?_cons_zero, List.getElem?_cons_succ, Option.some.injEq] at ho
          subst ho
          rw [if_pos (by rfl)]
          unfold stepS
          have HK := Lib.hid (And.intro hK (And.intro f0 (And.intro f1 (And.intro f2 (And.intro f3 (And.intro f4 (And.intro f5 (And.intro f6 (And.intro f7 (And.intro f8 (And.intro g7 g8)))))))))))
          clear hpre hD hK f0 f1 f2 f3 f4 f5 f6 f7 f8 g7 g8
          go_simp
          refine (constants_any _).mono ?_
          rintro e w2 ⟨rfl, hB2⟩
          obtain ⟨hK, f0, f1, f2, f3, f4, f5, f6, f7, f8, g7, g8⟩ := HK.out
          refine hK _ _ ⟨ext_trans hB1 hB2, y0, ?_, ?_, ?_, ?_, fun _ => rfl, ?_, ?_, ?_, ?_, ?_, ?_⟩
          · exact fun h => f0 (by simpa using h)
          · exact fun h => f1 (by simpa using h)
          · exact fun h => f2 (by simpa using h)
          · exact fun h => f3 (by simpa using h)
          · intro h
            obtain ⟨B, C, e1, e2, e3, e4⟩ := f5 (by simpa using h)
            exact ⟨B, C, e1, e2, heap_keep e3 hB2, e4⟩
          · intro h
            obtain ⟨B, C, e1, e2, e3, e4⟩ := f6 (by simpa using h)
            exact ⟨B, C, e1, e2, heap_keep e3 hB2, e4⟩
          · intro h
            obtain ⟨B, e1, e2, e3⟩ := f7 (by simpa using h)
            exact ⟨B, e1, e2, heap_keep e3 hB2⟩
          · intro h
            obtain ⟨B, e1, e2, e3⟩ := f8 (by simpa using h)
            exact ⟨B, e1, e2, heap_keep e3 hB2⟩
          · exact fun h => Or.inl (g7 (by simpa using h))
          · exact fun h => Or.inl (g8 (by simpa using h))
    | 5, ho =>
          simp only [List.getElem?_toArray, List.getElem?_cons_zero, List.getElem?_cons_succ, Option.some.injEq] at ho
          subst ho
          rw [if_pos (by rfl)]
          have h7 : ¬ D 7 := fun e => hD (g7 e)
          unfold stepS
          have HK := Lib.hid (And.intro hK (And.intro f0 (And.intro f1 (And.intro f2 (And.intro f3 (And.intro f4 (And.intro f5 (And.intro f6 (And.intro f7 (And.intro f8 (And.intro g7 g8)))))))))))
          clear hpre hD hK f0 f1 f2 f3 f4 f5 f6 f7 f8 g7 g8
          go_simp
          obtain ⟨hK, f0, f1, f2, f3, f4, f5, f6, f7, f8, g7, g8⟩ := HK.out
          have hB2 := alloc_ext w1 (.cells #[.int .u32 0, .int .u32 0, .int .u32 0, .int .u32 0, .int .u32 0, .int .u32 0, .int .u32 0, .int .u32 0] 77)
          refine hK _ _ ⟨ext_trans hB1 hB2, y0, ?_, ?_, ?_, ?_, ?_, fun _ => ⟨w1.heap.size, _, rfl, hB1.size, heap_alloc_new _ _, by simp⟩, ?_, ?_, ?_, ?_, ?_⟩
          · exact fun h => f0 (by simpa using h)
          · exact fun h => f1 (by simpa using h)
          · exact fun h => f2 (by simpa using h)
          · exact fun h => f3 (by simpa using h)
          · exact fun h => f4 (by simpa using h)
          · intro h
            obtain ⟨B, C, e1, e2, e3, e4⟩ := f6 (by simpa using h)
            exact ⟨B, C, e1, e2, heap_keep e3 hB2, e4⟩
          · exact fun h => (h7 (by simpa using h)).elim
          · intro h
            obtain ⟨B, e1, e2, e3⟩ := f8 (by simpa using h)
            exact ⟨B, e1, e2, heap_keep e3 hB2⟩
          · exact fun _ => Or.inr rfl
          · exact fun h => Or.inl (g8 (by simpa using h))
    | 6, ho =>
          simp only [List.getElem?_toArray, List.getElem?_cons_zero, List.getElem?_cons_succ, Option.some.injEq] at ho
          subst ho
          rw [if_pos (by rfl)]
          have h8 : ¬ D 8 := fun e => hD (g8 e)
          unfold stepS
          have HK := Lib.hid (And.intro hK (And.intro f0 (And.intro f1 (And.intro f2 (And.intro f3 (And.intro f4 (And.intro f5 (And.intro f6 (And.intro f7 (And.intro f8 (And.intro g7 g8)))))))))))
          clear hpre hD hK f0 f1 f2 f3 f4 f5 f6 f7 f8 g7 g8
          go_simp
          obtain ⟨hK, f0, f1, f2, f3, f4, f5, f6, f7, f8, g7, g8⟩ := HK.out
          have hB2 := alloc_ext w1 (.cells (Array.replicate 64 (.int .u32 0)) 86)
          refine hK _ _ ⟨ext_trans hB1 hB2, y0, ?_, ?_, ?_, ?_, ?_, ?_, fun _ => ⟨w1.heap.size, _, rfl, hB1.size, heap_alloc_new _ _, by simp⟩, ?_, ?_, ?_, ?_⟩
          · exact fun h => f0 (by simpa using h)
          · exact fun h => f1 (by simpa using h)
          · exact fun h => f2 (by simpa using h)
          · exact fun h => f3 (by simpa using h)
          · exact fun h => f4 (by simpa using h)
          · intro h
            obtain ⟨B, C, e1, e2, e3, e4⟩ := f5 (by simpa using h)
            exact ⟨B, C, e1, e2, heap_keep e3 hB2, e4⟩
          · intro h
            obtain ⟨B, e1, e2, e3⟩ := f7 (by simpa using h)
            exact ⟨B, e1, e2, heap_keep e3 hB2⟩
          · exact fun h => (h8 (by simpa using h)).elim
          · exact fun h => Or.inl (g7 (by simpa using h))
          · exact fun _ => Or.inr rfl
    | 7, ho =>
          simp only [List.getElem?_toArray, List.getElem?_cons_zero, List.getElem?_cons_succ, Option.some.injEq] at ho
          subst ho
          rw [if_pos (by rfl)]
          have hp : D 5 := hpre ⟨5, .data⟩ (by simp) rfl
          have gs := f3 (hpre ⟨3, .data⟩ (by simp) rfl)
          obtain ⟨B, C, e1, e2, e3, e4⟩ := f5 hp
          have csz : (u32s h).toArray.size = 8 := by simpa using hlen
          refine stepS_store_row 77 (.tmp 8) (.tmp 73) rfl B (u32s h).toArray e1 gs _ _ e3 (by rw [csz]; kernel_rfl) (by rw [e4, csz]) (by simp [u32s, Value.oneCell']) ?_
          have hnew := setRow_heap _ _ _ (u32s h).toArray _ _ e3
          refine hK _ _ ⟨below_setRow hB1 e2 _, y0, fun h => f0 (by simpa using h), fun h => f1 (by simpa using h), fun h => f2 (by simpa using h), fun h => f3 (by simpa using h), fun h => f4 (by simpa using h), ?_, ?_, ?_, ?_, ?_, ?_⟩
          · exact fun _ => ⟨B, _, e1, e2, hnew, csz⟩
          · intro h
            obtain ⟨B', C', d1, d2, d3, d4⟩ := f6 (by simpa using h)
            exact ⟨B', C', d1, d2, (setRow_other _ _ _ _ (type_ne d3 e3 (by decide))).trans d3, d4⟩
          · exact fun _ => ⟨B, e1, e2, hnew⟩
          · intro h
            obtain ⟨B', d1, d2, d3⟩ := f8 (by simpa using h)
            exact ⟨B', d1, d2, (setRow_other _ _ _ _ (type_ne d3 e3 (by decide))).trans d3⟩
          · exact fun hx => Or.inl hp
          · exact fun hx => Or.inl (g8 (by simpa using hx))
    | 8, ho =>
          simp only [List.getElem?_toArray, List.getElem?_cons_zero, List.getElem?_cons_succ, Option.some.injEq] at ho
          subst ho
          rw [if_pos (by rfl)]
          have hp : D 6 := hpre ⟨6, .data⟩ (by simp) rfl
          have gs := f4 (hpre ⟨4, .data⟩ (by simp) rfl)
          obtain ⟨B, C, e1, e2, e3, e4⟩ := f6 hp
          have csz : (u32s shaK).toArray.size = 64 := by simpa using klen
          refine stepS_store_row 86 (.tmp 9) (.tmp 74) rfl B (u32s shaK).toArray e1 gs _ _ e3 (by rw [csz]; kernel_rfl) (by rw [e4, csz]) (by simp [u32s, Value.oneCell']) ?_
          have hnew := setRow_heap _ _ _ (u32s shaK).toArray _ _ e3
          refine hK _ _ ⟨below_setRow hB1 e2 _, y0, fun h => f0 (by simpa using h), fun h => f1 (by simpa using h), fun h => f2 (by simpa using h), fun h => f3 (by simpa using h), fun h => f4 (by simpa using h), ?_, ?_, ?_, ?_, ?_, ?_⟩
          · intro h
            obtain ⟨B', C', d1, d2, d3, d4⟩ := f5 (by simpa using h)
            exact ⟨B', C', d1, d2, (setRow_other _ _ _ _ (type_ne d3 e3 (by decide))).trans d3, d4⟩
          · exact fun _ => ⟨B, _, e1, e2, hnew, csz⟩
          · intro h
            obtain ⟨B', d1, d2, d3⟩ := f7 (by simpa using h)
            exact ⟨B', d1, d2, (setRow_other _ _ _ _ (type_ne d3 e3 (by decide))).trans d3⟩
          · exact fun _ => ⟨B, e1, e2, hnew⟩
          · exact fun hx => Or.inl (g7 (by simpa using hx))
          · exact fun hx => Or.inl hp
    | n + 9, ho => simp at ho
  · intro D σ w1 hall _ ⟨hB1, y0, f0, f1, f2, f3, f4, f5, f6, f7, f8, g7, g8⟩
    obtain ⟨B, e1, e2, e3⟩ := f7 (hall 7 (by simp))
    obtain ⟨C, d1, d2, d3⟩ := f8 (hall 8 (by simp))
    have := hQ (σ 70) (σ 71) (σ 72) (σ 73) (σ 74) B C w1 hB1 e2 d2 e3 d3
    rw [← e1, ← d1] at this
    simp only [dstsL, List.filterMap_cons, List.filterMap_nil, setAll]
    simp only [Act.put] at this
    exact this
end Go.Proofs.YtbjnpomcgcbflaaDoor
