/- Walks: an entry's bytes. Written by wip/gen/XB3.py. -/
import Derived.Test.YtbjnpomcgcbflaaDoorB2
import Derived.Test.YtbjnpomcgcbflaaDoorArr
set_option linter.unusedVariables false
set_option linter.unusedSimpArgs false
namespace Go.Proofs.YtbjnpomcgcbflaaDoor
open Go.RowKit Go.Deep

theorem infoSB : (Tryd.prog.info? 28).map (fun i => (i.zero, i.size, i.bytes)) = some (some (.slice none 0 0), 1, 24) := by kernel_rfl
theorem hashB_one {w : World} {e : Ent} {T : TypeId} {v6 : Value} (h6 : SlB e.hash v6 w) : SlBs [e.hash] (.slice (some ⟨w.heap.size, 0, none⟩) 1 1) (w.alloc (.cells #[v6] T)) := by
  refine ⟨_, rfl, Arr.lit1 (cs := [v6]) BytesE.stays rfl fun i v x hv hx => ?_⟩
  match i, hv, hx with
  | 0, hv, hx => cases hv; cases hx; exact h6.bytesE
  | n + 1, hv, hx => simp at hv
theorem SlBs.arr {l : List (List UInt8)} {A : Option Addr} {n c : Nat} {w : World} (h : SlBs l (.slice A n c) w) : Arr BytesE 1 w A l := by
  obtain ⟨A', h1, h2⟩ := h
  cases h1
  exact h2
theorem sevenB_le {e : Ent} (h : EntLe e) : ∀ p ∈ saidB e ++ [e.hash], p.length ≤ 1099511627776 := by
  intro p hp
  rcases List.mem_append.1 hp with hp | hp
  · exact saidB_le h p hp
  · simp at hp
    subst hp
    exact h.hash
theorem bytesB_le {e : Ent} (h : EntLe e) : (bytesB e).length ≤ 70368744177664 := by
  have := encB_len _ _ (sevenB_le h)
  simp only [saidB, List.length_cons, List.length_nil, List.length_append] at this
  unfold bytesB
  exact Nat.le_trans this (by decide)
set_option maxRecDepth 100000 in
set_option maxHeartbeats 2000000 in
theorem bytes_r1 {Q : Exit → Act → World → Prop} {a0 : Act} {w0 : World} (e : Ent) (A : Option Addr) (c : Nat) (B : Option Addr) (d : Nat) (b : Nat) (z1 : a0.tmps.getD 1 undef = .pointer (some ⟨b, 0, none⟩)) (hHC : ∀ j v, (entCells e A c B d)[j]? = some v → w0.cell? ⟨b, j, none⟩ = some v) (hHI : EntIn w0 e A c B d) (hHL : EntLe e) (zsz : a0.tmps.size = 10)
    (hQ : ∀ (v1 v4 v5 v6 v7 : Value) (w1 : World), Below w0.heap.size w0 w1 → SlBs (saidB e) (v1) w1 → SlBs [e.hash] (v4) w1 → SlA BytesE 1 (saidB e ++ [e.hash]) (v5) w1 → SlB (bytesB e) (v6) w1 → SlB (bytesB e) (v7) w1 → Q .normal ((((((((a0.put (some 3) (.agg (entCells e A c B d).toArray)).put (some 4) v1).put (some 5) (.pointer (some ⟨b, 6, none⟩))).put (some 6) (.slice B e.hash.length d)).put (some 7) v4).put (some 8) v5).put (some 9) v6).put (some 2) v7) w1) :
    (regOf Tryd.f25 1).wp Tryd.prog Q a0 w0 := by
  have Z1 := Lib.hid z1
  clear z1
  have HC := Lib.hid hHC
  clear hHC
  have HI := Lib.hid hHI
  clear hHI
  have HL := Lib.hid hHL
  clear hHL
  have HQ := Lib.hid hQ
  clear hQ
  conv => arg 2; whnf
  refine wp_region_facts true (by kernel_rfl) (by kernel_rfl) 10 (by kernel_rfl) zsz (by kernel_rfl) (Below w0.heap.size w0) (fun w w' => Below w.heap.size w w') (drewIf_ext _ _) (fun _ _ h k => ext_trans h k) (fun i v w => match i with
    | 0 => v = .agg (entCells e A c B d).toArray
    | 1 => SlBs (saidB e) (v) w
    | 2 => v = .pointer (some ⟨b, 6, none⟩)
    | 3 => v = .slice B e.hash.length d
    | 4 => SlBs [e.hash] (v) w
    | 5 => SlA BytesE 1 (saidB e ++ [e.hash]) (v) w
    | 6 => SlB (bytesB e) (v) w
    | 7 => SlB (bytesB e) (v) w
    | _ => True) ?_ ?_ ?_
  · intro i v w w' h hb
    match i, h with
    | 0, h => exact h
    | 1, h => exact SlBs.below h hb
    | 2, h => exact h
    | 3, h => exact h
    | 4, h => exact SlBs.below h hb
    | 5, h => exact (SlA.below BytesE.stays) h hb
    | 6, h => exact SlB.below h hb
    | 7, h => exact SlB.below h hb
    | _ + 8, _ => trivial
  refine Obs.cons (fun σ a w hB hσ hp K hK => ?_) ?_
  · rw [if_pos (by rfl)]
    have e1 : σ 1 = .pointer (some ⟨b, 0, none⟩) := (hσ 1 (by kernel_rfl)).trans Z1.out
    refine stepS_load_mid 30 _ rfl (b) (0) e1 (entCells e A c B d) _ (fun j v hv => by rw [Nat.zero_add]; exact cell_later hB (HC.out j v hv)) Tryd.underlying30 rfl (by kernel_rfl) ?_
    exact hK _ _ (Below.refl _ _) rfl
  refine Obs.cons (fun σ a w hB hσ hp K hK => ?_) ?_
  · rw [if_pos (by rfl)]
    have e3 : σ 3 = .agg (entCells e A c B d).toArray := (hp 0 rfl)
    refine stepS_call _ Tryd.func38 (by kernel_rfl) (by kernel_rfl) _ _ rfl _ rfl ?_
    simp only [List.map_toArray, List.map_cons, List.map_nil, evalS, e3]
    refine Calls.mono (said_any e A c B d _ (HI.out.below hB) HL) ?_
    rintro e w1 ⟨v, rfl, hs, hb⟩
    exact ⟨_, rfl, hK _ _ (hb) hs⟩
  refine Obs.cons (fun σ a w hB hσ hp K hK => ?_) ?_
  · rw [if_pos (by rfl)]
    have e1 : σ 1 = .pointer (some ⟨b, 0, none⟩) := (hσ 1 (by kernel_rfl)).trans Z1.out
    have HK := Lib.hid hK
    have HB := Lib.hid hB
    clear hK hp hσ hB
    unfold stepS
    go_simp
    exact HK.out _ _ (Below.refl _ _) rfl
  refine Obs.cons (fun σ a w hB hσ hp K hK => ?_) ?_
  · rw [if_pos (by rfl)]
    have e5 : σ 5 = .pointer (some ⟨b, 6, none⟩) := (hp 2 rfl)
    have hc := cell_later hB (HC.out 6 _ rfl)
    have HK := Lib.hid hK
    have HB := Lib.hid hB
    clear hK hp hσ hB
    unfold stepS
    go_simp
    exact HK.out _ _ (Below.refl _ _) rfl
  refine Obs.cons (fun σ a w hB hσ hp K hK => ?_) ?_
  · rw [if_pos (by rfl)]
    have e6 : σ 6 = .slice B e.hash.length d := (hp 3 rfl)
    have h6 := hashB_one (T := 28) (e := e) (show SlB e.hash (σ 6) w from ⟨B, d, e6, HI.out.hd, HI.out.hd2, HI.out.sh.below hB⟩)
    rw [e6] at h6
    have HK := Lib.hid hK
    have H6 := Lib.hid h6
    clear hK hp hσ hB h6
    unfold stepS
    go_simp
    exact HK.out _ _ (alloc_ext _ _) H6.out
  refine Obs.cons (fun σ a w hB hσ hp K hK => ?_) ?_
  · rw [if_pos (by rfl)]
    have e4 : SlBs (saidB e) (σ 4) w := (hp 1 rfl)
    have e7 : SlBs [e.hash] (σ 7) w := (hp 4 rfl)
    obtain ⟨A4, q4, h4⟩ := e4
    obtain ⟨A7, q7, h7⟩ := e7
    refine stepS_append_full BytesE BytesE.stays 1 24 BytesE.flat _ _ 56 28 (.slice none 0 0) rfl Tryd.underlying56 infoSB rfl (by decide) q4 q7 h4 h7 (by simp) (by simp [saidB]) (by simp [saidB]) (by simp [saidB, maxLen]) ?_
    exact fun v w1 hb hs => hK _ _ hb hs.slA
  refine Obs.cons (fun σ a w hB hσ hp K hK => ?_) ?_
  · rw [if_pos (by rfl)]
    have e8 : SlA BytesE 1 (saidB e ++ [e.hash]) (σ 8) w := (hp 5 rfl)
    obtain ⟨A8, c8, q8, hc8, hc82, h8⟩ := e8
    refine stepS_call _ Tryd.func37 (by kernel_rfl) (by kernel_rfl) _ _ rfl _ rfl ?_
    simp only [List.map_toArray, List.map_cons, List.map_nil, evalS, q8]
    refine Calls.mono (encode_any rfl c8 _ h8 (sevenB_le HL.out) (bytesB_le HL.out) (by simp [saidB])) ?_
    rintro e w1 ⟨A9, c9, rfl, hc, hc2, hs, hb⟩
    exact ⟨_, rfl, hK _ _ (hb) ⟨A9, c9, rfl, hc, hc2, hs⟩⟩
  refine Obs.cons (fun σ a w hB hσ hp K hK => ?_) ?_
  · rw [if_pos (by rfl)]
    have e9 : SlB (bytesB e) (σ 9) w := (hp 6 rfl)
    refine stepS_assign _ rfl _ rfl ?_
    exact hK _ _ (Below.refl _ _) e9
  · exact Obs.nil _
  · intro σ w hB hf
    have f0 : σ 3 = .agg (entCells e A c B d).toArray := hf 0 (by decide)
    have f1 : SlBs (saidB e) (σ 4) w := hf 1 (by decide)
    have f2 : σ 5 = .pointer (some ⟨b, 6, none⟩) := hf 2 (by decide)
    have f3 : σ 6 = .slice B e.hash.length d := hf 3 (by decide)
    have f4 : SlBs [e.hash] (σ 7) w := hf 4 (by decide)
    have f5 : SlA BytesE 1 (saidB e ++ [e.hash]) (σ 8) w := hf 5 (by decide)
    have f6 : SlB (bytesB e) (σ 9) w := hf 6 (by decide)
    have f7 : SlB (bytesB e) (σ 2) w := hf 7 (by decide)
    have hq := HQ.out (σ 4) (σ 7) (σ 8) (σ 9) (σ 2) w hB f1 f4 f5 f6 f7
    simp only [dstsL, List.filterMap_cons, List.filterMap_nil, setAll]
    rw [f0, f2, f3]
    simp only [Act.put] at hq
    exact hq
set_option maxRecDepth 100000 in
set_option maxHeartbeats 1000000 in
theorem bytes_any (e : Ent) (A : Option Addr) (c : Nat) (B : Option Addr) (d : Nat) (w : World) (HI : Hid (EntIn w e A c B d)) (HL : Hid (EntLe e)) :
    Calls Tryd.prog 25 #[.agg #[.int .i64 e.no, .int .i64 e.time, .int .i64 e.code, .string e.who, .string e.what, .slice A e.prev.length c, .slice B e.hash.length d]] w (RetB w (bytesB e)) := by
  go_enter Tryd.func25, Tryd.ntmps25
  go_wp2_with fail
  have q1 := entAt (e := e) (A := A) (c := c) (B := B) (d := d) (heap_alloc_new w (.cells (entCells e A c B d).toArray 30))
  have q2 := HI.out.below (alloc_ext w (.cells (entCells e A c B d).toArray 30))
  refine bytes_r1 e A c B d w.heap.size (by rfl) q1 q2 HL.out (by rfl) ?_
  clear q1 q2
  intro v1 v4 v5 v6 v7 w1 hB h1 h4 h5 h6 h7
  have hb := ext_trans (alloc_ext w _) hB
  have H7 := Lib.hid h7
  have HB := Lib.hid hb
  clear h1 h4 h5 h6 h7 hB hb
  simp only [Act.put, List.setIfInBounds_toArray, List.set_cons_zero, List.set_cons_succ]
  go_wp2_with fail
  obtain ⟨A9, c9, rfl, hc, hc2, hs⟩ := H7.out
  go_ret
  exact ⟨A9, c9, rfl, hc, hc2, hs, HB.out⟩

set_option maxRecDepth 100000 in
set_option maxHeartbeats 1000000 in
theorem refBytes_any (e : Ent) (A : Option Addr) (c : Nat) (B : Option Addr) (d : Nat) (w : World) (HI : Hid (EntIn w e A c B d)) (HL : Hid (EntLe e)) :
    Calls Tryd.prog 31 #[.agg #[.int .i64 e.no, .int .i64 e.time, .int .i64 e.code, .string e.who, .string e.what, .slice A e.prev.length c, .slice B e.hash.length d]] w (RetB w (bytesB e)) := by
  have q2 : Hid (EntIn (w.alloc (.cells (entCells e A c B d).toArray 30)) e A c B d) := HI.out.below (alloc_ext _ _)
  have k1 := parts_any e A c B d _ q2 HL
  go_enter Tryd.func31, Tryd.ntmps31
  go_wp2_with fail
  refine k1.mono ?_
  rintro r w1 ⟨v, rfl, ⟨A1, rfl, h1⟩, hB1⟩
  have hc := cell_later hB1 (entAt (e := e) (A := A) (c := c) (B := B) (d := d) (heap_alloc_new w (.cells (entCells e A c B d).toArray 30)) 6 _ rfl)
  have h7 : SlBs [e.hash] _ _ := hashB_one (T := 28) (show SlB e.hash (.slice B e.hash.length d) w1 from ⟨B, d, rfl, HI.out.hd, HI.out.hd2, (HI.out.sh.below (alloc_ext w _)).below hB1⟩)
  have H7 := Lib.hid h7
  have H1 := Lib.hid h1
  have HB := Lib.hid (ext_trans (alloc_ext w _) hB1)
  clear k1 h1 hB1 h7
  go_wp2_with (at_builtin; refine wl_append_full BytesE BytesE.stays 1 24 BytesE.flat (.tmp 6) (.tmp 9) 56 28 (.slice none 0 0) rfl rfl Tryd.underlying56 infoSB rfl (by decide) (l := saidB e) (m := [e.hash]) rfl rfl rfl rfl (H1.out.below BytesE.stays (alloc_ext _ _)) H7.out.arr (by simp) (by simp [saidB]) (by simp [saidB]) (by simp [saidB, maxLen]) ?_; intro v2 w2 hB2 h2)
  obtain ⟨A8, c8, rfl, hc8, hc82, h8⟩ := h2.slA
  have k2 := refEncode_any rfl c8 w2 h8 (sevenB_le HL.out) (bytesB_le HL.out) (by simp [saidB])
  have HB2 := Lib.hid (ext_trans (ext_trans HB.out (alloc_ext _ _)) hB2)
  clear hB2 h2 h8 hc8 hc82 hc H7 H1 HB
  refine k2.mono ?_
  rintro r w3 ⟨A9, c9, rfl, hc9, hc92, hs9, hB9⟩
  go_wp2_with fail
  go_ret
  exact ⟨A9, c9, rfl, hc9, hc92, hs9, ext_trans HB2.out hB9⟩
end Go.Proofs.YtbjnpomcgcbflaaDoor
