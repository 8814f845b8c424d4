/- Walks: a part of a key is read (key.part). -/
import Derived.Test.YtbjnpomcgcbflaaDoorA5
import Derived.Test.YtbjnpomcgcbflaaDoorX
import Derived.Test.YtbjnpomcgcbflaaDoorP5
set_option linter.unusedVariables false
set_option linter.unusedSimpArgs false
namespace Go.Proofs.YtbjnpomcgcbflaaDoor
open Go.RowKit Go.Deep

theorem indexByte_none (l : List UInt8) (h : l.count 0 = 0) : Lib.indexByte l 0 = -1 := by
  induction l with
  | nil => rfl
  | cons b l ih =>
    rw [List.count_cons] at h
    have hb : b ≠ 0 := by intro e; simp [e] at h
    have h2 := ih (by omega)
    unfold Lib.indexByte
    rw [if_neg (by simpa using hb), h2]
    rfl
theorem partG_none (p r : List UInt8) (h : r.count 0 = 0) : partG p r = none := by
  have := partG_plain r p [] h
  rw [List.append_nil] at this
  rw [this]
  rfl
/-- 's[:k]' of a slice. -/
theorem cut_to (t e : TypeId) {i : TypeInfo} {P : Program} (ht : P.underlying t = some (.slice e)) (hi : P.info? e = some i) (A : Option Addr) (n c : Nat) (k : Int) (h0 : 0 ≤ k) (hk : k ≤ c) :
    ∀ W : World, (Instr.slice t (.slice A n c) none (some (.int .i64 k)) none).run P W = .ok (.slice A k.toNat c) W := fun W => by
  have hel : P.elem t = e := by simp [Program.elem, ht]
  have hu : P.underlying t = some (.slice (P.elem t)) := by rw [hel]; exact ht
  rw [run_slice_h W t A n c hu .i64 k h0 hk, hel]
  simp [sizeOf, typeInfo, hi, sliced, Result.andThen]
  intro _
  cases A with
  | none => rfl
  | some a => simp [Addr.add]
def RetPart (w0 w : World) (l : List UInt8) (e : Ending) (w' : World) : Prop :=
  (partG [] l = none ∧ e = .returned (.tuple #[.slice none 0 0, .slice none 0 0, .bool false]) ∧ Below w.heap.size w w') ∨
  ∃ p r A c B d, partG [] l = some (p, r) ∧ e = .returned (.tuple #[.slice A (p : List UInt8).length c, .slice B (r : List UInt8).length d, .bool true]) ∧ p.length ≤ c ∧ c ≤ 9223372036854775807 ∧ Seg w' A (bvs p) ∧ Fresh w A ∧ r.length ≤ d ∧ d ≤ 9223372036854775807 ∧ Seg w0 B (bvs r) ∧ Below w.heap.size w w'
theorem RetPart.no {w0 w w' : World} {l p r : List UInt8} (h : partG [] l = partG p r) (h2 : partG p r = none) (hb : Below w.heap.size w w')   : RetPart w0 w l (.returned (.tuple #[.slice none 0 0, .slice none 0 0, .bool false])) w' := .inl ⟨h.trans h2, rfl, hb⟩
theorem RetPart.yes {w0 w w' : World} {l p r : List UInt8} {A B : Option Addr} {n c m d : Nat} (h : partG [] l = some (p, r)) (hn : n = p.length) (hm : m = r.length) (h1 : n ≤ c) (h2 : c ≤ 9223372036854775807) (h3 : Seg w' A (bvs p)) (h4 : Fresh w A) (h5 : m ≤ d) (h6 : d ≤ 9223372036854775807) (h7 : Seg w0 B (bvs r)) (hb : Below w.heap.size w w')   : RetPart w0 w l (.returned (.tuple #[.slice A n c, .slice B m d, .bool true])) w' := by
  subst hn hm
  exact .inr ⟨p, r, A, c, B, d, h, rfl, h1, h2, h3, h4, h5, h6, h7, hb⟩
theorem partG_at {p r : List UInt8} {i : Nat} (h0 : (r.take i).count 0 = 0) (h : r.drop i = 0 :: r.drop (i + 1)) : partG p r = match r.drop (i + 1) with
    | [] => none
    | d :: q => if d = 1 then some (p ++ r.take i, q) else if d = 255 then partG (p ++ r.take i ++ [0]) q else none := by
  have e := partG_plain (r.take i) p (r.drop i) h0
  rw [List.take_append_drop] at e
  rw [e, h]
  cases hd : r.drop (i + 1) with
  | nil => rfl
  | cons d q => rw [partG, if_pos rfl]

set_option maxRecDepth 100000 in
set_option maxHeartbeats 2000000 in
theorem part_any {A : Option Addr} {l : List UInt8} {n : Nat} (hn : l.length = n) (c : Nat) (hc : n ≤ c) (hc2 : c ≤ 9223372036854775807) (hl : n ≤ 1099511627776) (w0 w : World) (hw0 : Hid (Below w0.heap.size w0 w)) (h : Hid (Seg w0 A (bvs l))) :
    Calls Tryd.prog 53 #[.slice A n c] w (RetPart w0 w l) := by
  subst hn
  go_enter Tryd.func53, Tryd.ntmps53
  go_wp2_with fail
  go_loopw [0, 5] (fun vb vo wr => ∃ (p r : List UInt8) (A : Option Addr) (c : Nat), vb = .slice A r.length c ∧ r.length ≤ c ∧ c ≤ 9223372036854775807 ∧ Hid (Seg w0 A (bvs r)) ∧ Hid (partG [] l = partG p r) ∧ Hid (p.length + r.length ≤ l.length) ∧ Hid (wr.ownsRow w.heap.size 5 1 vo p.length (bvs p)) ∧ Hid (Below w.heap.size w wr)) (fun vb _ _ => match vb with | .slice _ n _ => n | _ => 0)
  case atStart => exact ⟨[], l, A, c, rfl, hc, hc2, h, rfl, by show 0 + _ ≤ _; omega, World.ownsRow_nil _ _ _ _, Below.refl _ _⟩
  case round =>
    rename Value => vo
    clear h hc hc2
    obtain ⟨p, r, A, c, rfl, hc, hc2, HS, HP, HL, HO, HB⟩ := hrel
    have hsr := HS.out.below (ext_trans hw0.out HB.out)
    have hrl : r.length ≤ 1099511627776 := by have := HL.out; omega
    by_cases hz : r.count 0 = 0
    · have k1 := indexByte_any c 0 wr hsr
      rw [show ((0 : Int).toNat.toUInt8) = 0 from rfl, indexByte_none r hz] at k1
      have HZ := Lib.hid (partG_none p r hz)
      clear hz hsr
      go_wp2_with (go_at_call 62; refine k1.mono ?_; rintro e w1 ⟨rfl, rfl⟩)
      go_ret3
      exact RetPart.no HP.out HZ.out HB.out
    · obtain ⟨i, hi1, hi2, hi3, hi4⟩ := indexByte_split r (by omega)
      have k1 := indexByte_any c 0 wr hsr
      rw [show ((0 : Int).toNat.toUInt8) = 0 from rfl, hi1] at k1
      have HG := Lib.hid (partG_at (p := p) hi3 hi4)
      have HI := Lib.hid (And.intro hi3 hi4)
      clear hi1 hi3 hi4 hz
      have hi0 : (0 : Int) ≤ i := by omega
      have hw1 : IntKind.i64.wrap ((i : Int) + 1) = (i : Int) + 1 := IntWalk.i64_in _ (by omega)
      have hw2 : IntKind.i64.wrap ((i : Int) + 2) = (i : Int) + 2 := IntWalk.i64_in _ (by omega)
      by_cases hend : i + 1 = r.length
      · have hb : ((i : Int) + 1 == (r.length : Int)) = true := by simp; omega
        have HN : Hid (partG p r = none) := by
          show _ = _
          rw [HG.out, List.drop_of_length_le (by omega)]
        clear hend hsr
        go_wp2_with (go_at_call 62; refine k1.mono ?_; rintro e w1 ⟨rfl, rfl⟩)
        go_ret3
        exact RetPart.no HP.out HN.out HB.out
      · have hb : ((i : Int) + 1 == (r.length : Int)) = false := by simp; omega
        obtain ⟨d, hd⟩ : ∃ d, r[i + 1]? = some d := ⟨_, List.getElem?_eq_getElem (by omega)⟩
        obtain ⟨bA, oA, rfl⟩ := HS.out.addrB (by omega)
        have hdr : r.drop (i + 1) = d :: r.drop (i + 2) := by
          rw [List.drop_eq_getElem_cons (by omega), (List.getElem?_eq_some_iff.1 hd).2]
        have hg2 := HG.out
        rw [hdr] at hg2
        simp only at hg2
        have HG2 := Lib.hid hg2
        have HD := Lib.hid hd
        obtain ⟨i8, hi8, hsz8⟩ := infoU8 infoB
        have hcut := cut_to 28 5 Tryd.underlying28 hi8 (some ⟨bA, oA, none⟩) r.length c (i : Int) (by omega) (by omega)
        obtain ⟨A2, cut2, cA2, -, -⟩ := cut_from 28 5 Tryd.underlying28 hi8 (some ⟨bA, oA, none⟩) r.length c ((i : Int) + 2) (by omega) (by omega)
        simp only [Int.toNat_natCast, hsz8, show ((i : Int) + 2).toNat = i + 2 from by omega] at cut2 cA2 hcut
        have hS2 : Seg w0 A2 (bvs (r.drop (i + 2))) := by
          have h' := seg_from (A' := A2) (m := i + 2) (sz := 1) (n := r.length) HS.out (by rw [bvs_length, Nat.mul_one]) hc (fun b o e hl => cA2 b o e hl) (by omega)
          rw [Nat.mul_one] at h'
          rw [bvs_drop]
          exact h'
        have HS2 := Lib.hid hS2
        have htk : Seg wr (some ⟨bA, oA, none⟩) (bvs (r.take i)) := by rw [bvs_take]; exact hsr.take i
        have ho := HO.out
        have hbb := HB.out
        have hi3 : (i : Int) + 1 < r.length := by omega
        clear hend hd hdr hg2 hS2 hi8 hsz8 cA2 hsr
        have htl : (r.take i).length = i := by simp; omega
        have HTL := Lib.hid htl
        clear htl
        have hpl : p.length + i ≤ 1099511627776 := by have := HL.out; omega
        by_cases h1 : d = 1
        · have hq : ((d.toNat : Int) == 1) = true := by subst h1; rfl
          have HG3 := HG2.out
          rw [if_pos h1] at HG3
          have HG4 := Lib.hid (HP.out.trans HG3)
          clear h1 HG3
          go_wp2_with (first | (go_at_call 62; refine k1.mono ?_; rintro e w1 ⟨rfl, rfl⟩) | (at_builtin; refine wl_append w 5 1 1 (.tmp 18) (.tmp 21) 28 (.int .u8 0) rfl rfl Tryd.underlying28 infoB rfl (by decide) (by decide) rfl rfl ho htk (by rw [bvs_length, HTL.out, Nat.mul_one]) bvs_one (by omega) hbb ?_; intro v1 w1 own1 hB1 _ _; have hcell := (HS.out.below (ext_trans hw0.out hB1)).byte HD.out; have OW := Lib.hid own1; have HB1 := Lib.hid hB1))
          obtain ⟨A1, c1, rfl, hc1, hm1, hs1, _⟩ := own_seg OW.out
          have hf1 : Fresh w A1 := fun a ha => own_ge OW.out a.block (by rw [ha]; rfl)
          have H1 := Lib.hid (And.intro hc1 (And.intro hm1 (And.intro hs1 hf1)))
          clear hc1 hm1 hs1 hf1
          go_wp2_with fail
          go_quiet (fail)
          go_wp2_with fail
          go_ret3
          refine RetPart.yes HG4.out (by rw [List.length_append, HTL.out]) (by rw [List.length_drop]) H1.out.1 H1.out.2.1 ?_ H1.out.2.2.2 (by omega) (by omega) HS2.out (below_drewN HB1.out _)
          rw [bvs_append]
          exact H1.out.2.2.1.drewN _
        · by_cases h2 : d = 255
          · have hq : ((d.toNat : Int) == 1) = false := by subst h2; rfl
            have hq2 : ((d.toNat : Int) == 255) = true := by subst h2; rfl
            have HG3 := HG2.out
            rw [if_neg h1, if_pos h2] at HG3
            have HG4 := Lib.hid (HP.out.trans HG3)
            clear h1 h2 HG3
            go_wp2_with (first | (go_at_call 62; refine k1.mono ?_; rintro e w1 ⟨rfl, rfl⟩) | (at_builtin; refine wl_append w 5 1 1 (.tmp 18) (.tmp 21) 28 (.int .u8 0) rfl rfl Tryd.underlying28 infoB rfl (by decide) (by decide) rfl rfl ho htk (by rw [bvs_length, HTL.out, Nat.mul_one]) bvs_one (by omega) hbb ?_; intro v1 w1 own1 hB1 _ _; have hcell := (HS.out.below (ext_trans hw0.out hB1)).byte HD.out; have own1' := own_below own1 (alloc_ext w1 (.cells #[.int .u8 0] 5)); have hB1' := ext_trans hB1 (alloc_ext w1 (.cells #[.int .u8 0] 5)); clear own1) | (at_builtin; refine wl_append w 5 1 1 (.tmp 37) (.tmp 38) 28 (.int .u8 0) rfl rfl Tryd.underlying28 infoB rfl (by decide) (by decide) rfl rfl own1' (news := bvs [0]) (Seg.of_block (heap_alloc_new _ _) fun j u hu => by simpa [bvs, bv] using hu) rfl bvs_one (by omega) hB1' ?_; intro v2 w2 own2 hB2 _ _))
            go_roundw
            case rel =>
              refine ⟨p ++ r.take i ++ [0], r.drop (i + 2), A2, c - (i + 2), by rw [List.length_drop], by rw [List.length_drop]; omega, by omega, HS2.out, HG4.out, ?_, ?_, hB2⟩
              · show _ ≤ _
                rw [List.length_append, List.length_append, HTL.out, List.length_drop]
                have := HL.out
                simp
                omega
              · exact own_cast own2 (by rw [List.length_append, List.length_append, HTL.out]; rfl) (by rw [bvs_append, bvs_append])
            case measure => simp <;> omega
          · have hq : ((d.toNat : Int) == 1) = false := by
              simp
              intro e
              exact h1 (UInt8.toNat.inj (by show d.toNat = 1; omega))
            have hq2 : ((d.toNat : Int) == 255) = false := by
              simp
              intro e
              exact h2 (UInt8.toNat.inj (by show d.toNat = 255; omega))
            have HG3 := HG2.out
            rw [if_neg h1, if_neg h2] at HG3
            have HG4 := Lib.hid HG3
            clear h1 h2 HG3
            go_wp2_with (first | (go_at_call 62; refine k1.mono ?_; rintro e w1 ⟨rfl, rfl⟩) | (at_builtin; refine wl_append w 5 1 1 (.tmp 18) (.tmp 21) 28 (.int .u8 0) rfl rfl Tryd.underlying28 infoB rfl (by decide) (by decide) rfl rfl ho htk (by rw [bvs_length, HTL.out, Nat.mul_one]) bvs_one (by omega) hbb ?_; intro v1 w1 own1 hB1 _ _; have hcell := (HS.out.below (ext_trans hw0.out hB1)).byte HD.out; have HB1 := Lib.hid hB1))
            go_ret3
            exact RetPart.no HP.out HG4.out HB1.out
end Go.Proofs.YtbjnpomcgcbflaaDoor
