/- Walks: the parts of a key (key.Decode). -/
import Derived.Test.YtbjnpomcgcbflaaDoorD1
set_option linter.unusedVariables false
set_option linter.unusedSimpArgs false
namespace Go.Proofs.YtbjnpomcgcbflaaDoor
open Go.RowKit Go.Deep

theorem infoSB : (Tryd.prog.info? 28).map (fun i => (i.zero, i.size, i.bytes)) = some (some (.slice none 0 0), 1, 24) := by kernel_rfl
/-- Parts in a row of one's own, and no fault; or none, and a fault. -/
def RetParts (w : World) (l : List UInt8) (e : Ending) (w' : World) : Prop :=
  (decB l = none ∧ e = .returned (.tuple #[.slice none 0 0, .int .i64 3]) ∧ Below w.heap.size w w') ∨
  ∃ ps v, decB l = some ps ∧ e = .returned (.tuple #[v, .int .i64 0]) ∧ OwnX BytesX 1 w.heap.size 28 w' v ps ∧ Below w.heap.size w w'
theorem decB_nil' : decB [] = some [] := rfl
set_option maxRecDepth 100000 in
set_option maxHeartbeats 2000000 in
theorem decode_any {A : Option Addr} {l : List UInt8} {n : Nat} (hn : l.length = n) (c : Nat) (hc : n ≤ c) (hc2 : c ≤ 9223372036854775807) (hl : n ≤ 1099511627776) (w : World) (h : Hid (Seg w A (bvs l))) :
    Calls Tryd.prog 39 #[.slice A n c] w (RetParts w l) := by
  subst hn
  go_enter Tryd.func39, Tryd.ntmps39
  go_wp2_with fail
  go_loopw [0, 4] (fun vb vo wr => ∃ (ps : List (List UInt8)) (r : List UInt8) (A : Option Addr) (c : Nat), vb = .slice A r.length c ∧ r.length ≤ c ∧ c ≤ 9223372036854775807 ∧ Hid (Seg w A (bvs r)) ∧ Hid (decB l = (decB r).map (ps ++ ·)) ∧ Hid (ps.length + r.length ≤ l.length) ∧ Hid (OwnX BytesX 1 w.heap.size 28 wr vo ps) ∧ Hid (Below w.heap.size w wr)) (fun vb _ _ => match vb with | .slice _ n _ => n | _ => 0)
  case atStart => exact ⟨[], l, A, c, rfl, hc, hc2, h, by show _ = _; cases decB l <;> rfl, by show 0 + _ ≤ _; omega, OwnX.nil _, Below.refl _ _⟩
  case round =>
    clear h hc hc2
    obtain ⟨ps, r, A, c, rfl, hc, hc2, HS, HP, HL, HO, HB⟩ := hrel
    by_cases hz : 0 < r.length
    · have hrl : r.length ≤ 1099511627776 := by have := HL.out; omega
      have k1 := part_any (l := r) rfl c hc hc2 hrl w wr HB HS
      have hne : r ≠ [] := fun e => by rw [e] at hz; cases hz
      have HD := Lib.hid (decB_cons hne)
      clear hne
      go_wp2_with fail
      refine k1.mono ?_
      rintro e w1 (⟨hn, rfl, hb1⟩ | ⟨p, q, A1, c1, B1, d1, hs, rfl, hc1, hc12, hs1, hf1, hd1, hd12, hs2, hb1⟩)
      · have HN := Lib.hid hn
        have HB1 := Lib.hid (ext_trans HB.out hb1)
        clear hn hb1 k1
        go_wp2_with fail
        go_ret2
        refine .inl ⟨?_, rfl, HB1.out⟩
        rw [HP.out, HD.out, HN.out]
        rfl
      · have hlen := partG_less _ _ _ hs
        have hd : decB l = (decB q).map (ps ++ [p] ++ ·) := by
          rw [HP.out, HD.out, hs]
          show ((decB q).map (p :: ·)).map (ps ++ ·) = _
          cases decB q <;> simp
        have HDD := Lib.hid hd
        have hbase := HB.out.size
        have HO1 := Lib.hid (HO.out.kept BytesX.xe (ext_trans hb1 (alloc_ext w1 (.cells [Value.slice A1 p.length c1].toArray 28))))
        have hrow : ∀ j, u4.ownBlock = some j → j < wr.heap.size := fun j hj => (HO.out.lt j hj).2
        have HE : Hid (BytesX w.heap.size u4.ownBlock w1 [.slice A1 p.length c1] p) := ⟨A1, c1, rfl, hc1, hc12, hs1, Off.fresh hf1 hbase hrow⟩
        have HO2 := Lib.hid (HO.out.kept BytesX.xe hb1)
        have HB1 := Lib.hid (ext_trans HB.out hb1)
        have HQ := Lib.hid hs2
        clear k1 hs hd hbase hrow hs1 hf1 hs2 hb1 HO1 hc1 hc12
        simp only [List.length_nil, Nat.zero_add] at hlen
        have hpl : ps.length + 1 ≤ 1099511627776 := by have := HL.out; omega
        go_wp2_with (at_builtin; refine wl_append_x BytesX.xe 24 w (.tmp 19) (.tmp 21) 56 rfl rfl Tryd.underlying56 (.slice none 0 0) infoSB rfl (by decide) (by decide) rfl rfl rfl HO2.out HE.out (by omega) HB1.out ?_; intro v2 w2 own2 hB2 _ _)
        go_roundw
        case rel =>
          exact ⟨ps ++ [p], q, B1, d1, rfl, hd1, hd12, HQ.out, HDD.out, by show _ ≤ _; rw [List.length_append]; have := HL.out; simp; omega, own2, hB2⟩
        case measure => simp <;> omega
    · have hr0 : r = [] := List.eq_nil_of_length_eq_zero (by omega)
      have HR := Lib.hid hr0
      clear hr0
      go_wp2_with fail
      go_ret2
      refine .inr ⟨ps, u4, ?_, rfl, HO.out, HB.out⟩
      rw [HP.out, HR.out, decB_nil']
      simp
end Go.Proofs.YtbjnpomcgcbflaaDoor
