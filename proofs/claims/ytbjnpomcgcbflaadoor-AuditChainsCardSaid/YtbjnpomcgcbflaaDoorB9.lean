/- Walks: how many entries are right. -/
import Derived.Test.YtbjnpomcgcbflaaDoorB8
set_option linter.unusedVariables false
set_option linter.unusedSimpArgs false
namespace Go.Proofs.YtbjnpomcgcbflaaDoor
open Go.RowKit Go.Deep

theorem verFrom_step {l : List Ent} {k : Nat} {e : Ent} (he : l[k]? = some e) (p : List UInt8) : verFrom k p (l.drop k) = if rightB e k p then verFrom (k + 1) e.hash (l.drop (k + 1)) else (k, false, p) := by
  have hk := (List.getElem?_eq_some_iff.1 he).1
  rw [List.drop_eq_getElem_cons hk, (List.getElem?_eq_some_iff.1 he).2, verFrom]
set_option maxRecDepth 100000 in
set_option maxHeartbeats 1000000 in
theorem verify_any {A : Option Addr} {l : List Ent} {n : Nat} (hn : l.length = n) (hn2 : n ≤ 1099511627776) (c : Nat) (Ah : Option Addr) (head : List UInt8) (ch : Nat) (w : World) (h : Hid (Arr EntE 7 w A l)) (hl : Hid (∀ e ∈ l, EntLe e)) (hh : Hid (Seg w Ah (bvs head))) :
    Calls Tryd.prog 20 #[.slice A n c, .slice Ah head.length ch] w fun r w' => r = .returned (.tuple #[.int .i64 (verB l head).1, .bool (verB l head).2]) ∧ Below w.heap.size w w' := by
  have HN := Lib.hid hn
  clear hn
  go_enter Tryd.func20, Tryd.ntmps20
  go_wp2_with (go_at_call 18; refine (zero_any _).mono ?_; rintro r w1 ⟨A9, c9, rfl, hc9, hc92, hs9, hB9, -⟩)
  go_loopw [6, 12] (fun pv i wr => ∃ (k : Nat) (p : List UInt8) (Ap : Option Addr) (cp : Nat), k ≤ n ∧ i = .int .i64 k ∧ pv = .slice Ap p.length cp ∧ Hid (verFrom 0 zeroB l = verFrom k p (l.drop k)) ∧ Hid (Seg wr Ap (bvs p)) ∧ Hid (Below w.heap.size w wr)) (fun _ i _ => n - (intOf i).toNat)
  case atStart => exact ⟨0, zeroB, A9, c9, by omega, rfl, rfl, rfl, hs9, hB9⟩
  case round =>
    obtain ⟨k, p, Ap, cp, hk, rfl, rfl, HV, HP, HB⟩ := hrel
    clear hs9 hB9 hc9 hc92
    by_cases hlt : k < n
    · obtain ⟨e, he⟩ : ∃ e, l[k]? = some e := ⟨_, List.getElem?_eq_getElem (by have := HN.out; omega)⟩
      obtain ⟨b, o, A1, c1, B1, d1, rfl, ⟨x0, x1, x2, x3, x4, x5, x6, hi⟩⟩ := (h.out.below EntE.stays HB.out).ent he
      have HE := Lib.hid he
      have HL : Hid (EntLe e) := hl.out e (List.mem_of_getElem? he)
      have hal := alloc_ext wr (.cells (entCells e A1 c1 B1 d1).toArray 30)
      have HI : Hid (EntIn (wr.alloc (.cells (entCells e A1 c1 B1 d1).toArray 30)) e A1 c1 B1 d1) := hi.below hal
      have HP1 : Hid (Seg (wr.alloc (.cells (entCells e A1 c1 B1 d1).toArray 30)) Ap (bvs p)) := HP.out.below hal
      have k1 := right_any e A1 c1 B1 d1 k p Ap cp _ HI HL HP1
      clear he hi hal
      cases hr : rightB e k p
      all_goals
        rw [hr] at k1
        have HR := Lib.hid hr
        clear hr
        go_wp2_with fail
        refine k1.mono ?_
        rintro r w1 ⟨rfl, hB1⟩
        have hc6 := cell_of_row _ _ 6 _ _ _ (heap_keep (heap_alloc_new wr (.cells (entCells e A1 c1 B1 d1).toArray 30)) hB1)
        simp only [entCells, List.getElem?_toArray, List.getElem?_cons_zero, List.getElem?_cons_succ] at hc6
        have HI1 : Hid (EntIn w1 e A1 c1 B1 d1) := HI.out.below hB1
        have HB1 : Hid (Below w.heap.size w w1) := ext_trans HB.out (ext_trans (alloc_ext _ _) hB1)
        clear k1 hB1
        go_wp2_with fail
      · go_ret2
        have e1 : verFrom 0 zeroB l = (k, false, p) := HV.out.trans ((verFrom_step HE.out p).trans (by simp [HR.out]))
        have e2 : verB l head = (k, false) := by unfold verB; rw [e1]
        rw [e2]
        exact ⟨rfl, HB1.out⟩
      · go_roundw
        case rel => exact ⟨k + 1, e.hash, B1, d1, by omega, by go_num, rfl, HV.out.trans ((verFrom_step HE.out p).trans (by simp [HR.out])), HI1.out.sh, HB1.out⟩
        case measure => simp [intOf]; omega
    · obtain rfl : k = n := by omega
      have k2 := bytesEqual_any (A := Ap) (B := Ah) (l := p) (m := head) cp ch wr HP.out (hh.out.below HB.out)
      go_wp2_with (go_at_call 36; refine k2.mono ?_; rintro r w1 ⟨rfl, rfl⟩)
      go_ret2
      have e2 : verB l head = (k, p == head) := by
        unfold verB
        rw [HV.out, List.drop_of_length_le (by have := HN.out; omega)]
        rfl
      rw [e2]
      exact ⟨rfl, HB.out⟩
end Go.Proofs.YtbjnpomcgcbflaaDoor
