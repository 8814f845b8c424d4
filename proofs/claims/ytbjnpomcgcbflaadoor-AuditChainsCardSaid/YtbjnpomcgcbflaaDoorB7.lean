/- Walks: loops over entries: few, lists, Verify. -/
import Derived.Test.YtbjnpomcgcbflaaDoorB6
set_option linter.unusedVariables false
set_option linter.unusedSimpArgs false
namespace Go.Proofs.YtbjnpomcgcbflaaDoor
open Go.RowKit Go.Deep

structure EntAt (w : World) (b o : Nat) (e : Ent) (A : Option Addr) (c : Nat) (B : Option Addr) (d : Nat) : Prop where
  c0 : w.cell? ⟨b, o, none⟩ = some (.int .i64 e.no)
  c1 : w.cell? ⟨b, o + 1, none⟩ = some (.int .i64 e.time)
  c2 : w.cell? ⟨b, o + 2, none⟩ = some (.int .i64 e.code)
  c3 : w.cell? ⟨b, o + 3, none⟩ = some (.string e.who)
  c4 : w.cell? ⟨b, o + 4, none⟩ = some (.string e.what)
  c5 : w.cell? ⟨b, o + 5, none⟩ = some (.slice A e.prev.length c)
  c6 : w.cell? ⟨b, o + 6, none⟩ = some (.slice B e.hash.length d)
  hi : EntIn w e A c B d
theorem Arr.ent {w : World} {A : Option Addr} {l : List Ent} (h : Arr EntE 7 w A l) {k : Nat} {e : Ent} (he : l[k]? = some e) : ∃ b o A1 c1 B1 d1, A = some ⟨b, o, none⟩ ∧ EntAt w b (o + k * 7) e A1 c1 B1 d1 := by
  obtain ⟨b, o, C, hA, hC, ⟨A1, c1, B1, d1, rfl, hi⟩, hcell⟩ := h.get (by decide) he
  exact ⟨b, o, A1, c1, B1, d1, hA, hcell 0 _ rfl, hcell 1 _ rfl, hcell 2 _ rfl, hcell 3 _ rfl, hcell 4 _ rfl, hcell 5 _ rfl, hcell 6 _ rfl, hi⟩

def fewB (l : List Ent) : Bool := decide (l.length ≤ 40) && l.all shortB
theorem fewB_le {l : List Ent} (h : fewB l = true) : l.length ≤ 40 ∧ ∀ e ∈ l, EntLe e := by
  simp only [fewB, Bool.and_eq_true, decide_eq_true_eq, List.all_eq_true] at h
  exact ⟨h.1, fun e he => shortB_le (h.2 e he)⟩
theorem all_take_succ {α : Type} {l : List α} {p : α → Bool} {k : Nat} {x : α} (hx : l[k]? = some x) : (l.take (k + 1)).all p = ((l.take k).all p && p x) := by
  rw [List.take_add_one, hx, List.all_append]
  simp
theorem all_false_at {α : Type} {l : List α} {p : α → Bool} {k : Nat} {x : α} (hx : l[k]? = some x) (h : p x = false) : l.all p = false := by
  rw [List.all_eq_false]
  exact ⟨x, List.mem_of_getElem? hx, by simp [h]⟩

set_option maxRecDepth 100000 in
set_option maxHeartbeats 1000000 in
theorem few_any {A : Option Addr} {l : List Ent} {n : Nat} (hn : l.length = n) (c : Nat) (w : World) (h : Hid (Arr EntE 7 w A l)) :
    Calls Tryd.prog 12 #[.slice A n c] w fun r w' => r = .returned (.bool (fewB l)) ∧ Below w.heap.size w w' := by
  by_cases h40 : (40 : Int) < n
  · have e : fewB l = false := by
      unfold fewB
      rw [decide_eq_false (by omega)]
      rfl
    rw [e]
    clear e hn
    go_enter Tryd.func12, Tryd.ntmps12
    go_wp2_with fail
    go_ret
    exact ⟨rfl, Below.refl _ _⟩
  · have HN := Lib.hid hn
    clear hn
    go_enter Tryd.func12, Tryd.ntmps12
    go_wp2_with fail
    go_loopw [3] (fun i wr => ∃ k : Nat, k ≤ n ∧ i = .int .i64 k ∧ Hid ((l.take k).all shortB = true) ∧ Hid (Below w.heap.size w wr)) (fun i _ => n - (intOf i).toNat)
    case atStart => exact ⟨0, by omega, rfl, rfl, Below.refl _ _⟩
    case round =>
      obtain ⟨k, hk, rfl, Hall, HB⟩ := hrel
      by_cases hlt : k < n
      · obtain ⟨e, he⟩ : ∃ e, l[k]? = some e := ⟨_, List.getElem?_eq_getElem (by have := HN.out; omega)⟩
        obtain ⟨b, o, A1, c1, B1, d1, rfl, ⟨x0, x1, x2, x3, x4, x5, x6, hi⟩⟩ := (h.out.below EntE.stays HB.out).ent he
        have HE := Lib.hid he
        clear he hi
        cases hs : shortB e
        all_goals
          have k1 := short_any e A1 c1 B1 d1 wr
          rw [hs] at k1
          have HS := Lib.hid hs
          clear hs
          go_wp2_with fail
          refine k1.mono ?_
          rintro r w1 ⟨rfl, hB1⟩
          have HB1 := Lib.hid (ext_trans HB.out hB1)
          clear k1 hB1
          go_wp2_with fail
        · go_ret
          have e1 : fewB l = false := by
            unfold fewB
            rw [all_false_at HE.out HS.out, Bool.and_false]
          rw [e1]
          exact ⟨rfl, HB1.out⟩
        · go_roundw
          case rel =>
            refine ⟨k + 1, by omega, by go_num, ?_, HB1.out⟩
            show _ = true
            rw [all_take_succ HE.out, Hall.out, HS.out]
            rfl
          case measure => simp [intOf]; omega
      · obtain rfl : k = n := by omega
        go_wp2_with fail
        go_ret
        have e1 : fewB l = true := by
          unfold fewB
          have h1 := Hall.out
          rw [List.take_of_length_le (by have := HN.out; omega)] at h1
          rw [h1, decide_eq_true (by have := HN.out; omega)]
          rfl
        rw [e1]
        exact ⟨rfl, HB.out⟩
end Go.Proofs.YtbjnpomcgcbflaaDoor
