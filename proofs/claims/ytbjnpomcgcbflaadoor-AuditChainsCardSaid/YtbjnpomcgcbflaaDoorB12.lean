/- Walks: what calls say, one behind the other, as a chain of entries. -/
import Derived.Test.YtbjnpomcgcbflaaDoorB11
import Derived.Test.YtbjnpomcgcbflaaDoorFac2
set_option linter.unusedVariables false
set_option linter.unusedSimpArgs false
namespace Go.Proofs.YtbjnpomcgcbflaaDoor
open Go.RowKit Go.Deep

def sayCells (s : Say) : List Value := [.int .i64 s.time, .int .i64 s.code, .string s.who, .string s.what]
def SayE (w : World) (cs : List Value) (s : Say) : Prop := cs = sayCells s ∧ I64 s.time ∧ I64 s.code
theorem SayE.stays : Stays SayE := fun _ _ _ _ _ h => h
theorem Arr.say {w : World} {A : Option Addr} {l : List Say} (h : Arr SayE 4 w A l) {k : Nat} {s : Say} (hs : l[k]? = some s) : ∃ b o, A = some ⟨b, o, none⟩ ∧ w.cell? ⟨b, o + k * 4, none⟩ = some (.int .i64 s.time) ∧ w.cell? ⟨b, o + k * 4 + 1, none⟩ = some (.int .i64 s.code) ∧
    w.cell? ⟨b, o + k * 4 + 2, none⟩ = some (.string s.who) ∧ w.cell? ⟨b, o + k * 4 + 3, none⟩ = some (.string s.what) ∧ I64 s.time ∧ I64 s.code := by
  obtain ⟨b, o, C, hA, hC, ⟨rfl, h1, h2⟩, hcell⟩ := h.get (by decide) hs
  exact ⟨b, o, hA, hcell 0 _ rfl, hcell 1 _ rfl, hcell 2 _ rfl, hcell 3 _ rfl, h1, h2⟩
def okSay (s : Say) : Bool := decide (s.who.size ≤ 1000) && decide (s.what.size ≤ 1000)
def chainOk (l : List Say) : Bool := decide (l.length ≤ 20) && l.all okSay
theorem chainB_le {l : List Say} : ∀ c : List Ent, (∀ e ∈ c, EntLe e) → (∀ s ∈ l, okSay s = true) → ∀ e ∈ chainB c l, EntLe e := by
  induction l with
  | nil => intro c hc _; exact hc
  | cons s l ih =>
    intro c hc hs
    refine ih _ (fun e he => ?_) (fun x hx => hs x (List.mem_cons_of_mem _ hx))
    rcases List.mem_append.1 he with he | he
    · exact hc e he
    · simp at he
      subst he
      have h := hs s (by simp)
      simp only [okSay, Bool.and_eq_true, decide_eq_true_eq] at h
      exact ⟨Nat.le_trans h.1 (by decide), Nat.le_trans h.2 (by decide), headB_le hc, by show (shaOut _).length ≤ _; rw [shaOut_length]; decide⟩
theorem chainB_snoc {l : List Say} {k : Nat} {s : Say} (hs : l[k]? = some s) : chainB [] (l.take (k + 1)) = chainB [] (l.take k) ++ [nextB (chainB [] (l.take k)) s.time s.code s.who s.what] := by
  rw [List.take_add_one, hs, chainB_append]
  rfl

set_option maxRecDepth 100000 in
set_option maxHeartbeats 2000000 in
theorem chain_no {A : Option Addr} {l : List Say} {n : Nat} (hn : l.length = n) (c : Nat) (w : World) (h40 : (20 : Int) < n) :
    Calls Tryd.prog 24 #[.slice A n c] w fun r w' => r = .returned (.tuple #[.slice none 0 0, .bool false]) ∧ Below w.heap.size w w' := by
  clear hn
  go_enter Tryd.func24, Tryd.ntmps24
  go_wp2_with fail
  go_ret2
  exact ⟨rfl, Below.refl _ _⟩
/-- A value that is an entry, apart from a row. -/
def EntV (base : Nat) (row : Option Nat) (e : Ent) (v : Value) (w : World) : Prop := ∃ A c B d, v = .agg (entCells e A c B d).toArray ∧ EntIn w e A c B d ∧ Off base row A e.prev ∧ Off base row B e.hash
theorem EntV.below {base : Nat} {row : Option Nat} {e : Ent} {v : Value} {w w' : World} (h : EntV base row e v w) (hb : Below w.heap.size w w') : EntV base row e v w' := by
  obtain ⟨A, c, B, d, h1, h2, h3, h4⟩ := h
  exact ⟨A, c, B, d, h1, h2.below hb, h3, h4⟩
theorem EntV.grown {base : Nat} {row : Option Nat} {e : Ent} {v : Value} {w w' : World} (h : EntV base row e v w) (hg : w.grownBy w' row) : EntV base row e v w' := by
  obtain ⟨A, c, B, d, h1, h2, h3, h4⟩ := h
  exact ⟨A, c, B, d, h1, h2.grown hg h3 h4, h3, h4⟩
/-- A slice of one entry in a block apart from a row. -/
def EntS (base : Nat) (row : Option Nat) (e : Ent) (v : Value) (w : World) : Prop := ∃ b A c B d, v = .slice (some ⟨b, 0, none⟩) 1 1 ∧ some b ≠ row ∧ w.heap[b]? = some (.cells (entCells e A c B d).toArray 30 (0, 0)) ∧ EntIn w e A c B d ∧ Off base row A e.prev ∧ Off base row B e.hash
theorem EntS.below {base : Nat} {row : Option Nat} {e : Ent} {v : Value} {w w' : World} (h : EntS base row e v w) (hb : Below w.heap.size w w') : EntS base row e v w' := by
  obtain ⟨b, A, c, B, d, h1, h0, hh, h2, h3, h4⟩ := h
  exact ⟨b, A, c, B, d, h1, h0, heap_keep hh hb, h2.below hb, h3, h4⟩
theorem EntS.grown {base : Nat} {row : Option Nat} {e : Ent} {v : Value} {w w' : World} (h : EntS base row e v w) (hg : w.grownBy w' row) : EntS base row e v w' := by
  obtain ⟨b, A, c, B, d, h1, h0, hh, h2, h3, h4⟩ := h
  exact ⟨b, A, c, B, d, h1, h0, (hg.block b (Array.getElem?_eq_some_iff.1 hh).1 h0).trans hh, h2.grown hg h3 h4, h3, h4⟩
theorem cell_grown {w w' : World} {row : Option Nat} {b o : Nat} {v : Value} (hg : w.grownBy w' row) (hne : some b ≠ row) (h : w.cell? ⟨b, o, none⟩ = some v) : w'.cell? ⟨b, o, none⟩ = some v :=
  (World.cell?_of_block (hg.block b (World.block_lt_of_cell? w _ h) hne)).trans h
theorem gb_drewIf (d : Bool) (w : World) (row : Option Nat) : w.grownBy (drewIf d w) row := gb_below (gb_refl _ _) (drewIf_ext d w)
/-- 'append' of one entry that lies in a block of its own, in a region that leaves its order open. -/
theorem stepS_append_ent {P : Program} {o : Oper} {σ : Nat → Value} {a : Act} {W : World} {K : Value → World → Prop} {Q : Exit → Act → World → Prop} (base : Nat) (s x : Operand) (t : TypeId) (ho : o.op = .call { callee := .builtin .append, args := #[s, x], argTypes := #[t, t] })
    (ht : P.underlying t = some (.slice 30)) (z : Value) (hinfo : (P.info? 30).map (fun i => (i.zero, i.size, i.bytes)) = some (some z, 7, 104)) (hz : z.cells.size = 7)
    {v : Value} {l : List Ent} {e : Ent} (hs : evalS σ s = v) (own : OwnEnts base W v l) (hx : EntS base v.ownBlock e (evalS σ x) W) (hl : l.length ≤ 1099511627776) (hbase : base ≤ W.heap.size)
    (h : ∀ v' w', OwnEnts base w' v' (l ++ [e]) → W.grownBy w' v.ownBlock → K v' w') : stepS P o σ a W K Q := by
  obtain ⟨i0, hi, hz0, hz1, hz2⟩ := info_parts hinfo
  obtain ⟨b, A, c, B, d, hv, hne, hh, hin, h3, h4⟩ := hx
  obtain ⟨xs, o1, o2⟩ := own.out
  have hseg : Seg W (some ⟨b, 0, none⟩) (entCells e A c B d) := Seg.of_block hh fun j u hu => by simpa using hu
  obtain ⟨v1, w1, hr, q1, q3, _, q4⟩ := run_append_own_at (P := P) W base t o.type 30 i0 z 7 104 ht hi hz0 hz1 hz2 hz (by decide) v l.length xs o1 ⟨b, 0, none⟩ 1 1 (entCells e A c B d) rfl hseg.news (EntE.flat _ _ _ ⟨A, c, B, d, rfl, hin⟩).2 (by simp only [maxLen]; omega) (by omega) hbase
  unfold stepS execOp
  simp only [ho, resolve, invoke, builtin, Sem.run_bind, Sem.run_pure, Result.andThen_ok, List.map_toArray, List.map_cons, List.map_nil, hs, hv, hr]
  have q4' : v1.ownBlock = v.ownBlock ∨ ∃ k, v1.ownBlock = some k ∧ W.heap.size ≤ k := by
    rcases q4 with h | h
    · exact .inl h
    · exact .inr ⟨_, h, Nat.le_refl _⟩
  refine h v1 w1 ⟨xs ++ entCells e A c B d, by rw [List.length_append]; exact q1, ?_⟩ q3
  refine pw_append o1.1 (fun i x hx => ?_) (fun i x hx => ?_)
  · obtain ⟨A', c', B', d', e1, e2, e3, e4⟩ := (o2 i x hx).out
    exact ⟨A', c', B', d', e1, e2.grown q3 e3 e4, e3.turn e2.sp q4', e4.turn e2.sh q4'⟩
  · match i, hx with
    | 0, hx =>
      cases hx
      exact ⟨A, c, B, d, rfl, hin.grown q3 h3 h4, h3.turn hin.sp q4', h4.turn hin.sh q4'⟩
    | n + 1, hx => simp at hx
set_option maxRecDepth 100000 in
set_option maxHeartbeats 2000000 in
theorem chain_r9 {Q : Exit → Act → World → Prop} {a0 : Act} {w0 : World} (s : Say) (l : List Ent) (Av : Option Addr) (cv : Nat) (b o k n ca base : Nat) (z0 : a0.tmps.getD 0 undef = .slice (some ⟨b, o, none⟩) n ca) (z4 : a0.tmps.getD 4 undef = .slice Av l.length cv) (z5 : a0.tmps.getD 5 undef = .int .i64 (k : Int)) (hHK : (k : Int) < (n : Int)) (hHS : w0.cell? ⟨b, o + k * 4, none⟩ = some (.int .i64 s.time) ∧ w0.cell? ⟨b, o + k * 4 + 1, none⟩ = some (.int .i64 s.code) ∧ w0.cell? ⟨b, o + k * 4 + 2, none⟩ = some (.string s.who) ∧ w0.cell? ⟨b, o + k * 4 + 3, none⟩ = some (.string s.what) ∧ I64 s.time ∧ I64 s.code) (hHO : OwnEnts base w0 (.slice Av l.length cv) l) (hHN : some b ≠ (Value.slice Av l.length cv).ownBlock ∧ base ≤ w0.heap.size ∧ l.length ≤ 1099511627776 ∧ s.who.size ≤ 1099511627776 ∧ s.what.size ≤ 1099511627776 ∧ ∀ e ∈ l, EntLe e) (zsz : a0.tmps.size = 57)
    (hQ : ∀ (v22 v23 v24 v25 : Value) (w1 : World), (fun w => w0.grownBy w (Value.slice Av l.length cv).ownBlock) w1 → EntV base (Value.slice Av l.length cv).ownBlock (nextB l s.time s.code s.who s.what) (v22) w1 → EntS base (Value.slice Av l.length cv).ownBlock (nextB l s.time s.code s.who s.what) (v23) w1 → OwnEnts base w1 (v24) (l ++ [(nextB l s.time s.code s.who s.what)]) → OwnEnts base w1 (v25) (l ++ [(nextB l s.time s.code s.who s.what)]) → Q .normal ((((((((((((((((((((((((((a0.put (some 31) (.slice Av l.length cv)).put (some 32) (.slice Av l.length cv)).put (some 33) (.slice (some ⟨b, o, none⟩) n ca)).put (some 34) (.int .i64 (k : Int))).put (some 35) (.pointer (some ⟨b, o + k * 4, none⟩))).put (some 36) (.pointer (some ⟨b, o + k * 4, none⟩))).put (some 37) (.int .i64 s.time)).put (some 38) (.slice (some ⟨b, o, none⟩) n ca)).put (some 39) (.int .i64 (k : Int))).put (some 40) (.pointer (some ⟨b, o + k * 4, none⟩))).put (some 41) (.pointer (some ⟨b, o + k * 4 + 1, none⟩))).put (some 42) (.int .i64 s.code)).put (some 43) (.slice (some ⟨b, o, none⟩) n ca)).put (some 44) (.int .i64 (k : Int))).put (some 45) (.pointer (some ⟨b, o + k * 4, none⟩))).put (some 46) (.pointer (some ⟨b, o + k * 4 + 2, none⟩))).put (some 47) (.string s.who)).put (some 48) (.slice (some ⟨b, o, none⟩) n ca)).put (some 49) (.int .i64 (k : Int))).put (some 50) (.pointer (some ⟨b, o + k * 4, none⟩))).put (some 51) (.pointer (some ⟨b, o + k * 4 + 3, none⟩))).put (some 52) (.string s.what)).put (some 53) v22).put (some 54) v23).put (some 55) v24).put (some 4) v25) w1) :
    (regOf Tryd.f24 9).wp Tryd.prog Q a0 w0 := by
  have Z0 := Lib.hid z0
  clear z0
  have Z4 := Lib.hid z4
  clear z4
  have Z5 := Lib.hid z5
  clear z5
  have HK := Lib.hid hHK
  clear hHK
  have HS := Lib.hid hHS
  clear hHS
  have HO := Lib.hid hHO
  clear hHO
  have HN := Lib.hid hHN
  clear hHN
  have HQ := Lib.hid hQ
  clear hQ
  conv => arg 2; whnf
  refine wp_region_facts2 true (by kernel_rfl) (by kernel_rfl) 57 (by kernel_rfl) zsz (by kernel_rfl) ((fun w => w0.grownBy w (Value.slice Av l.length cv).ownBlock)) (SF 24 (fun w w' => w.grownBy w' (Value.slice Av l.length cv).ownBlock) (fun w w' => Below w.heap.size w w')) 24 (fun i => match i with | 24 => true | 25 => true | _ => false) (fun i o ho hl => ?_) (fun i => match i with | 24 => true | 23 => true | 22 => true | _ => false) (fun w => OwnEnts base w (.slice Av l.length cv) l) (fun i hi => ?_) (HO.out.kept (drewIf_ext _ _)) (fun k w w' hk h hs => (fun _ _ h k => h.kept k) w w' h (hs.ofne hk)) (gb_drewIf _ _ _) (SF.inv (fun _ _ h k => gb_trans h k) (fun _ _ h k => gb_below h k)) (fun i v w => match i with
    | 0 => v = .slice Av l.length cv
    | 1 => v = .slice Av l.length cv
    | 2 => v = .slice (some ⟨b, o, none⟩) n ca
    | 3 => v = .int .i64 (k : Int)
    | 4 => v = .pointer (some ⟨b, o + k * 4, none⟩)
    | 5 => v = .pointer (some ⟨b, o + k * 4, none⟩)
    | 6 => v = .int .i64 s.time
    | 7 => v = .slice (some ⟨b, o, none⟩) n ca
    | 8 => v = .int .i64 (k : Int)
    | 9 => v = .pointer (some ⟨b, o + k * 4, none⟩)
    | 10 => v = .pointer (some ⟨b, o + k * 4 + 1, none⟩)
    | 11 => v = .int .i64 s.code
    | 12 => v = .slice (some ⟨b, o, none⟩) n ca
    | 13 => v = .int .i64 (k : Int)
    | 14 => v = .pointer (some ⟨b, o + k * 4, none⟩)
    | 15 => v = .pointer (some ⟨b, o + k * 4 + 2, none⟩)
    | 16 => v = .string s.who
    | 17 => v = .slice (some ⟨b, o, none⟩) n ca
    | 18 => v = .int .i64 (k : Int)
    | 19 => v = .pointer (some ⟨b, o + k * 4, none⟩)
    | 20 => v = .pointer (some ⟨b, o + k * 4 + 3, none⟩)
    | 21 => v = .string s.what
    | 22 => EntV base (Value.slice Av l.length cv).ownBlock (nextB l s.time s.code s.who s.what) (v) w
    | 23 => EntS base (Value.slice Av l.length cv).ownBlock (nextB l s.time s.code s.who s.what) (v) w
    | 24 => OwnEnts base w (v) (l ++ [(nextB l s.time s.code s.who s.what)])
    | 25 => OwnEnts base w (v) (l ++ [(nextB l s.time s.code s.who s.what)])
    | _ => True) ?_ ?_ ?_
  · match i, ho, hl with
    | 24, ho, _ => exact .inl rfl
    | 25, ho, _ => cases ho; exact .inr rfl
  · match i, hi with
    | 24, _ => exact .inl rfl
    | 23, _ => exact .inr ⟨_, rfl, rfl⟩
    | 22, _ => exact .inr ⟨_, rfl, rfl⟩
  · intro i k v w w' hl h hb
    by_cases ek : k = 24
    · have hb' := hb.ofeq ek
      have hl' := hl ek
      clear hl hb
      match i, h, hl' with
      | 0, h, _ => exact h
      | 1, h, _ => exact h
      | 2, h, _ => exact h
      | 3, h, _ => exact h
      | 4, h, _ => exact h
      | 5, h, _ => exact h
      | 6, h, _ => exact h
      | 7, h, _ => exact h
      | 8, h, _ => exact h
      | 9, h, _ => exact h
      | 10, h, _ => exact h
      | 11, h, _ => exact h
      | 12, h, _ => exact h
      | 13, h, _ => exact h
      | 14, h, _ => exact h
      | 15, h, _ => exact h
      | 16, h, _ => exact h
      | 17, h, _ => exact h
      | 18, h, _ => exact h
      | 19, h, _ => exact h
      | 20, h, _ => exact h
      | 21, h, _ => exact h
      | 22, h, _ => exact EntV.grown h hb'
      | 23, h, _ => exact EntS.grown h hb'
      | 24, _, hl => cases hl
      | 25, _, hl => cases hl
      | _ + 26, _, _ => trivial
    · have hb := hb.ofne ek
      match i, h with
      | 0, h => exact h
      | 1, h => exact h
      | 2, h => exact h
      | 3, h => exact h
      | 4, h => exact h
      | 5, h => exact h
      | 6, h => exact h
      | 7, h => exact h
      | 8, h => exact h
      | 9, h => exact h
      | 10, h => exact h
      | 11, h => exact h
      | 12, h => exact h
      | 13, h => exact h
      | 14, h => exact h
      | 15, h => exact h
      | 16, h => exact h
      | 17, h => exact h
      | 18, h => exact h
      | 19, h => exact h
      | 20, h => exact h
      | 21, h => exact h
      | 22, h => exact EntV.below h hb
      | 23, h => exact EntS.below h hb
      | 24, h => exact OwnEnts.kept h hb
      | 25, h => exact OwnEnts.kept h hb
      | _ + 26, _ => trivial
  refine Obs2.cons (fun σ a w hB hJ hσ hp K hK => ?_) ?_
  · rw [if_pos (by rfl)]
    have e4 : σ 4 = .slice Av l.length cv := (hσ 4 (by kernel_rfl)).trans Z4.out
    refine stepS_move _ rfl _ e4 ?_
    exact hK _ _ (SF.ne (by decide) (Below.refl _ _)) rfl
  refine Obs2.cons (fun σ a w hB hJ hσ hp K hK => ?_) ?_
  · rw [if_pos (by rfl)]
    have e4 : σ 4 = .slice Av l.length cv := (hσ 4 (by kernel_rfl)).trans Z4.out
    refine stepS_move _ rfl _ e4 ?_
    exact hK _ _ (SF.ne (by decide) (Below.refl _ _)) rfl
  refine Obs2.cons (fun σ a w hB hJ hσ hp K hK => ?_) ?_
  · rw [if_pos (by rfl)]
    have e0 : σ 0 = .slice (some ⟨b, o, none⟩) n ca := (hσ 0 (by kernel_rfl)).trans Z0.out
    refine stepS_move _ rfl _ e0 ?_
    exact hK _ _ (SF.ne (by decide) (Below.refl _ _)) rfl
  refine Obs2.cons (fun σ a w hB hJ hσ hp K hK => ?_) ?_
  · rw [if_pos (by rfl)]
    have e5 : σ 5 = .int .i64 (k : Int) := (hσ 5 (by kernel_rfl)).trans Z5.out
    refine stepS_move _ rfl _ e5 ?_
    exact hK _ _ (SF.ne (by decide) (Below.refl _ _)) rfl
  refine Obs2.cons (fun σ a w hB hJ hσ hp K hK => ?_) ?_
  · rw [if_pos (by rfl)]
    have e33 : σ 33 = .slice (some ⟨b, o, none⟩) n ca := (hp 2 rfl)
    have e34 : σ 34 = .int .i64 (k : Int) := (hp 3 rfl)
    have hc := HK.out
    have HK := Lib.hid hK
    have HB := Lib.hid hB
    clear hK hp hσ hB
    unfold stepS
    go_simp
    exact HK.out _ _ (SF.ne (by decide) (Below.refl _ _)) rfl
  refine Obs2.cons (fun σ a w hB hJ hσ hp K hK => ?_) ?_
  · rw [if_pos (by rfl)]
    have e35 : σ 35 = .pointer (some ⟨b, o + k * 4, none⟩) := (hp 4 rfl)
    have HK := Lib.hid hK
    have HB := Lib.hid hB
    clear hK hp hσ hB
    unfold stepS
    go_simp
    exact HK.out _ _ (SF.ne (by decide) (Below.refl _ _)) rfl
  refine Obs2.cons (fun σ a w hB hJ hσ hp K hK => ?_) ?_
  · rw [if_pos (by rfl)]
    have e36 : σ 36 = .pointer (some ⟨b, o + k * 4, none⟩) := (hp 5 rfl)
    have hc := cell_grown hB HN.out.1 HS.out.1
    have HK := Lib.hid hK
    have HB := Lib.hid hB
    clear hK hp hσ hB
    unfold stepS
    go_simp
    exact HK.out _ _ (SF.ne (by decide) (Below.refl _ _)) rfl
  refine Obs2.cons (fun σ a w hB hJ hσ hp K hK => ?_) ?_
  · rw [if_pos (by rfl)]
    have e0 : σ 0 = .slice (some ⟨b, o, none⟩) n ca := (hσ 0 (by kernel_rfl)).trans Z0.out
    refine stepS_move _ rfl _ e0 ?_
    exact hK _ _ (SF.ne (by decide) (Below.refl _ _)) rfl
  refine Obs2.cons (fun σ a w hB hJ hσ hp K hK => ?_) ?_
  · rw [if_pos (by rfl)]
    have e5 : σ 5 = .int .i64 (k : Int) := (hσ 5 (by kernel_rfl)).trans Z5.out
    refine stepS_move _ rfl _ e5 ?_
    exact hK _ _ (SF.ne (by decide) (Below.refl _ _)) rfl
  refine Obs2.cons (fun σ a w hB hJ hσ hp K hK => ?_) ?_
  · rw [if_pos (by rfl)]
    have e38 : σ 38 = .slice (some ⟨b, o, none⟩) n ca := (hp 7 rfl)
    have e39 : σ 39 = .int .i64 (k : Int) := (hp 8 rfl)
    have hc := HK.out
    have HK := Lib.hid hK
    have HB := Lib.hid hB
    clear hK hp hσ hB
    unfold stepS
    go_simp
    exact HK.out _ _ (SF.ne (by decide) (Below.refl _ _)) rfl
  refine Obs2.cons (fun σ a w hB hJ hσ hp K hK => ?_) ?_
  · rw [if_pos (by rfl)]
    have e40 : σ 40 = .pointer (some ⟨b, o + k * 4, none⟩) := (hp 9 rfl)
    have HK := Lib.hid hK
    have HB := Lib.hid hB
    clear hK hp hσ hB
    unfold stepS
    go_simp
    exact HK.out _ _ (SF.ne (by decide) (Below.refl _ _)) rfl
  refine Obs2.cons (fun σ a w hB hJ hσ hp K hK => ?_) ?_
  · rw [if_pos (by rfl)]
    have e41 : σ 41 = .pointer (some ⟨b, o + k * 4 + 1, none⟩) := (hp 10 rfl)
    have hc := cell_grown hB HN.out.1 HS.out.2.1
    have HK := Lib.hid hK
    have HB := Lib.hid hB
    clear hK hp hσ hB
    unfold stepS
    go_simp
    exact HK.out _ _ (SF.ne (by decide) (Below.refl _ _)) rfl
  refine Obs2.cons (fun σ a w hB hJ hσ hp K hK => ?_) ?_
  · rw [if_pos (by rfl)]
    have e0 : σ 0 = .slice (some ⟨b, o, none⟩) n ca := (hσ 0 (by kernel_rfl)).trans Z0.out
    refine stepS_move _ rfl _ e0 ?_
    exact hK _ _ (SF.ne (by decide) (Below.refl _ _)) rfl
  refine Obs2.cons (fun σ a w hB hJ hσ hp K hK => ?_) ?_
  · rw [if_pos (by rfl)]
    have e5 : σ 5 = .int .i64 (k : Int) := (hσ 5 (by kernel_rfl)).trans Z5.out
    refine stepS_move _ rfl _ e5 ?_
    exact hK _ _ (SF.ne (by decide) (Below.refl _ _)) rfl
  refine Obs2.cons (fun σ a w hB hJ hσ hp K hK => ?_) ?_
  · rw [if_pos (by rfl)]
    have e43 : σ 43 = .slice (some ⟨b, o, none⟩) n ca := (hp 12 rfl)
    have e44 : σ 44 = .int .i64 (k : Int) := (hp 13 rfl)
    have hc := HK.out
    have HK := Lib.hid hK
    have HB := Lib.hid hB
    clear hK hp hσ hB
    unfold stepS
    go_simp
    exact HK.out _ _ (SF.ne (by decide) (Below.refl _ _)) rfl
  refine Obs2.cons (fun σ a w hB hJ hσ hp K hK => ?_) ?_
  · rw [if_pos (by rfl)]
    have e45 : σ 45 = .pointer (some ⟨b, o + k * 4, none⟩) := (hp 14 rfl)
    have HK := Lib.hid hK
    have HB := Lib.hid hB
    clear hK hp hσ hB
    unfold stepS
    go_simp
    exact HK.out _ _ (SF.ne (by decide) (Below.refl _ _)) rfl
  refine Obs2.cons (fun σ a w hB hJ hσ hp K hK => ?_) ?_
  · rw [if_pos (by rfl)]
    have e46 : σ 46 = .pointer (some ⟨b, o + k * 4 + 2, none⟩) := (hp 15 rfl)
    have hc := cell_grown hB HN.out.1 HS.out.2.2.1
    have HK := Lib.hid hK
    have HB := Lib.hid hB
    clear hK hp hσ hB
    unfold stepS
    go_simp
    exact HK.out _ _ (SF.ne (by decide) (Below.refl _ _)) rfl
  refine Obs2.cons (fun σ a w hB hJ hσ hp K hK => ?_) ?_
  · rw [if_pos (by rfl)]
    have e0 : σ 0 = .slice (some ⟨b, o, none⟩) n ca := (hσ 0 (by kernel_rfl)).trans Z0.out
    refine stepS_move _ rfl _ e0 ?_
    exact hK _ _ (SF.ne (by decide) (Below.refl _ _)) rfl
  refine Obs2.cons (fun σ a w hB hJ hσ hp K hK => ?_) ?_
  · rw [if_pos (by rfl)]
    have e5 : σ 5 = .int .i64 (k : Int) := (hσ 5 (by kernel_rfl)).trans Z5.out
    refine stepS_move _ rfl _ e5 ?_
    exact hK _ _ (SF.ne (by decide) (Below.refl _ _)) rfl
  refine Obs2.cons (fun σ a w hB hJ hσ hp K hK => ?_) ?_
  · rw [if_pos (by rfl)]
    have e48 : σ 48 = .slice (some ⟨b, o, none⟩) n ca := (hp 17 rfl)
    have e49 : σ 49 = .int .i64 (k : Int) := (hp 18 rfl)
    have hc := HK.out
    have HK := Lib.hid hK
    have HB := Lib.hid hB
    clear hK hp hσ hB
    unfold stepS
    go_simp
    exact HK.out _ _ (SF.ne (by decide) (Below.refl _ _)) rfl
  refine Obs2.cons (fun σ a w hB hJ hσ hp K hK => ?_) ?_
  · rw [if_pos (by rfl)]
    have e50 : σ 50 = .pointer (some ⟨b, o + k * 4, none⟩) := (hp 19 rfl)
    have HK := Lib.hid hK
    have HB := Lib.hid hB
    clear hK hp hσ hB
    unfold stepS
    go_simp
    exact HK.out _ _ (SF.ne (by decide) (Below.refl _ _)) rfl
  refine Obs2.cons (fun σ a w hB hJ hσ hp K hK => ?_) ?_
  · rw [if_pos (by rfl)]
    have e51 : σ 51 = .pointer (some ⟨b, o + k * 4 + 3, none⟩) := (hp 20 rfl)
    have hc := cell_grown hB HN.out.1 HS.out.2.2.2.1
    have HK := Lib.hid hK
    have HB := Lib.hid hB
    clear hK hp hσ hB
    unfold stepS
    go_simp
    exact HK.out _ _ (SF.ne (by decide) (Below.refl _ _)) rfl
  refine Obs2.cons (fun σ a w hB hJ hσ hp K hK => ?_) ?_
  · rw [if_pos (by rfl)]
    have e32 : σ 32 = .slice Av l.length cv := (hp 1 rfl)
    have e37 : σ 37 = .int .i64 s.time := (hp 6 rfl)
    have e42 : σ 42 = .int .i64 s.code := (hp 11 rfl)
    have e47 : σ 47 = .string s.who := (hp 16 rfl)
    have e52 : σ 52 = .string s.what := (hp 21 rfl)
    refine stepS_call _ Tryd.func14 (by kernel_rfl) (by kernel_rfl) _ _ rfl _ rfl ?_
    simp only [List.map_toArray, List.map_cons, List.map_nil, evalS, e32, e37, e42, e47, e52]
    refine Calls.mono (next_any (l := l) rfl (HN.out.2.2.1) cv s.time s.code s.who s.what w (let ⟨_, _, h1, _, _, h4, _⟩ := (hJ rfl).own.arr; by cases h1; exact h4) HN.out.2.2.2.2.2 ⟨HN.out.2.2.2.1, HN.out.2.2.2.2.1⟩ HS.out.2.2.2.2) ?_
    rintro e w1 ⟨A1, c1, B1, d1, rfl, hi, hb, fA, fB⟩
    exact ⟨_, rfl, hK _ _ (SF.ne (by decide) hb) ⟨A1, c1, B1, d1, rfl, hi, Off.fresh fA (Nat.le_trans HN.out.2.1 hB.size) (fun j hj => by obtain ⟨xs, o1, _⟩ := (hJ rfl).out; exact (o1.lt j hj).2), Off.fresh fB (Nat.le_trans HN.out.2.1 hB.size) (fun j hj => by obtain ⟨xs, o1, _⟩ := (hJ rfl).out; exact (o1.lt j hj).2)⟩⟩
  refine Obs2.cons (fun σ a w hB hJ hσ hp K hK => ?_) ?_
  · rw [if_pos (by rfl)]
    have e53 : EntV base (Value.slice Av l.length cv).ownBlock (nextB l s.time s.code s.who s.what) (σ 53) w := (hp 22 rfl)
    obtain ⟨A1, c1, B1, d1, q53, hi, fA, fB⟩ := e53
    have hrow : ∀ j, (Value.slice Av l.length cv).ownBlock = some j → j < w.heap.size := fun j hj => by
      obtain ⟨xs, o1, _⟩ := (hJ rfl).out
      exact (o1.lt j hj).2
    have hfin : EntS base (Value.slice Av l.length cv).ownBlock (nextB l s.time s.code s.who s.what) (.slice (some ⟨w.heap.size, 0, none⟩) 1 1) (w.alloc (.cells (entCells (nextB l s.time s.code s.who s.what) A1 c1 B1 d1).toArray 30)) :=
      ⟨w.heap.size, A1, c1, B1, d1, rfl, fun e => by have := hrow _ e.symm; omega, heap_alloc_new _ _, hi.below (alloc_ext _ _), fA, fB⟩
    have H6 := Lib.hid hfin
    have HK1 := Lib.hid hK
    clear hK hp hσ hB hJ hrow hfin hi fA fB
    generalize (nextB l s.time s.code s.who s.what) = e at *
    unfold entCells at q53 H6
    unfold stepS
    go_simp
    exact HK1.out _ _ (SF.ne (by decide) (alloc_ext _ _)) H6.out
  refine Obs2.cons (fun σ a w hB hJ hσ hp K hK => ?_) ?_
  · rw [if_pos (by rfl)]
    have e31 : σ 31 = .slice Av l.length cv := (hp 0 rfl)
    have e54 : EntS base (Value.slice Av l.length cv).ownBlock (nextB l s.time s.code s.who s.what) (σ 54) w := (hp 23 rfl)
    refine stepS_append_ent base _ _ 22 rfl Tryd.underlying22 _ infoEnt rfl e31 (hJ rfl) e54 HN.out.2.2.1 (Nat.le_trans HN.out.2.1 hB.size) ?_
    exact fun v' w' h1 h2 => hK _ _ (SF.eq h2) h1
  refine Obs2.cons (fun σ a w hB hJ hσ hp K hK => ?_) ?_
  · rw [if_pos (by rfl)]
    have e55 : OwnEnts base w (σ 55) (l ++ [(nextB l s.time s.code s.who s.what)]) := (hp 24 rfl)
    refine stepS_assign _ rfl _ rfl ?_
    exact hK _ _ (SF.ne (by decide) (Below.refl _ _)) e55
  · exact Obs2.nil _
  · intro σ w hB hf
    have f0 : σ 31 = .slice Av l.length cv := hf 0 (by decide)
    have f1 : σ 32 = .slice Av l.length cv := hf 1 (by decide)
    have f2 : σ 33 = .slice (some ⟨b, o, none⟩) n ca := hf 2 (by decide)
    have f3 : σ 34 = .int .i64 (k : Int) := hf 3 (by decide)
    have f4 : σ 35 = .pointer (some ⟨b, o + k * 4, none⟩) := hf 4 (by decide)
    have f5 : σ 36 = .pointer (some ⟨b, o + k * 4, none⟩) := hf 5 (by decide)
    have f6 : σ 37 = .int .i64 s.time := hf 6 (by decide)
    have f7 : σ 38 = .slice (some ⟨b, o, none⟩) n ca := hf 7 (by decide)
    have f8 : σ 39 = .int .i64 (k : Int) := hf 8 (by decide)
    have f9 : σ 40 = .pointer (some ⟨b, o + k * 4, none⟩) := hf 9 (by decide)
    have f10 : σ 41 = .pointer (some ⟨b, o + k * 4 + 1, none⟩) := hf 10 (by decide)
    have f11 : σ 42 = .int .i64 s.code := hf 11 (by decide)
    have f12 : σ 43 = .slice (some ⟨b, o, none⟩) n ca := hf 12 (by decide)
    have f13 : σ 44 = .int .i64 (k : Int) := hf 13 (by decide)
    have f14 : σ 45 = .pointer (some ⟨b, o + k * 4, none⟩) := hf 14 (by decide)
    have f15 : σ 46 = .pointer (some ⟨b, o + k * 4 + 2, none⟩) := hf 15 (by decide)
    have f16 : σ 47 = .string s.who := hf 16 (by decide)
    have f17 : σ 48 = .slice (some ⟨b, o, none⟩) n ca := hf 17 (by decide)
    have f18 : σ 49 = .int .i64 (k : Int) := hf 18 (by decide)
    have f19 : σ 50 = .pointer (some ⟨b, o + k * 4, none⟩) := hf 19 (by decide)
    have f20 : σ 51 = .pointer (some ⟨b, o + k * 4 + 3, none⟩) := hf 20 (by decide)
    have f21 : σ 52 = .string s.what := hf 21 (by decide)
    have f22 : EntV base (Value.slice Av l.length cv).ownBlock (nextB l s.time s.code s.who s.what) (σ 53) w := hf 22 (by decide)
    have f23 : EntS base (Value.slice Av l.length cv).ownBlock (nextB l s.time s.code s.who s.what) (σ 54) w := hf 23 (by decide)
    have f24 : OwnEnts base w (σ 55) (l ++ [(nextB l s.time s.code s.who s.what)]) := hf 24 (by decide)
    have f25 : OwnEnts base w (σ 4) (l ++ [(nextB l s.time s.code s.who s.what)]) := hf 25 (by decide)
    have hq := HQ.out (σ 53) (σ 54) (σ 55) (σ 4) w hB f22 f23 f24 f25
    simp only [dstsL, List.filterMap_cons, List.filterMap_nil, setAll]
    rw [f0, f1, f2, f3, f4, f5, f6, f7, f8, f9, f10, f11, f12, f13, f14, f15, f16, f17, f18, f19, f20, f21]
    simp only [Act.put] at hq
    exact hq
def RetChain (w : World) (l : List Say) (r : Ending) (w' : World) : Prop := ∃ v, r = .returned (.tuple #[v, .bool (l.all okSay)]) ∧ (l.all okSay = true → OwnEnts w.heap.size w' v (chainB [] l)) ∧ Below w.heap.size w w'
theorem RetChain.no {w w' : World} {l : List Say} {v : Value} (h : l.all okSay = false) (hb : Below w.heap.size w w') : RetChain w l (.returned (.tuple #[v, .bool false])) w' :=
  ⟨v, by rw [h], fun h' => (by rw [h] at h'; cases h'), hb⟩
theorem RetChain.yes {w w' : World} {l : List Say} {v : Value} (h : l.all okSay = true) (ho : OwnEnts w.heap.size w' v (chainB [] l)) (hb : Below w.heap.size w w') : RetChain w l (.returned (.tuple #[v, .bool true])) w' :=
  ⟨v, by rw [h], fun _ => ho, hb⟩
set_option maxRecDepth 100000 in
set_option maxHeartbeats 2000000 in
theorem chain_any {A : Option Addr} {l : List Say} {n : Nat} (hn : l.length = n) (h20 : n ≤ 20) (c : Nat) (w : World) (h : Hid (Arr SayE 4 w A l)) :
    Calls Tryd.prog 24 #[.slice A n c] w (RetChain w l) := by
  have HN := Lib.hid hn
  clear hn
  go_enter Tryd.func24, Tryd.ntmps24
  go_wp2_with fail
  go_loopw [4, 5] (fun v i wr => ∃ k : Nat, k ≤ n ∧ i = .int .i64 k ∧ Hid ((l.take k).all okSay = true) ∧ Hid (OwnEnts w.heap.size wr v (chainB [] (l.take k))) ∧ Hid (Below w.heap.size w wr)) (fun _ i _ => n - (intOf i).toNat)
  case atStart => exact ⟨0, by omega, rfl, rfl, OwnEnts.nil _ _, Below.refl _ _⟩
  case round =>
    rename Value => v0
    obtain ⟨k, hk, rfl, Hall, HO, HB⟩ := hrel
    by_cases hlt : k < n
    · obtain ⟨s, hs⟩ : ∃ e, l[k]? = some e := ⟨_, List.getElem?_eq_getElem (by have := HN.out; omega)⟩
      obtain ⟨b, o, rfl, x0, x1, x2, x3, f1, f2⟩ := (h.out.below SayE.stays HB.out).say hs
      have HS := Lib.hid hs
      have HF : Hid (I64 s.time ∧ I64 s.code) := ⟨f1, f2⟩
      clear hs f1 f2
      by_cases hw : (1000 : Int) < s.who.size
      · go_wp2_with fail
        go_ret2
        have e1 : l.all okSay = false := all_false_at HS.out (by
          unfold okSay
          rw [decide_eq_false (by omega)]
          rfl)
        exact RetChain.no e1 HB.out
      · by_cases hx : (1000 : Int) < s.what.size
        · go_wp2_with fail
          go_ret2
          have e1 : l.all okSay = false := all_false_at HS.out (by
            unfold okSay
            rw [decide_eq_false (p := s.what.size ≤ 1000) (by omega), Bool.and_false])
          exact RetChain.no e1 HB.out
        · have hok : okSay s = true := by
            unfold okSay
            rw [decide_eq_true (p := s.who.size ≤ 1000) (by omega), decide_eq_true (p := s.what.size ≤ 1000) (by omega)]
            rfl
          have HK := Lib.hid hok
          clear hok
          have hkn : (k : Int) < n := by omega
          go_wp2_with fail
          have hall : ∀ x ∈ l.take k, okSay x = true := by simpa [List.all_eq_true] using Hall.out
          have hle := chainB_le [] (fun e he => by cases he) hall
          have hlen : (chainB [] (l.take k)).length = k := by rw [chainB_length]; simp; have := HN.out; omega
          obtain ⟨Av, cv, rfl, hcv, hcv2, hav, -⟩ := HO.out.own.arr
          have hnb : some b ≠ (Value.slice Av (chainB [] (l.take k)).length cv).ownBlock := fun e => by
            obtain ⟨xs, o1, _⟩ := HO.out.out
            have h1 := (o1.lt b e.symm).1
            obtain ⟨cs, hseg, hcl, _⟩ := h.out.out
            have h2 : 0 < cs.length := by rw [hcl]; have := (List.getElem?_eq_some_iff.1 HS.out).1; omega
            obtain ⟨b', o', he, C, T, fr, hh, _⟩ := hseg.out (fun e => by rw [e] at h2; cases h2)
            cases he
            have := (Array.getElem?_eq_some_iff.1 hh).1
            omega
          refine chain_r9 s (chainB [] (l.take k)) Av cv b o k n c w.heap.size (by rfl) (by rfl) (by rfl) hkn ⟨x0, x1, x2, x3, HF.out⟩ HO.out ⟨hnb, HB.out.size, by omega, by omega, by omega, hle⟩ (by rfl) ?_
          intro v22 v23 v24 v25 w1 hg _ _ _ h25
          have HB1 := Lib.hid (show Below w.heap.size w w1 from HB.out.grown hg HB.out.size (fun j hj => by obtain ⟨xs, o1, _⟩ := HO.out.out; exact (o1.lt j hj).1))
          have hsn := chainB_snoc HS.out
          rw [← hsn] at h25
          have HR := Lib.hid h25
          clear hg h25 hsn hnb hav hle hall hlen x0 x1 x2 x3
          simp only [Act.put, List.setIfInBounds_toArray, List.set_cons_zero, List.set_cons_succ]
          go_wp2_with fail
          go_roundw
          case rel =>
            refine ⟨k + 1, by omega, by go_num, ?_, HR.out, HB1.out⟩
            show _ = true
            rw [all_take_succ HS.out, Hall.out, HK.out]
            rfl
          case measure => simp [intOf]; omega
    · obtain rfl : k = n := by omega
      go_wp2_with fail
      go_ret2
      have e1 : l.take k = l := List.take_of_length_le (by have := HN.out; omega)
      have e2 := Hall.out
      have e3 := HO.out
      rw [e1] at e2 e3
      exact RetChain.yes e2 e3 HB.out
end Go.Proofs.YtbjnpomcgcbflaaDoor
