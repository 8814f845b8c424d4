/- Walks: bytes.Equal, bytes.IndexByte, bytes.Count and bytes.Index at one byte, slices.Clone of bytes. -/
import Derived.Test.YtbjnpomcgcbflaaDoorA0
import Derived.Lib.Bytealg
import Derived.Laws.Externs
set_option linter.unusedVariables false
set_option linter.unusedSimpArgs false
namespace Go.Proofs.YtbjnpomcgcbflaaDoor
open Go.RowKit

section
variable {P : Program} (w : World)
theorem run_loadBytes_list : ∀ (l : List UInt8) (b o : Nat) (acc : ByteArray), (∀ j u, (bvs l)[j]? = some u → w.cell? ⟨b, o + j, none⟩ = some u) →
    (Extern.Bytes.loadBytes ⟨b, o, none⟩ l.length acc).run P w = .ok ⟨acc.data ++ l.toArray⟩ w
  | [], b, o, acc, _ => by simp [Extern.Bytes.loadBytes]
  | x :: l, b, o, acc, h => by
    have h0 := h 0 (bv x) (by simp [bvs])
    simp only [Nat.add_zero] at h0
    simp only [List.length_cons, Extern.Bytes.loadBytes, Sem.run_bind, run_load, h0, Result.andThen, bv]
    rw [add_flat]
    have := run_loadBytes_list l b (o + 1) (acc.push x) (fun j u hu => by
      have := h (j + 1) u (by simpa [bvs] using hu)
      rwa [Nat.add_assoc, Nat.add_comm 1 j])
    simp only [Int.toNat_natCast]
    have e : x.toNat.toUInt8 = x := by simp
    rw [e, this]
    congr 1
    apply ByteArray.ext
    simp [ByteArray.push]
theorem run_bytesOf_seg {A : Option Addr} {l : List UInt8} (c : Nat) (h : Seg w A (bvs l)) : (Extern.Bytes.bytesOf (.slice A l.length c)).run P w = .ok ⟨l.toArray⟩ w := by
  by_cases hl : l = []
  · subst hl
    cases A <;> simp [Extern.Bytes.bytesOf, Extern.Bytes.loadBytes] <;> rfl
  · obtain ⟨b, o, rfl⟩ := h.addr (by simpa [bvs] using hl)
    have := run_loadBytes_list (P := P) w l b o .empty (fun j u hu => h.cell hu)
    simp only [Extern.Bytes.bytesOf, this]
    congr 1
    apply ByteArray.ext
    show (#[] : Array UInt8) ++ l.toArray = l.toArray
    simp
theorem run_indexByte_seg {A : Option Addr} {l : List UInt8} (c : Nat) (h : Seg w A (bvs l)) (ch : Int) :
    (Extern.BytealgIndexByte.indexByte #[.slice A l.length c, .int .u8 ch]).run P w = .ok (.int .i64 (Lib.indexByte l ch.toNat.toUInt8)) w := by
  have hs := Lib.run_indexByteString (P := P) ⟨l.toArray⟩ ch w
  change Sem.run P (do
    let b ← Extern.Bytes.bytesOf (.slice A l.length c)
    let c ← Extern.Bytes.asByte (.int .u8 ch)
    match (List.range b.size).find? fun i => b[i]! == c with
    | some i => pure (goInt i)
    | none => pure (goInt (-1))) w = _
  change Sem.run P (do
    let b ← Extern.Bytes.bytesOf (.string ⟨l.toArray⟩)
    let c ← Extern.Bytes.asByte (.int .u8 ch)
    match (List.range b.size).find? fun i => b[i]! == c with
    | some i => pure (goInt i)
    | none => pure (goInt (-1))) w = _ at hs
  simp only [Sem.run_bind, run_bytesOf_seg w c h, Result.andThen]
  simp only [Extern.Bytes.bytesOf, Sem.run_bind, Sem.run_pure, Result.andThen] at hs ⊢
  exact hs
theorem run_count_seg {A : Option Addr} {l : List UInt8} (c : Nat) (h : Seg w A (bvs l)) (ch : Int) :
    (Extern.BytealgCount.count #[.slice A l.length c, .int .u8 ch]).run P w = .ok (.int .i64 (Lib.countByte l ch.toNat.toUInt8)) w := by
  have hs := Lib.run_countString (P := P) ⟨l.toArray⟩ ch w
  change Sem.run P (do
    let b ← Extern.Bytes.bytesOf (.slice A l.length c)
    let c' ← Extern.Bytes.asByte (.int .u8 ch)
    pure (goInt (b.foldl (fun n x => if x == c' then n + 1 else n) (0 : Nat)))) w = _
  change Sem.run P (do
    let b ← Extern.Bytes.bytesOf (.string ⟨l.toArray⟩)
    let c' ← Extern.Bytes.asByte (.int .u8 ch)
    pure (goInt (b.foldl (fun n x => if x == c' then n + 1 else n) (0 : Nat)))) w = _ at hs
  simp only [Sem.run_bind, run_bytesOf_seg w c h, Result.andThen]
  simp only [Extern.Bytes.bytesOf, Sem.run_bind, Sem.run_pure, Result.andThen] at hs ⊢
  simpa using hs
end

set_option maxRecDepth 100000 in
set_option maxHeartbeats 400000 in
theorem indexByte_any {A : Option Addr} {l : List UInt8} (c : Nat) (ch : Int) (w : World) (h : Seg w A (bvs l)) :
    Calls Tryd.prog 62 #[.slice A l.length c, .int .u8 ch] w fun e w' => e = .returned (.int .i64 (Lib.indexByte l ch.toNat.toUInt8)) ∧ w = w' := by
  go_enter Tryd.func62, Tryd.ntmps62
  go_wp2
  rw [run_callFunc_extern Tryd.func69 (by kernel_rfl) (by kernel_rfl) (by kernel_rfl) (e := Extern.BytealgIndexByte.indexByte) (by kernel_rfl), run_indexByte_seg w c h ch]
  simp only [Result.andThen]
  rw [Oper.upon_value]
  go_wp2
  go_ret
  exact ⟨rfl, rfl⟩

set_option maxRecDepth 100000 in
set_option maxHeartbeats 400000 in
theorem count_any {A : Option Addr} {l : List UInt8} (c b2 o2 c2 : Nat) (ch : Int) (w : World) (h : Seg w A (bvs l)) (h2 : w.cell? ⟨b2, o2, none⟩ = some (.int .u8 ch)) :
    Calls Tryd.prog 66 #[.slice A l.length c, .slice (some ⟨b2, o2, none⟩) 1 c2] w fun e w' => e = .returned (.int .i64 (Lib.countByte l ch.toNat.toUInt8)) ∧ w = w' := by
  go_enter Tryd.func66, Tryd.ntmps66
  go_wp2
  rw [run_callFunc_extern Tryd.func72 (by kernel_rfl) (by kernel_rfl) (by kernel_rfl) (e := Extern.BytealgCount.count) (by kernel_rfl), run_count_seg w c h ch]
  simp only [Result.andThen]
  rw [Oper.upon_value]
  go_wp2
  go_ret
  exact ⟨rfl, rfl⟩

set_option maxRecDepth 100000 in
set_option maxHeartbeats 400000 in
theorem index_any {A : Option Addr} {l : List UInt8} {n : Nat} (hn : l.length = n) (c b2 o2 c2 : Nat) (ch : Int) (w : World) (h : Seg w A (bvs l)) (h2 : w.cell? ⟨b2, o2, none⟩ = some (.int .u8 ch)) :
    Calls Tryd.prog 67 #[.slice A n c, .slice (some ⟨b2, o2, none⟩) 1 c2] w fun e w' => e = .returned (.int .i64 (Lib.indexByte l ch.toNat.toUInt8)) ∧ w = w' := by
  subst hn
  go_enter Tryd.func67, Tryd.ntmps67
  go_wp2_with (go_at_call 62; refine (indexByte_any c ch _ h).mono ?_; rintro e w' ⟨rfl, rfl⟩)
  go_ret
  exact ⟨rfl, rfl⟩

theorem run_string_seg {P : Program} (src dst e : TypeId) (hs : P.underlying src = some (.slice e)) (he : P.underlying e = some (.int .u8)) (hd : P.underlying dst = some .string) (w : World) {A : Option Addr} {l : List UInt8} (c : Nat) (h : Seg w A (bvs l)) :
    (convert src dst (.slice A l.length c)).run P w = .ok (.string ⟨l.toArray⟩) w := by
  have hx : strOfNums (l.map fun b => (b.toNat : Int)) = ⟨l.toArray⟩ := by
    apply ByteArray.ext
    simp only [strOfNums, List.map_map]
    congr 1
    conv => rhs; rw [← List.map_id l]
    apply List.map_congr_left
    intro b _
    simp
  by_cases hl : l = []
  · subst hl
    cases A with
    | none => exact run_convert_bytes_nil w src e hs he 0 c dst hd
    | some a =>
      obtain ⟨b, o, sp⟩ := a
      show (convert src dst (.slice (some ⟨b, o, sp⟩) 0 c)).run P w = _
      rw [run_convert_bytes_string w src dst e (some ⟨b, o, sp⟩) 0 c hs he hd]
      simp [Conv.bytesToString]
      rfl
  · obtain ⟨b, o, rfl⟩ := h.addr (by simpa [bvs] using hl)
    rw [← hx]
    refine run_convert_bytes_arg w src e hs he b o l.length c _ (by simp) (fun i hi => ?_) dst hd
    have := h.cell (j := i) (u := bv l[i]) (by simp [bvs, hi])
    rw [this]
    simp [bv, List.getD_eq_getElem?_getD, hi]

set_option maxRecDepth 100000 in
set_option maxHeartbeats 400000 in
theorem bytesEqual_any {A B : Option Addr} {l m : List UInt8} (c d : Nat) (w : World) (h : Seg w A (bvs l)) (k : Seg w B (bvs m)) :
    Calls Tryd.prog 36 #[.slice A l.length c, .slice B m.length d] w fun e w' => e = .returned (.bool (l == m)) ∧ w = w' := by
  have h1 := run_string_seg (P := Tryd.prog) 28 9 5 Tryd.underlying28 Tryd.underlying5 Tryd.underlying9 w c h
  have h2 := run_string_seg (P := Tryd.prog) 28 9 5 Tryd.underlying28 Tryd.underlying5 Tryd.underlying9 w d k
  go_enter Tryd.func36, Tryd.ntmps36
  go_wp2
  go_ret
  exact ⟨rfl, rfl⟩

/-- 's == nil' of a slice. -/
theorem eql_nil (T : TypeId) (e : TypeId) (h : Tryd.prog.underlying T = some (.slice e)) : ∀ (w : World) (a : Option Addr) (n c n' c' : Nat), (binOp .eql T (.slice a n c) (.slice none n' c')).run Tryd.prog w = .ok (.bool a.isNone) w :=
  fun w a n c n' c' => Lib.run_eql_slice_nil w _ _ a n c n' c' h

end Go.Proofs.YtbjnpomcgcbflaaDoor
