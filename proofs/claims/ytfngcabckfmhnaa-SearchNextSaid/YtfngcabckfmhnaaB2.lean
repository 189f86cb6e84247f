/- The walk of search.plain: may all of a string's characters stand in a pattern? -/
import Derived.Test.YtfngcabckfmhnaaB1
import Derived.Laws.RangeAny
import Derived.Laws.RangeString
namespace Go.Proofs.Ytfngcabckfmhnaa.B
open Go.RowKit Go.Proofs.YtfngcabckfmhnaaW.PrintWords Go.Proofs.YtfngcabckfmhnaaW.PrintLast Go.Proofs.YtfngcabckfmhnaaW.PrintMore Go.Proofs.Ytfngcabckfmhnaa.PA
set_option linter.unusedVariables false
set_option linter.unusedSimpArgs false

theorem ret_bool {a b : Bool} (h : a = b) : Ending.returned (.bool a) = .returned (.bool b) := by rw [h]
theorem ret_int {k : IntKind} {a b : Int} (h : a = b) : Ending.returned (.int k a) = .returned (.int k b) := by rw [h]
theorem ret_string {a b : ByteArray} (h : a = b) : Ending.returned (.string a) = .returned (.string b) := by rw [h]

/-- May this byte stand in a pattern? -/
def okB (b : UInt8) : Bool := 32 ≤ b.toNat && b.toNat ≤ 126
/-- May this string be a pattern's (the empty one too)? -/
def plB (s : ByteArray) : Bool := decide (s.size ≤ 64) && s.data.toList.all okB

theorem size_toList (s : ByteArray) : s.data.toList.length = s.size := data_length s
theorem take_all_succ {s : ByteArray} {k : Nat} (h : k < s.size) : (s.data.toList.take (k + 1)).all okB = ((s.data.toList.take k).all okB && okB (s[k]'h)) := by
  rw [List.take_succ_eq_append_getElem (by rw [size_toList]; exact h)]
  simp only [List.all_append, List.all_cons, List.all_nil, Bool.and_true]
  rfl
theorem all_false_of {s : ByteArray} {k : Nat} (h : k < s.size) (hb : okB (s[k]'h) = false) : s.data.toList.all okB = false := by
  rw [Bool.eq_false_iff]
  intro hc
  rw [List.all_eq_true] at hc
  have := hc (s[k]'h) (by show s.data[k] ∈ _; simp)
  rw [hb] at this
  cases this
theorem all_of_take {s : ByteArray} {k : Nat} (h : ¬ k < s.size) (hb : (s.data.toList.take k).all okB = true) : s.data.toList.all okB = true := by
  rwa [List.take_of_length_le (by rw [size_toList]; omega)] at hb

def PlainAns (s : ByteArray) (w : World) (e : Ending) (w' : World) : Prop := e = .returned (.bool (plB s)) ∧ Below w.heap.size w w'

set_option maxHeartbeats 8000000 in
set_option maxRecDepth 100000 in
theorem plain_any (s : ByteArray) (w : World) : Calls Try.prog 37 #[.string s] w (PlainAns s w) := by
  by_cases hs : (64 : Int) < (s.size : Int)
  · have HR : Aside0 (plB s = false) := ⟨by unfold plB; simp [show ¬ s.size ≤ 64 by omega]⟩
    have c1 := decide_eq_true hs
    clear hs
    go_enter Try.func37, Try.ntmps37
    go_wp2
    go_ret
    exact ⟨ret_bool HR.out.symm, Below.refl _ _⟩
  · have HS := Aside0.mk hs
    have c0 := decide_eq_false hs
    clear hs
    go_enter Try.func37, Try.ntmps37
    go_wp2
    go_loopw [4] (fun v4 wr => ∃ pos : Nat, wr = w.iter s pos ∧ Aside0 ((s.data.toList.take pos).all okB = true) ∧ Aside0 (pos ≤ s.size)) (fun _ wr => s.size - wr.iterPos w.heap.size)
    case atStart => exact ⟨0, rfl, ⟨by simp⟩, ⟨Nat.zero_le _⟩⟩
    case round =>
      clear c0
      obtain ⟨pos, rfl, HG, HP⟩ := hrel
      by_cases hp : pos < s.size
      · by_cases ha : (s[pos]'hp).toNat < 128
        · have hnx : ∀ ty, (Instr.next (.pointer (some ⟨w.heap.size, 0, none⟩)) true ty).run Try.prog (w.iter s pos) = _ := fun ty => run_next_ascii w s pos ty hp ha
          have HT := Aside0.mk (take_all_succ hp)
          have HF := Aside0.mk (@all_false_of s pos hp)
          have HA := Aside0.mk ha
          clear ha
          by_cases c1 : (((s[pos]'hp).toNat : Nat) : Int) < 32
          · have c1' := decide_eq_true c1
            have C1 := Aside0.mk c1
            clear c1
            go_wp2
            go_ret
            refine ⟨?_, (Below.refl _ _).alloc (Nat.le_refl _) _⟩
            exact ret_bool (by unfold plB; rw [HF.out (by unfold okB; have := C1.out; simp; omega)]; simp)
          · have c1' := decide_eq_false c1
            have C1 := Aside0.mk c1
            clear c1
            by_cases c2 : (126 : Int) < (((s[pos]'hp).toNat : Nat) : Int)
            · have c2' := decide_eq_true c2
              have C2 := Aside0.mk c2
              clear c2
              go_wp2
              go_ret
              refine ⟨?_, (Below.refl _ _).alloc (Nat.le_refl _) _⟩
              exact ret_bool (by unfold plB; rw [HF.out (by unfold okB; have := C2.out; simp; omega)]; simp)
            · have c2' := decide_eq_false c2
              have C2 := Aside0.mk c2
              clear c2
              go_wp2
              go_roundw
              case rel => exact ⟨pos + 1, rfl, ⟨by rw [HT.out, HG.out]; unfold okB; have := C1.out; have := C2.out; simp; omega⟩, ⟨by omega⟩⟩
              case measure => simp; omega
        · have hd := decode_high s pos hp (by omega)
          have hnx : ∀ ty, (Instr.next (.pointer (some ⟨w.heap.size, 0, none⟩)) true ty).run Try.prog (w.iter s pos) = _ := fun ty => run_next_any w s pos ty hp
          have c1' : decide (((Utf8.decode s pos).1 : Int) < 32) = false := decide_eq_false (by omega)
          have c2' : decide (126 < ((Utf8.decode s pos).1 : Int)) = true := decide_eq_true (by omega)
          have HF := Aside0.mk (@all_false_of s pos hp)
          have HA := Aside0.mk ha
          clear ha hd
          go_wp2
          go_ret
          refine ⟨?_, (Below.refl _ _).alloc (Nat.le_refl _) _⟩
          exact ret_bool (by unfold plB; rw [HF.out (by unfold okB; have := HA.out; simp; omega)]; simp)
      · have hnx : ∀ ty, (Instr.next (.pointer (some ⟨w.heap.size, 0, none⟩)) true ty).run Try.prog (w.iter s pos) = _ := fun ty => run_next_end w s pos ty hp
        have HT := Aside0.mk (@all_of_take s pos hp)
        go_wp2
        go_ret
        refine ⟨?_, (Below.refl _ _).alloc (Nat.le_refl _) _⟩
        exact ret_bool (by unfold plB; rw [HT.out HG.out]; have := HS.out; simp; omega)
end Go.Proofs.Ytfngcabckfmhnaa.B
