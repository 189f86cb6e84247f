/- SearchBack: the plain law: a pattern swapped for strange characters and back. -/
import Derived.Test.YtfngcabckfmhnaaW1
namespace Go.Proofs.Ytfngcabckfmhnaa.B
open Go.RowKit Go.Proofs.YtfngcabckfmhnaaW.PrintWords Go.Proofs.YtfngcabckfmhnaaW.PrintLast Go.Proofs.YtfngcabckfmhnaaW.PrintMore Go.Proofs.Ytfngcabckfmhnaa.PA
set_option linter.unusedVariables false
set_option linter.unusedSimpArgs false

def mm (b P : List Int) (i : Nat) : Bool := (b.drop i).take P.length == P
def sc (b P : List Int) (ap : Bool) (i : Nat) : List Nat := scan (mm b P) P.length ap (b.length + 1 - P.length - i) i i
theorem plc_sc (s p : ByteArray) (pos : Nat) (ap : Bool) : plc s p pos ap = sc (bytesOf s) (bytesOf p) ap pos := by
  unfold plc sc
  rw [bytesOf_length, bytesOf_length]
  congr 1
  funext i
  unfold mt mm
  rw [bytesOf_length]
def res (b Q : List Int) (m : Nat) : Nat → List Nat → List Int
  | src, [] => b.drop src
  | src, a :: L => (b.drop src).take (a - src) ++ Q ++ res b Q m (a + m) L
def G (b P Q : List Int) (i : Nat) : List Int := res b Q P.length i (sc b P true i)
theorem mm_len {b P : List Int} {i : Nat} (hP : 1 ≤ P.length) (h : mm b P i = true) : i + P.length ≤ b.length := by
  have h := congrArg List.length (eq_of_beq h)
  rw [List.length_take, List.length_drop] at h
  omega
theorem sc_hit {b P : List Int} {i : Nat} (hP : 1 ≤ P.length) (h : mm b P i = true) : sc b P true i = i :: sc b P true (i + P.length) := by
  have hl := mm_len hP h
  unfold sc
  obtain ⟨n, hn⟩ : ∃ n, b.length + 1 - P.length - i = n + 1 := ⟨b.length - P.length - i, by omega⟩
  rw [hn, scan, if_neg (by omega), if_pos h, if_pos rfl]
  have := scan_skip (mm b P) P.length true (P.length - 1) n (i + 1)
  rw [show i + 1 + (P.length - 1) = i + P.length by omega] at this
  rw [this, show n - (P.length - 1) = b.length + 1 - P.length - (i + P.length) by omega]
theorem sc_miss {b P : List Int} {i : Nat} (h : mm b P i = false) : sc b P true i = sc b P true (i + 1) := by
  unfold sc
  cases hn : b.length + 1 - P.length - i with
  | zero => rw [show b.length + 1 - P.length - (i + 1) = 0 by omega]; rfl
  | succ n =>
    rw [scan, if_neg (by omega), h, show b.length + 1 - P.length - (i + 1) = n by omega]
    exact scan_low _ _ _ _ _ _ (by omega) (by omega)
theorem sc_ge {b P : List Int} {i a : Nat} (h : a ∈ sc b P true i) : i ≤ a := (scan_mem _ _ _ _ _ _ a h).1
theorem res_cons {b Q R : List Int} {m i : Nat} {c : Int} (hi : b.drop i = c :: R) : ∀ (L : List Nat), (∀ a ∈ L, i + 1 ≤ a) → res b Q m i L = c :: res b Q m (i + 1) L
  | [], _ => by
    have h1 : b.drop (i + 1) = R := by rw [← List.drop_drop, hi]; rfl
    rw [res, res, h1, hi]
  | a :: L, h => by
    have h1 : b.drop (i + 1) = R := by rw [← List.drop_drop, hi]; rfl
    have := h a (List.mem_cons_self ..)
    obtain ⟨k, hk⟩ : ∃ k, a - i = k + 1 := ⟨a - i - 1, by omega⟩
    rw [res, res, h1, hi, hk, show a - (i + 1) = k by omega]
    rfl
theorem G_hit {b P Q : List Int} {i : Nat} (hP : 1 ≤ P.length) (h : mm b P i = true) : G b P Q i = Q ++ G b P Q (i + P.length) := by
  unfold G
  rw [sc_hit hP h, res, Nat.sub_self]
  rfl
theorem G_miss {b P Q R : List Int} {i : Nat} {c : Int} (h : mm b P i = false) (hi : b.drop i = c :: R) : G b P Q i = c :: G b P Q (i + 1) := by
  unfold G
  rw [sc_miss h]
  exact res_cons hi _ (fun a ha => sc_ge ha)
theorem G_end {b P Q : List Int} {i : Nat} (hP : 1 ≤ P.length) (hi : b.drop i = []) : G b P Q i = [] ∧ sc b P true i = [] := by
  have hl : b.length ≤ i := by simpa using hi
  have : sc b P true i = [] := by
    unfold sc
    rw [show b.length + 1 - P.length - i = 0 by omega]
    rfl
  unfold G
  rw [this]
  exact ⟨hi, rfl⟩
theorem out_res (t : List Int) (m : Nat) (q : ByteArray) (L : List Nat) : ∀ d k, k + d = L.length → outB t m q L k ++ res t (bytesOf q) m (srcP m L k) (L.drop k) = outB t m q L L.length ++ t.drop (srcP m L L.length) := by
  intro d
  induction d with
  | zero =>
    intro k hk
    obtain rfl : k = L.length := by omega
    rw [List.drop_length]
    rfl
  | succ d ih =>
    intro k hk
    rw [← ih (k + 1) (by omega), List.drop_eq_getElem_cons (show k < L.length by omega), outB, srcP_succ, res]
    have : L.getD k 0 = L[k]'(by omega) := by rw [List.getD_eq_getElem?_getD, List.getElem?_eq_getElem (by omega)]; rfl
    rw [this]
    simp only [List.append_assoc]
theorem out_G (s p q : ByteArray) (L : List Nat) (hL : L = plc s p 0 true) : outB (bytesOf s) p.size q L L.length ++ (bytesOf s).drop (srcP p.size L L.length) = G (bytesOf s) (bytesOf p) (bytesOf q) 0 := by
  rw [← out_res (bytesOf s) p.size q L L.length 0 (by omega)]
  unfold G
  rw [bytesOf_length, ← plc_sc, ← hL]
  rfl
theorem mm_cons_false {W P P' R : List Int} {j : Nat} {a c : Int} (hP : P = a :: P') (hW : W.drop j = c :: R) (h : c ≠ a) : mm W P j = false := by
  unfold mm
  rw [hW, hP]
  refine beq_eq_false_iff_ne.mpr fun e => ?_
  rw [List.length_cons, List.take_succ_cons] at e
  injection e with e _
  exact h e
theorem mm_app {W Q R : List Int} {j : Nat} (hW : W.drop j = Q ++ R) : mm W Q j = true := by
  unfold mm
  rw [hW, List.take_append_of_le_length (Nat.le_refl _), List.take_length]
  exact beq_self_eq_true _
theorem pre_G {b P : List Int} {m : Nat} (hP : 1 ≤ P.length) : ∀ (w : List Int) (i : Nat), (∀ x ∈ w, x ≠ 126) → (∃ R, G b P (List.replicate (m + 1) 126) i = w ++ R) → ∃ R, b.drop i = w ++ R := by
  intro w
  induction w with
  | nil => intro i _ _; exact ⟨_, rfl⟩
  | cons c w ih =>
    intro i hw hR
    obtain ⟨R, hR⟩ := hR
    cases hm : mm b P i with
    | true =>
      rw [G_hit hP hm, List.replicate_succ] at hR
      injection hR with e _
      exact absurd e.symm (hw c (List.mem_cons_self ..))
    | false =>
      cases hd : b.drop i with
      | nil => rw [(G_end hP hd).1] at hR; cases hR
      | cons a T =>
        rw [G_miss hm hd] at hR
        injection hR with e hR
        obtain ⟨R', hR'⟩ := ih (i + 1) (fun x hx => hw x (List.mem_cons_of_mem _ hx)) ⟨R, hR⟩
        have h1 : b.drop (i + 1) = T := by rw [← List.drop_drop, hd]; rfl
        rw [h1] at hR'
        exact ⟨R', by rw [e, hR']; rfl⟩
theorem not_pre {b P : List Int} {m : Nat} (hP : 1 ≤ P.length) (hn : ∀ x ∈ P, x ≠ 126) : ∀ d i j, b.length - i = d → ¬ ∃ R, (G b P (List.replicate (m + 1) 126) i).drop j = P ++ R := by
  obtain ⟨a, P', hPc⟩ : ∃ a P', P = a :: P' := by
    cases P with
    | nil => cases hP
    | cons a P' => exact ⟨a, P', rfl⟩
  have ha : a ≠ 126 := hn a (by rw [hPc]; exact List.mem_cons_self ..)
  intro d
  induction d using Nat.strongRecOn with
  | _ d ih =>
  intro i j hd hR
  cases hm : mm b P i with
  | true =>
    have hl := mm_len hP hm
    rw [G_hit hP hm] at hR
    by_cases hj : j < m + 1
    · obtain ⟨R, hR⟩ := hR
      rw [List.drop_append_of_le_length (by rw [List.length_replicate]; omega), List.drop_replicate] at hR
      obtain ⟨k, hk⟩ : ∃ k, m + 1 - j = k + 1 := ⟨m - j, by omega⟩
      rw [hk, List.replicate_succ, hPc] at hR
      injection hR with e _
      exact ha e.symm
    · refine ih (b.length - (i + P.length)) (by omega) (i + P.length) (j - (m + 1)) rfl ?_
      obtain ⟨R, hR⟩ := hR
      rw [List.drop_append, List.drop_eq_nil_of_le (by rw [List.length_replicate]; omega), List.length_replicate] at hR
      exact ⟨R, hR⟩
  | false =>
    cases hdr : b.drop i with
    | nil =>
      rw [(G_end hP hdr).1, hPc] at hR
      obtain ⟨R, hR⟩ := hR
      simp at hR
    | cons c T =>
      have hl : i < b.length := by
        have := congrArg List.length hdr
        rw [List.length_drop, List.length_cons] at this
        omega
      cases j with
      | zero =>
        obtain ⟨R, hR⟩ := pre_G hP P i hn hR
        rw [mm_app hR] at hm
        cases hm
      | succ j =>
        rw [G_miss hm hdr] at hR
        exact ih (b.length - (i + 1)) (by omega) (i + 1) j rfl hR
theorem back_none {b P : List Int} {m : Nat} (hP : 1 ≤ P.length) (hn : ∀ x ∈ P, x ≠ 126) (j : Nat) : mm (G b P (List.replicate (m + 1) 126) 0) P j = false := by
  cases h : mm (G b P (List.replicate (m + 1) 126) 0) P j with
  | false => rfl
  | true =>
    refine absurd ?_ (not_pre (b := b) (m := m) hP hn _ 0 j rfl)
    have e := eq_of_beq h
    exact ⟨_, by conv => lhs; rw [← List.take_append_drop P.length (List.drop j _), e]⟩
theorem scan_none (m : Nat → Bool) (wd : Nat) (ap : Bool) (h : ∀ j, m j = false) : ∀ n i nx, scan m wd ap n i nx = [] := by
  intro n
  induction n with
  | zero => intro i nx; rfl
  | succ n ih =>
    intro i nx
    rw [scan, h, ih, ih]
    split <;> rfl
theorem back_back {b P : List Int} {m : Nat} (hP : 1 ≤ P.length) (hb : ∀ x ∈ b, x ≠ 126) (W : List Int) : ∀ d i j, b.length - i = d → W.drop j = G b P (List.replicate (m + 1) 126) i →
    G W (List.replicate (m + 1) 126) P j = b.drop i ∧ (sc W (List.replicate (m + 1) 126) true j).length = (sc b P true i).length := by
  have hQ : 1 ≤ (List.replicate (m + 1) (126 : Int)).length := by rw [List.length_replicate]; omega
  intro d
  induction d using Nat.strongRecOn with
  | _ d ih =>
  intro i j hd hW
  cases hm : mm b P i with
  | true =>
    have hl := mm_len hP hm
    rw [G_hit hP hm] at hW
    have hmw := mm_app hW
    have h2 : W.drop (j + (List.replicate (m + 1) (126 : Int)).length) = G b P (List.replicate (m + 1) 126) (i + P.length) := by rw [← List.drop_drop, hW, List.drop_left]
    obtain ⟨e1, e2⟩ := ih (b.length - (i + P.length)) (by omega) (i + P.length) _ rfl h2
    rw [G_hit hQ hmw, sc_hit hQ hmw, sc_hit hP hm, e1]
    refine ⟨?_, by rw [List.length_cons, List.length_cons, e2]⟩
    have e := eq_of_beq hm
    conv => rhs; rw [← List.take_append_drop P.length (List.drop i b), e, List.drop_drop]
  | false =>
    cases hdr : b.drop i with
    | nil =>
      rw [(G_end hP hdr).1] at hW
      rw [(G_end (Q := P) hQ hW).1, (G_end (Q := P) hQ hW).2, (G_end (Q := P) hP hdr).2]
      exact ⟨rfl, rfl⟩
    | cons c T =>
      have hl : i < b.length := by
        have := congrArg List.length hdr
        rw [List.length_drop, List.length_cons] at this
        omega
      have hc : c ≠ 126 := hb c (List.mem_of_mem_drop (by rw [hdr]; exact List.mem_cons_self ..))
      rw [G_miss hm hdr] at hW
      have hmw : mm W (List.replicate (m + 1) 126) j = false := mm_cons_false (List.replicate_succ ..) hW hc
      have h2 : W.drop (j + 1) = G b P (List.replicate (m + 1) 126) (i + 1) := by rw [← List.drop_drop, hW]; rfl
      obtain ⟨e1, e2⟩ := ih (b.length - (i + 1)) (by omega) (i + 1) _ rfl h2
      have h1 : b.drop (i + 1) = T := by rw [← List.drop_drop, hdr]; rfl
      rw [G_miss hmw hW, sc_miss hmw, sc_miss hm, e1, e2, h1]
      exact ⟨rfl, rfl⟩
theorem G_mem {b P Q : List Int} (hP : 1 ≤ P.length) : ∀ d i, b.length - i = d → ∀ x ∈ G b P Q i, x ∈ b ∨ x ∈ Q := by
  intro d
  induction d using Nat.strongRecOn with
  | _ d ih =>
  intro i hd x hx
  cases hm : mm b P i with
  | true =>
    have hl := mm_len hP hm
    rw [G_hit hP hm, List.mem_append] at hx
    rcases hx with hx | hx
    · exact .inr hx
    · exact ih (b.length - (i + P.length)) (by omega) _ rfl x hx
  | false =>
    cases hdr : b.drop i with
    | nil =>
      rw [(G_end hP hdr).1] at hx
      cases hx
    | cons c T =>
      have hl : i < b.length := by
        have := congrArg List.length hdr
        rw [List.length_drop, List.length_cons] at this
        omega
      rw [G_miss hm hdr] at hx
      rcases List.mem_cons.1 hx with rfl | hx
      · exact .inl (List.mem_of_mem_drop (by rw [hdr]; exact List.mem_cons_self ..))
      · exact ih (b.length - (i + 1)) (by omega) _ rfl x hx
end Go.Proofs.Ytfngcabckfmhnaa.B
