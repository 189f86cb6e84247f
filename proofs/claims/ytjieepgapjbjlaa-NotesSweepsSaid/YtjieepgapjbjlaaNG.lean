/- slices.Sort at []int: the ghost machine's contract. -/
import Derived.Test.YtjieepgapjbjlaaNF
import Derived.Test.YtjieepgapjbjlaaVS
import Derived.Test.YtjieepgapjbjlaaS0
namespace Go.Proofs.Ytjieepgapjbjlaa.G
open Go.Gv Go.Sort Go.RowKit
set_option linter.unusedVariables false
set_option linter.unusedSimpArgs false
set_option maxRecDepth 100000

def sortI (xs : List Int) : List Int := xs.mergeSort fun x y => decide (x ≤ y)

theorem kInt_cs (l : List Int) : kInt.cs l = l.map (Value.int .i64) := by
  induction l with
  | nil => rfl
  | cons x l ih => rw [Kind.cs_cons, ih]; rfl

theorem sorted_here {w : World} {g off n : Nat} {os : Array Obj} {cur : Array Value} {e : TypeId} {fr : Nat × Nat} (d : Array Int) (hb : w.heap[g]? = some (.cells cur e fr)) :
    (grow (putRow (Value.int .i64) (Sort.ahead w n) g off d) os).heap[g]? = some (.cells (putCells (Value.int .i64) off d cur) e fr) := by
  have hg : g < w.heap.size := (Array.getElem?_eq_some_iff.1 hb).1
  rw [heap_grow_old _ _ (by simpa using hg)]
  simp [putRow, mapBlock, Sort.ahead, Array.getElem?_modify, hb, onCells]

theorem sorted_there {w : World} {g off n : Nat} {os : Array Obj} (d : Array Int) {k : Nat} (hk : k < w.heap.size) (hne : k ≠ g) :
    (grow (putRow (Value.int .i64) (Sort.ahead w n) g off d) os).heap[k]? = w.heap[k]? := by
  rw [heap_grow_old _ _ (by simpa using hk)]
  have : g ≠ k := fun e => hne e.symm
  simp [putRow, mapBlock, Sort.ahead, Array.getElem?_modify, this]

theorem sort_R {Keep Hide : Nat → Prop} {W0 w : World} {h : GH} (hr : R Keep Hide W0 h w) {b off room : Nat} {xs ys : List Int} {rest : List Value} (hb : h b = some (.cells off (kInt.cs xs ++ rest) (some room))) (hl : ys.length = xs.length) (n : Nat) (os : Array Obj) :
    R Keep Hide W0 (h.set b (.cells off (kInt.cs ys ++ rest) (some room))) (grow (putRow (Value.int .i64) (Sort.ahead w n) b off ys.toArray) os) := by
  have hob := hr.objs b _ hb
  obtain ⟨c, e, fz, hc, hv, hroom⟩ := hob
  obtain ⟨hfree, hfz, hcs, hle⟩ := hroom room rfl
  have hbk : ∀ k, Keep k → k ≠ b := fun k hk e => hfree (e ▸ hk)
  refine ⟨hr.os, hr.tape, hr.output, Nat.le_trans hr.size (by simp [grow, putRow, mapBlock, Sort.ahead]), fun k hk => ?_, fun k hk => ?_, fun k o hk => ?_⟩
  · obtain ⟨h1, h2⟩ := hr.keep k hk
    exact ⟨h1, by rw [sorted_there _ (Nat.lt_of_lt_of_le h1 hr.size) (hbk k hk)]; exact h2⟩
  · obtain ⟨h0, h1, h2⟩ := hr.hide k hk
    have hne : k ≠ b := fun e => by rw [e, hb] at h0; exact absurd h0 (by simp)
    exact ⟨by rw [GH.set_ne hne]; exact h0, h1, by rw [sorted_there _ (Nat.lt_of_lt_of_le h1 hr.size) hne]; exact h2⟩
  · by_cases hkb : k = b
    · subst hkb
      rw [GH.set_same] at hk
      simp only [Option.some.injEq] at hk
      subst hk
      refine ⟨_, e, fz, sorted_here _ hc, fun i v hi h1 => ?_, fun r hr' => ?_⟩
      · have hxl : (kInt.cs xs).length = xs.length := by rw [kInt_cs]; simp
        have hyl : (kInt.cs ys).length = ys.length := by rw [kInt_cs]; simp
        have hsz : off + i < c.size := by
          have h2 : i < (kInt.cs ys ++ rest).length := (List.getElem?_eq_some_iff.1 hi).1
          rw [List.length_append] at h2 hle
          omega
        simp only [putCells, Array.getElem?_mapIdx, Array.getElem?_eq_getElem hsz, Option.map_some, List.size_toArray]
        by_cases hi2 : i < ys.length
        · rw [if_pos (by omega)]
          rw [List.getElem?_append_left (by omega), kInt_cs, List.getElem?_map, List.getElem?_eq_getElem hi2] at hi
          simp only [Option.map_some, Option.some.injEq] at hi
          rw [← hi]
          simp [hi2]
        · rw [if_neg (by omega)]
          rw [List.getElem?_append_right (by omega)] at hi
          have := hv i v (by rw [List.getElem?_append_right (by omega), hxl, ← hl, ← hyl]; exact hi) h1
          rw [Array.getElem?_eq_getElem hsz] at this
          exact this
      · simp only [Option.some.injEq] at hr'
        subst hr'
        refine ⟨hfree, hfz, by simp [putCells]; exact hcs, ?_⟩
        have hxl : (kInt.cs xs).length = xs.length := by rw [kInt_cs]; simp
        have hyl : (kInt.cs ys).length = ys.length := by rw [kInt_cs]; simp
        rw [List.length_append] at hle ⊢
        omega
    · rw [GH.set_ne hkb] at hk
      have hlt := hr.lt hk
      have h1 := hr.objs k o hk
      cases o with
      | cells base vs own =>
        obtain ⟨c', e', fz', hc', h2, h3⟩ := h1
        exact ⟨c', e', fz', by rw [sorted_there _ hlt hkb]; exact hc', h2, h3⟩
      | raw o =>
        obtain ⟨h2, h3, h4⟩ := h1
        exact ⟨h2, h3, by rw [sorted_there _ hlt hkb]; exact h4⟩

theorem sort_ok {K : Value → GH → Prop} {h : GH} {a : Option Addr} {n c : Nat} {xs : List Int} (ho : Own kInt h a n c xs) (hn : n < 4611686018427387904)
    (hk : ∀ h', Own kInt h' a n c (sortI xs) → Agree (ob a) h h' → K (.tuple ⟨[]⟩) h') : GC pr n_slices_Sort [.slice a n c] h K := by
  intro Keep Hide W0 w hr
  have hlen := ho.n_eq
  have hsl : (sortI xs).length = xs.length := by simp [sortI]
  rcases ho.at_ with ⟨rfl, hc⟩ | ⟨b, off, rest, room, rfl, hb, hrm⟩
  · have hx : xs = [] := List.eq_nil_of_length_eq_zero (by have := ho.cap; omega)
    subst hx
    simp only [List.length_nil] at hlen
    subst hlen
    refine (Try.slices_Sort_int_none none c w).mono fun e w' ⟨he, hw⟩ => ⟨.tuple ⟨[]⟩, h, he, by rw [hw]; exact hr, hk h (by simpa [sortI] using ho) (Agree.refl _ _)⟩
  · subst hlen
    have hob := hr.objs b _ hb
    obtain ⟨cur, e, fz, hcur, hv, hroom⟩ := hob
    obtain ⟨hfree, hfz, hcs, hle⟩ := hroom room rfl
    subst hfz
    have hH : Holds (Value.int .i64) w b off xs.toArray := fun j hj => by
      have hj' : j < xs.length := by simpa using hj
      refine ⟨?_, by simp [World.frozen?, hcur]⟩
      have := hv j (.int .i64 xs[j]) (by rw [List.getElem?_append_left (by rw [kInt_cs]; simpa using hj'), kInt_cs]; simp [hj']) rfl
      simp only [World.cell?, hcur, Option.isSome_none, Bool.false_eq_true, if_false]
      rw [this]
      simp [hj']
    refine (Try.slices_Sort_int b off c xs w hH (hr.lt hb) hn).mono fun e w' ⟨he, m, os, hw⟩ => ⟨.tuple ⟨[]⟩, _, he, ?_, hk (h.set b (.cells off (kInt.cs (sortI xs) ++ rest) (some room))) ?_ (Agree.set (by simp [ob]))⟩
    · rw [hw]; exact sort_R hr hb hsl m os
    · exact ⟨hsl.symm, ho.cap, ho.small, .inr ⟨b, off, rest, room, rfl, GH.set_same _ _ _, hrm⟩⟩
end Go.Proofs.Ytjieepgapjbjlaa.G
