/- Words of this session's own: a row of bytes that is read; an index of a text (search.Index) in memory. -/
import Derived.Test.YtfngcabckfmhnaaH1
namespace Go.Proofs.Ytfngcabckfmhnaa.B
open Go.RowKit Go.Proofs.YtfngcabckfmhnaaW.PrintWords Go.Proofs.YtfngcabckfmhnaaW.PrintLast Go.Proofs.YtfngcabckfmhnaaW.PrintMore Go.Proofs.Ytfngcabckfmhnaa.PA

/-- The bytes of all pieces. (A name of its own: the walk leaves it as it is.) -/
def fl (ps : List (List Int)) : List Int := ps.flatten

/-- A slice value that reads as these bytes; where it has an address, its block is a row of bytes. -/
def Pc (w : World) (u : Value) (l : List Int) : Prop :=
  ∃ A c, u = .slice A l.length c ∧ l.length ≤ c ∧ Kd.C (Kd.int .u8) w A l.length l ∧ ∀ a, A = some a → ∃ cs : Array Value, w.heap[a.block]? = some (.cells cs 5 (0, 0))

/-- An index at block g, its pieces in block r. -/
def Idx (w : World) (g : Nat) (r : Option Nat) (ps : List (List Int)) : Prop :=
  ∃ v cs, w.heap[g]? = some (.cells #[v, .int .i64 ((fl ps).length : Int)] 82 (0, 0)) ∧ w.ownsRow 0 53 1 v ps.length cs ∧ v.ownBlock = r ∧ ∀ (i : Nat) (l : List Int), ps[i]? = some l → ∃ u, cs[i]? = some u ∧ Pc w u l

theorem Pc.keep {w w' : World} {u : Value} {l : List Int} (h : Pc w u l) (hk : ∀ (k : Nat) (cs : Array Value), w.heap[k]? = some (.cells cs 5 (0, 0)) → w'.heap[k]? = w.heap[k]?) : Pc w' u l := by
  obtain ⟨A, c, e, hc, hC, hA⟩ := h
  refine ⟨A, c, e, hc, ?_, fun a ha => ?_⟩
  · obtain ⟨h1, h2, h3⟩ := hC
    refine ⟨h1, h2, fun hp => ?_⟩
    obtain ⟨ad, e', hh⟩ := h3 hp
    obtain ⟨cs, hcs⟩ := hA ad e'
    refine ⟨ad, e', fun j p hj => ?_⟩
    obtain ⟨c, hs, hr, hcell⟩ := hh j p hj
    refine ⟨c, hs, hr, fun i u hu => ?_⟩
    rw [← hcell i u hu]
    exact World.cell?_of_block (w := w) (by rw [show (ad.add (j * (Kd.int .u8).sz + i)).block = ad.block by unfold Addr.add; split <;> rfl]; exact hk _ _ hcs)
  · obtain ⟨cs, hcs⟩ := hA a ha
    exact ⟨cs, (hk _ _ hcs).trans hcs⟩
theorem Pc.below {w w' : World} {u : Value} {l : List Int} (h : Pc w u l) (hb : Below w.heap.size w w') : Pc w' u l :=
  h.keep fun k _ hk => hb.block k (blk_lt hk)


/-- What an index is made of stays where its own two blocks and the rows of bytes stay. -/
theorem Idx.keep {w w' : World} {g : Nat} {r : Option Nat} {ps : List (List Int)} (h : Idx w g r ps) (hg : w'.heap[g]? = w.heap[g]?) (hr : ∀ k, r = some k → w'.heap[k]? = w.heap[k]?)
    (hk : ∀ (k : Nat) (cs : Array Value), w.heap[k]? = some (.cells cs 5 (0, 0)) → w'.heap[k]? = w.heap[k]?) : Idx w' g r ps := by
  obtain ⟨v, cs, h1, h2, h3, h4⟩ := h
  exact ⟨v, cs, hg.trans h1, own_move h2 (fun k e => hr k (h3.symm.trans e)), h3, fun i l hi => by
    obtain ⟨u, hu, hp⟩ := h4 i l hi
    exact ⟨u, hu, hp.keep hk⟩⟩
theorem Idx.lt {w : World} {g : Nat} {r : Option Nat} {ps : List (List Int)} (h : Idx w g r ps) : g < w.heap.size := by
  obtain ⟨v, cs, h1, _⟩ := h
  exact blk_lt h1
theorem Idx.rlt {w : World} {g k : Nat} {ps : List (List Int)} (h : Idx w g (some k) ps) : k < w.heap.size := by
  obtain ⟨v, cs, _, h2, h3, _⟩ := h
  exact own_lt h2 k h3
theorem Idx.below {w w' : World} {g : Nat} {r : Option Nat} {ps : List (List Int)} (h : Idx w g r ps) (hb : Below w.heap.size w w') : Idx w' g r ps :=
  h.keep (hb.block g h.lt) (fun k e => by subst e; exact hb.block k h.rlt) (fun k _ hk => hb.block k (blk_lt hk))

/-- The slice of the pieces, laid open: its form, its cells. -/
theorem Idx.open_ {w : World} {g : Nat} {r : Option Nat} {ps : List (List Int)} (h : Idx w g r ps) : ∃ A c, w.cell? ⟨g, 0, none⟩ = some (.slice A ps.length c) ∧ w.cell? ⟨g, 1, none⟩ = some (.int .i64 ((fl ps).length : Int)) ∧ ps.length ≤ 9223372036854775807 ∧
    ∀ (i : Nat) (l : List Int), ps[i]? = some l → ∃ (ad : Addr) (B : Option Addr) (d : Nat), A = some ad ∧ w.cell? (ad.add i) = some (.slice B l.length d) ∧ l.length ≤ d ∧ Kd.C (Kd.int .u8) w B l.length l := by
  obtain ⟨v, cs, h1, h2, h3, h4⟩ := h
  obtain ⟨A, c, rfl⟩ := own_slice h2
  refine ⟨A, c, (blk_cell h1 0).trans rfl, (blk_cell h1 1).trans rfl, ?_, fun i l hi => ?_⟩
  · rcases h2.2 with ⟨_, h0⟩ | ⟨_, _, _, _, _, _, a, b, _⟩
    · omega
    · simp only [maxLen] at b; omega
  · obtain ⟨u, hu, B, d, rfl, hd, hC, hA⟩ := h4 i l hi
    have hi' := (List.getElem?_eq_some_iff.1 hi).1
    obtain ⟨k, cap, hf, _, _⟩ := h2.form (by omega)
    have hc := h2.cells (g := k) (by rw [hf]; rfl) i _ hu
    injection hf with hf1 hf2 hf3
    exact ⟨_, B, d, hf1, hc, hd, hC⟩

end Go.Proofs.Ytfngcabckfmhnaa.B
