/- The document's device: Cached and Lasting. -/
import Derived.Test.YtgockpichhgijaaRef4G
namespace Go.Proofs.Ytgockpichhgijaa
open Go.RowKit Go.MapKept

/-- What is listed of the sectors below k. -/
def listed (z : Bool) (g : Int → Option (List UInt8)) (k : Nat) : List (Int × List UInt8) := (upto k).filterMap (keepSel z g)
theorem listed_succ (z : Bool) (g : Int → Option (List UInt8)) (k : Nat) : listed z g (k + 1) = listed z g k ++ (match keepSel z g k with | some t => [t] | none => []) := by
  unfold listed
  rw [upto_succ, List.filterMap_append]
  cases h : keepSel z g k <;> simp [h]
theorem listed_all (z : Bool) (n : Nat) (g : Int → Option (List UInt8)) : listed z g n = keptL z n g := by
  unfold listed keptL keysOf upto
  generalize (List.range n).map Int.ofNat = K
  induction K with
  | nil => rfl
  | cons k K ih =>
    cases h : g k with
    | none =>
      have e : keepSel z g k = none := by unfold keepSel; rw [h]
      rw [List.filterMap_cons_none e, List.filter_cons_of_neg (by simp [h]), ih]
    | some l =>
      rw [List.filter_cons_of_pos (by simp [h]), List.filterMap_cons, List.filterMap_cons, ih]
theorem listed_length (z : Bool) (g : Int → Option (List UInt8)) (k : Nat) : (listed z g k).length ≤ k := by
  unfold listed
  exact Nat.le_trans (List.length_filterMap_le _ _) (by unfold upto; simp)

structure RIn (w wr : World) (z : Bool) (g : Int → Option (List UInt8)) (k : Nat) (v : Value) (T : List KT) : Prop where
  row : wr.ownsRow w.heap.size 53 2 v T.length (ktCells T)
  is : ktL T = listed z g k
  each : ∀ t ∈ T, Bytes [] w t.2.1 t.2.2
  fr : Fr [] w wr
theorem RIn.len {w wr : World} {z : Bool} {g : Int → Option (List UInt8)} {k : Nat} {v : Value} {T : List KT} (h : RIn w wr z g k v T) : T.length ≤ k := by
  have := listed_length z g k
  rw [← h.is] at this
  simpa [ktL] using this
theorem RIn.skip {w wr : World} {z : Bool} {g : Int → Option (List UInt8)} {k : Nat} {v : Value} {T : List KT} (h : RIn w wr z g k v T) (hs : keepSel z g k = none) : RIn w wr z g (k + 1) v T :=
  ⟨h.row, by rw [h.is, listed_succ, hs]; simp, h.each, h.fr⟩
theorem RIn.end {w wr : World} {z : Bool} {g : Int → Option (List UInt8)} {n : Nat} {v : Value} {T : List KT} (h : RIn w wr z g n v T) : Kepts [] wr v (keptL z n g) :=
  ⟨T, by rw [h.is, listed_all], Slc.ofOwns h.row (by simp), fun t ht => (h.each t ht).kept h.fr⟩
/-- A round that adds an entry. -/
theorem RIn.add {w wr : World} {z : Bool} {g : Int → Option (List UInt8)} {k : Nat} {v : Value} {T : List KT} (h : RIn w wr z g k v T) (hk : k ≤ 4096) {x : Value} {l : List UInt8} (hx : Bytes [] w x l) (h1 : x.oneCell' = true) (hs : keepSel z g k = some ((k : Int), l)) (ty ty2 : TypeId) :
    ∃ v' w5, (Builtin.append_ #[37, 37] ty #[v, .slice (some ⟨wr.heap.size, 0, none⟩) 1 1]).run Try.prog (wr.alloc (.cells #[.int .i64 (k : Int), x] ty2)) = .ok v' w5 ∧ RIn w w5 z g (k + 1) v' (T ++ [((k : Int), x, l)]) := by
  have hl := h.len
  have hrow := ownsKept h.row (Fr.alloc1 wr (.cells #[.int .i64 (k : Int), x] ty2)) (by simp)
  have hnew : Slc [] (wr.alloc (.cells #[.int .i64 (k : Int), x] ty2)) (.slice (some ⟨wr.heap.size, 0, none⟩) 1 1) 1 [.int .i64 (k : Int), x] := Slc.ofBlock (blk_new wr _) (by simp) 1 1 (Nat.le_refl _)
  obtain ⟨v', w5, hap, hrow5, hf5, _⟩ := run_append_slc (P := Try.prog) (t := 37) (ty := ty) Try.underlying37 Try.infoKept rfl (by decide) hrow hnew (by simp) (by intro u hu; simp only [List.mem_cons, List.not_mem_nil, or_false] at hu; rcases hu with rfl | rfl; rfl; exact h1) (by unfold maxLen; omega) (by omega) (by have := h.fr.size; simp; omega)
  refine ⟨v', w5, hap, ?_, ?_, ?_, ?_⟩
  · rw [List.length_append, ktCells_snoc]; exact hrow5
  · rw [ktL_snoc, h.is, listed_succ, hs]
  · intro t ht
    rcases List.mem_append.1 ht with ht | ht
    · exact h.each t ht
    · rw [List.mem_singleton.1 ht]; exact hx
  · refine (h.fr.trans (Fr.alloc1 wr _)).andThen hf5 (fun y hy => .inr ?_)
    cases hb : v.ownBlock with
    | none => rw [hb] at hy; cases hy
    | some b => rw [hb] at hy; simp at hy; rw [hy]; exact (h.row.lt b hb).1
end Go.Proofs.Ytgockpichhgijaa
