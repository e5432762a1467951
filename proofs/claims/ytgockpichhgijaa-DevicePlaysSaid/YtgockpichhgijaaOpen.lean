/- Arguments that came in, as plain words: bytes, numbers. No program in sight. -/
import Derived.Test.YtgockpichhgijaaSlice
import Derived.ProofKit
namespace Go.Proofs.Ytgockpichhgijaa
open Go.ChangeShapes Go.WideShapes Go.ChangeAt Go.RowKit

theorem toNat_u8 {n : Int} (h : (Lit.int .u8 n).wf = true) : ((UInt8.ofNat n.toNat).toNat : Int) = n := by
  simp [Lit.wf, IntKind.min, IntKind.max, IntKind.bits, IntKind.signed] at h
  rw [UInt8.toNat_ofNat']
  omega

section
variable {H : Type} {enc : TypeId × Value → H} {P : Program} {W : World}

theorem addr_cases {x : Addr} {u : Value} (h : W.cell? (x.add 0) = some u) : ∃ B off, x = ⟨B, off, none⟩ := by
  obtain ⟨B, off, sp⟩ := x
  cases sp with
  | none => exact ⟨B, off, rfl⟩
  | some s =>
    exfalso
    unfold World.cell? Addr.add at h
    simp at h
    split at h <;> simp_all

/-- A slice of integers that came in, as cells. -/
theorem open_row {t e : TypeId} {k : IntKind} (ht : P.underlying t = some (.slice e)) (he : P.underlying e = some (.int k)) (hc : P.cellsOf e = 1) {fuel : Nat} {cs : List Value} {x : DataW H × List MemPlace} {sp : Nat → Bool} {b : Nat} (h : DataW.trod enc P W b sp true fuel t cs = some x) :
    ∃ (v : Value) (zs : List Int), cs = [v] ∧ Slc [] W v zs.length (zs.map (Value.int k)) ∧ (∀ n ∈ zs, (Lit.int k n).wf = true) ∧ zs.length ≤ maxLen := by
  rcases open_ints ht he hc h with ⟨hcs, _⟩ | ⟨x, l, c, zs, hcs, _, hl, hm, hz, _, hcell, hwz⟩
  · exact ⟨_, [], hcs, Slc.nil _ _, by simp, Nat.zero_le _⟩
  · have hzl : l ≤ zs.length := by rw [hz]; split <;> omega
    refine ⟨_, zs.take l, hcs, ?_, fun n hn => hwz n (List.mem_of_mem_take hn), by rw [List.length_take]; omega⟩
    have hlen : (zs.take l).length = l := by rw [List.length_take]; omega
    rw [hlen]
    by_cases h0 : l = 0
    · subst h0
      exact .inl ⟨some x, c, rfl, rfl, by simp, fun h => by cases h⟩
    · obtain ⟨B, off, rfl⟩ := addr_cases (hcell 0 (by omega))
      refine .inr ⟨B, off, c, rfl, hl, .inr (by simp), fun i v hv => ?_⟩
      rw [List.getElem?_map, List.getElem?_take] at hv
      split at hv
      · rename_i hi
        have := hcell i (by omega)
        rw [addr_add] at this
        rw [this]
        rw [List.getElem?_eq_getElem (by omega)] at hv
        simp at hv
        rw [← hv]
        simp [List.getD, show i < zs.length from by omega]
      · cases hv

theorem open_bytes {base : Nat} {t e : TypeId} (ht : P.underlying t = some (.slice e)) (he : P.underlying e = some (.int .u8)) (hc : P.cellsOf e = 1) {v : Value} {d : DataW H} {p : List MemPlace}
    (hv : Value.okWide P W .any base t v) (h : DataW.Trod enc P W 0 (fun _ => true) true t v d p) : ∃ l : List UInt8, Bytes [] W v l ∧ l.length ≤ maxLen := by
  obtain ⟨a, len, cap, rfl⟩ := okWide_slice ht hv
  obtain ⟨fuel, hf⟩ := h
  obtain ⟨u, zs, hcs, hs, hw, hm⟩ := open_row ht he hc hf
  obtain rfl : Value.slice a len cap = u := by simpa [Value.cells] using hcs
  refine ⟨zs.map fun n => UInt8.ofNat n.toNat, ?_, by simpa using hm⟩
  unfold Bytes
  rw [List.length_map, List.map_map]
  have : zs.map (byteV ∘ fun n => UInt8.ofNat n.toNat) = zs.map (Value.int .u8) := by
    apply List.map_congr_left
    intro n hn
    simp only [Function.comp, byteV]
    rw [toNat_u8 (hw n hn)]
  rw [this]
  exact hs

theorem open_nums {base : Nat} {t e : TypeId} (ht : P.underlying t = some (.slice e)) (he : P.underlying e = some (.int .i64)) (hc : P.cellsOf e = 1) {v : Value} {d : DataW H} {p : List MemPlace}
    (hv : Value.okWide P W .any base t v) (h : DataW.Trod enc P W 0 (fun _ => true) true t v d p) : ∃ l : List Int, Ints [] W v l ∧ l.length ≤ maxLen := by
  obtain ⟨a, len, cap, rfl⟩ := okWide_slice ht hv
  obtain ⟨fuel, hf⟩ := h
  obtain ⟨u, zs, hcs, hs, hw, hm⟩ := open_row ht he hc hf
  obtain rfl : Value.slice a len cap = u := by simpa [Value.cells] using hcs
  exact ⟨zs, hs, hm⟩
end
end Go.Proofs.Ytgockpichhgijaa
