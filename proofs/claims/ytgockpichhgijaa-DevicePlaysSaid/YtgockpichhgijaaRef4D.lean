/- The document's device: Write. -/
import Derived.Test.YtgockpichhgijaaRef4C
import Derived.Deep.RegionLaw
import Derived.Deep.RegionHeld3
namespace Go.Proofs.Ytgockpichhgijaa
open Go.RowKit Go.MapKept

section
variable {P : Program} {w : World}
theorem step_append_run2 {ops : Array Oper} {o : Oper} {a : Act} {K : Act → World → Prop} {Q : Exit → Act → World → Prop} {E : Prop} (hgd : o.guard = none) (s x : Operand) (t tn : TypeId)
    (ho : o.op = .call { callee := .builtin .append, args := #[s, x], argTypes := #[t, tn] }) {vs vx v' : Value} {w' : World} (hs : a.eval s = vs) (hx : a.eval x = vx)
    (hrun : (Builtin.append_ #[t, tn] o.type #[vs, vx]).run P w = .ok v' w') (h : K (a.put o.dst v') w') :
    if Region.wanted o (yielded ops a.tmps) = true then Oper.wp P o a w K Q else E := by
  rw [if_pos (by simp [Region.wanted, hgd])]
  exact Lib.wp_append_run w s x t tn ho vs vx hs hx v' w' hrun h

theorem run_append_zero0 {base : Nat} {t tn ty e : TypeId} {kn : IntKind} (kq : IntKind) (ht : P.underlying t = some (.slice e)) (htn : P.underlying tn = some (.int kn)) (hi : (P.info? e).map (fun i => (i.zero, i.size, i.bytes)) = some (some (.int .u8 0), 1, 1))
    {v : Value} {n : Nat} {xs : List Value} (hown : w.ownsRow base e 1 v n xs) :
    (Builtin.append_ #[t, tn] ty #[v, .int kq 0]).run P w = .ok v w := by
  obtain ⟨i, hi0, hz, hs, hb⟩ := info_parts hi
  have hw : IntKind.i64.wrap (0 : Int) = 0 := by rw [IntKind.wrap_i64]; omega
  rcases hown.2 with ⟨rfl, _⟩ | ⟨g, cap, cur, rfl, _, _, hnc, _⟩
  · simp [Builtin.append_, run_underlying ht, run_underlying htn, sizeOf, typeInfo, hi0, asInt, asIntOf, hw]
  · simp [Builtin.append_, run_underlying ht, run_underlying htn, sizeOf, typeInfo, hi0, asInt, asIntOf, hw, hnc, storeCells]
end

/-- 'append(append([]byte{}, b...), make([]byte, 1024-len(b))...)'. -/
theorem padded_run {w : World} {v : Value} {l0 : List UInt8} (h0 : l0.length ≤ 1024) (b0 : Bytes [] w v l0) (ty1 ty2 : TypeId) :
    ∃ v1 w2 v2 w3, (Builtin.append_ #[23, 23] ty1 #[.slice (some ⟨w.heap.size, 0, none⟩) 0 0, v]).run Try.prog (w.alloc (.cells #[] 5)) = .ok v1 w2 ∧
      (Builtin.append_ #[23, 3] ty2 #[v1, .int .i64 (1024 - (l0.length : Int))]).run Try.prog w2 = .ok v2 w3 ∧
      (∀ S : List Nat, (∀ x, x ∈ S → x < w.heap.size) → Bytes S w3 v2 (pad l0)) ∧ Fr [] w w2 ∧ Fr [] w w3 := by
  have hown : (w.alloc (.cells #[] 5)).ownsRow w.heap.size 5 1 (.slice (some ⟨w.heap.size, 0, none⟩) 0 0) 0 [] :=
    ⟨rfl, .inr ⟨w.heap.size, 0, #[], rfl, Nat.le_refl _, heap_alloc_new w _, Nat.le_refl _, Nat.zero_le _, rfl, rfl⟩⟩
  obtain ⟨v1, w2, hr1, ho1, hf1, hn1⟩ := run_append_slc (P := Try.prog) (t := 23) (ty := ty1) Try.underlying23 Try.info5 rfl (by decide) hown (b0.kept (Fr.alloc1 _ _)) (by simp) (bytes_one l0) (by unfold maxLen; omega) (by omega) (by simp)
  rw [Nat.zero_add, List.nil_append] at ho1
  have hfa : Fr [] w w2 := (Fr.alloc1 w _).andThen hf1 (by simp [Value.ownBlock])
  have key : ∃ v2 w3, (Builtin.append_ #[23, 3] ty2 #[v1, .int .i64 (1024 - (l0.length : Int))]).run Try.prog w2 = .ok v2 w3 ∧ w3.ownsRow w.heap.size 5 1 v2 1024 (l0.map byteV ++ List.replicate (1024 - l0.length) (.int .u8 0)) ∧ Fr v1.ownBlock.toList w2 w3 := by
    by_cases h1 : l0.length = 1024
    · have hr2 := run_append_zero0 (P := Try.prog) (t := 23) (tn := 3) (ty := ty2) .i64 Try.underlying23 Try.underlying3 Try.info5 ho1
      refine ⟨v1, w2, ?_, ?_, Fr.refl _ _⟩
      · rw [h1]; exact hr2
      · rw [h1] at ho1
        rw [h1]
        simpa using ho1
    · obtain ⟨g, cap, w3, hr2, ho2, hf2⟩ := run_append_zeros (P := Try.prog) (t := 23) (tn := 3) (ty := ty2) .i64 Try.underlying23 Try.underlying3 Try.info5 ho1 (1024 - l0.length) (by omega) (by unfold maxLen; omega) (by omega) (by have := hf1.size; simp at this; omega)
      have e1 : l0.length + (1024 - l0.length) = 1024 := by omega
      have e2 : ((1024 - l0.length : Nat) : Int) = 1024 - (l0.length : Int) := by omega
      rw [e1] at ho2 hr2
      rw [e2] at hr2
      exact ⟨_, w3, hr2, ho2, hf2⟩
  obtain ⟨v2, w3, hr2, ho2, hf2⟩ := key
  refine ⟨v1, w2, v2, w3, hr1, hr2, fun S hS => ?_, hfa, hfa.andThen hf2 (fun x hx => .inr ?_)⟩
  · have := Slc.ofOwns (S := S) ho2 hS
    unfold Bytes
    rw [pad_length h0]
    unfold pad
    rw [List.map_append, List.map_replicate]
    exact this
  · cases hb : v1.ownBlock with
    | none => rw [hb] at hx; cases hx
    | some g => rw [hb] at hx; simp at hx; rw [hx]; exact (ho1.lt g hb).1

/-- A sector is written: its content, and that it is held. -/
theorem RefAt.wrote {w w3 : World} {r LB CB IB : Nat} {D : Dv} (h : RefAt w r LB CB IB D) {k : Nat} (hk : k < D.n) {v : Value} {l : List UInt8} (hf : Fr [] w w3) (hv : ∀ S : List Nat, (∀ x, x ∈ S → x < w.heap.size) → Bytes S w3 v l) (hl : l.length = 1024) :
    RefAt ((w3.setCell ⟨CB, k, none⟩ v).setCell ⟨IB, k, none⟩ (.bool true)) r LB CB IB { D with cache := upd D.cache k (some l) } ∧ Fr [CB, IB] w ((w3.setCell ⟨CB, k, none⟩ v).setCell ⟨IB, k, none⟩ (.bool true)) := by
  have h3 := h.kept hf
  obtain ⟨n1, n2, n3, n4, n5, n6⟩ := h.nes
  have hlt := h.lt
  have hv3 := hv [r, LB, CB, IB] (by intro x hx; simp only [List.mem_cons, List.not_mem_nil, or_false] at hx; omega)
  obtain ⟨left, h1, h1'⟩ := h3.blk
  obtain ⟨VL, h2, h2'⟩ := h3.lastB
  obtain ⟨VC, h4, h4'⟩ := h3.cacheB
  have hf1 := Fr.setCell w3 ⟨CB, k, none⟩ v
  have hf2 := Fr.setCell (w3.setCell ⟨CB, k, none⟩ v) ⟨IB, k, none⟩ (.bool true)
  have hfr : Fr [CB, IB] w3 ((w3.setCell ⟨CB, k, none⟩ v).setCell ⟨IB, k, none⟩ (.bool true)) := (hf1.mono (by simp)).trans (hf2.mono (by simp))
  have hC := hf2.heap (blk_set h4 k v) (by simp; omega)
  have hI := blk_set (hf1.heap h3.isB (by simp; omega)) k (.bool true)
  rw [rowOf_set] at hC hI
  refine ⟨⟨⟨left, hfr.heap h1 (by simp; omega), h1'⟩, ⟨VL, hfr.heap h2 (by simp; omega), fun i hi => (h2' i hi).kept (hfr.mono (by simp))⟩, ⟨_, hC, fun i l' hi hl' => ?_⟩, ?_, h.ne, ⟨h.fine.n2, h.fine.n4, h.fine.keysL, upd_keys h.fine.keysC (by omega) (by omega) hl, h.fine.fuse1, h.fine.fuse2⟩, fun i hi => ?_⟩, (hf.nil (S := [CB, IB])).trans hfr⟩
  · by_cases e : i = k
    · subst e
      rw [if_pos rfl]
      simp only [upd_same] at hl'
      cases hl'
      exact hv3.kept (hfr.mono (by simp))
    · rw [if_neg e]
      simp only [] at hl'
      rw [upd_ne _ _ (by omega)] at hl'
      exact (h4' i l' hi hl').kept (hfr.mono (by simp))
  · rw [hI]
    congr 2
    refine rowOf_congr (fun i hi => ?_)
    by_cases e : i = k
    · subst e; simp [upd_same]
    · rw [if_neg e]
      simp only []
      rw [upd_ne _ _ (by omega)]
  · rw [blk_cell hC, rowOf_get hi]
    by_cases e : i = k
    · rw [if_pos e]
      obtain ⟨a, c, rfl, _⟩ := Slc.form hv3
      exact ⟨a, _, c, rfl⟩
    · rw [if_neg e]
      obtain ⟨a, x, y, hc⟩ := h3.cacheS i hi
      rw [blk_cell h4, rowOf_get hi] at hc
      exact ⟨a, x, y, hc⟩
end Go.Proofs.Ytgockpichhgijaa
