/- Slices of bytes, cut; what the document's device makes of a torn sector. -/
import Derived.Test.YtgockpichhgijaaRef4L
namespace Go.Proofs.Ytgockpichhgijaa
open Go.RowKit Go.MapKept

section
variable {P : Program} {w : World}
theorem step_slice_run {ops : Array Oper} {o : Oper} {a : Act} {K : Act → World → Prop} {Q : Exit → Act → World → Prop} {E : Prop} (hgd : o.guard = none) (t : TypeId) (x : Operand) (lo hi mx : Option Operand)
    (ho : o.op = .slice t x lo hi mx) {vx v' : Value} {vlo vhi vmx : Option Value} (hx : a.eval x = vx) (hlo : lo.map a.eval = vlo) (hhi : hi.map a.eval = vhi) (hmx : mx.map a.eval = vmx)
    (hrun : ∀ w, (Instr.sliceAt t vx vlo vhi vmx).run P w = .ok v' w) (h : K (a.put o.dst v') w) :
    if Region.wanted o (yielded ops a.tmps) = true then Oper.wp P o a w K Q else E := by
  rw [if_pos (by simp [Region.wanted, hgd])]
  subst hx hlo hhi hmx
  unfold Oper.wp execOp
  simp only [ho, Sem.run_bind, Sem.run_pure, hrun]
  exact h
end

/-- A load by another name: go_region_held3 then branches over it, and asks no cell of it. -/
def ldOp (t : TypeId) (n : Nat) : Op := .load t (.tmp n)

theorem Try.elemU : Try.prog.underlying 23 = some (.slice (Try.prog.elem 23)) := by kernel_rfl
theorem Try.elem5 : Try.prog.elem 23 = 5 := by kernel_rfl
theorem run_size5 (w : World) : (sizeOf (Try.prog.elem 23)).run Try.prog w = .ok 1 w := by
  rw [Try.elem5]
  cases hi : Try.prog.info? 5 with
  | none => have := Try.size5; rw [hi] at this; cases this
  | some i =>
    have h5 := Try.size5
    rw [hi] at h5
    simp only [Option.map_some, Option.some.injEq] at h5
    simp [sizeOf, typeInfo, hi, h5]

theorem slice_hi {S : List Nat} {w : World} {v : Value} {l : List UInt8} (h : Bytes S w v l) (hl : l.length = 1024) {c : Nat} (hc : c ≤ 1024) :
    ∃ v', (∀ w, (Instr.sliceAt 23 v none (some (.int .i64 c)) none).run Try.prog w = .ok v' w) ∧ Bytes S w v' (l.take c) := by
  rcases h with ⟨_, _, _, h0, _⟩ | ⟨B, off, cap, rfl, hcap, hr⟩
  · omega
  · refine ⟨_, fun w => ?_, Bytes.take (k := c) (.inr ⟨B, off, cap, rfl, hcap, hr⟩) (by omega)⟩
    rw [run_sliceAt_slice _ _ _ _ _ _ Try.elemU, run_slice_h _ _ _ _ _ Try.elemU .i64 c (by omega) (by omega), run_size5]
    simp [Result.andThen, sliced, addr_add]

theorem slice_lo {S : List Nat} {w : World} {v : Value} {l : List UInt8} (h : Bytes S w v l) (hl : l.length = 1024) {c : Nat} (hc : c ≤ 1024) :
    ∃ v', (∀ w, (Instr.sliceAt 23 v (some (.int .i64 c)) none none).run Try.prog w = .ok v' w) ∧ Bytes S w v' (l.drop c) := by
  rcases h with ⟨_, _, _, h0, _⟩ | ⟨B, off, cap, rfl, hcap, hr⟩
  · omega
  · have hb := Bytes.drop (k := c) (n := l.length) (.inr ⟨B, off, cap, rfl, hcap, hr⟩) (by omega)
    by_cases hcc : cap = c
    · refine ⟨.slice (some ⟨B, off, none⟩) (l.length - c) (cap - c), fun w => ?_, ?_⟩
      · rw [run_sliceAt_slice _ _ _ _ _ _ Try.elemU, run_slice_l _ _ _ _ _ Try.elemU .i64 c (by omega) (by omega), run_size5]
        simp [Result.andThen, sliced, hcc]
      · rw [List.drop_of_length_le (by omega), show l.length - c = 0 by omega, show cap - c = 0 by omega]
        exact .inl ⟨_, _, rfl, rfl, rfl, fun h => by cases h⟩
    · refine ⟨_, fun w => ?_, hb⟩
      rw [run_sliceAt_slice _ _ _ _ _ _ Try.elemU, run_slice_l _ _ _ _ _ Try.elemU .i64 c (by omega) (by omega), run_size5]
      simp [Result.andThen, sliced, addr_add, hcc]
end Go.Proofs.Ytgockpichhgijaa
