/- Small laws of numbers, of updated functions and of lists of sectors. -/
import Derived.Test.YtgockpichhgijaaCalm
import Derived.Test.YtgockpichhgijaaAwk4
import Derived.Test.YtgockpichhgijaaOpen
namespace Go.Proofs.Ytgockpichhgijaa
open Go.RowKit Go.MapKept

theorem u8_bd {a : Int} (h : (Lit.int .u8 a).wf = true) : 0 ≤ a ∧ a ≤ 255 := by
  simp [Lit.wf, IntKind.min, IntKind.max, IntKind.bits, IntKind.signed] at h; omega
theorem i64_bd {a : Int} (h : (Lit.int .i64 a).wf = true) : -9223372036854775808 ≤ a ∧ a ≤ 9223372036854775807 := by
  simp [Lit.wf, IntKind.min, IntKind.max, IntKind.bits, IntKind.signed] at h; omega

theorem upd_comm {κ α : Type} [DecidableEq κ] (f : κ → Option α) {x y : κ} (h : x ≠ y) (a c : Option α) : upd (upd f x a) y c = upd (upd f y c) x a := by
  funext k
  unfold upd
  by_cases h1 : k = y
  · subst h1
    rw [if_pos rfl, if_neg (fun e => h e.symm), if_pos rfl]
  · rw [if_neg h1, if_neg h1]
theorem upd_upd {κ α : Type} [DecidableEq κ] (f : κ → Option α) (x : κ) (a c : Option α) : upd (upd f x a) x c = upd f x c := by
  funext k; unfold upd; by_cases h : k = x <;> simp [h]

theorem keptL_length (z : Bool) (n : Nat) (g : Int → Option (List UInt8)) (hn : n ≤ 4096) : (keptL z n g).length ≤ 4096 := by
  unfold keptL
  exact Nat.le_trans (List.length_filterMap_le _ _) (Nat.le_trans (keysOf_length n g) hn)
theorem cachedL_none {D : Dv} (h : ∀ k, D.cache k = none) : cachedL D = [] := by
  unfold cachedL keptL keysOf
  have : ∀ k : Int, (D.cache k).isSome = false := fun k => by rw [h k]; rfl
  simp [this]

theorem bytes_joined (D : Dv) (y : Int) : Dv.bytes { D with last := joinM D.cache D.last, cache := fun _ => none } y = D.bytes y := by
  unfold Dv.bytes joinM
  cases h : D.cache y <;> simp [h]

/-- What DeviceOrder's last lines ask of a device whose writes are all in its cache. -/
theorem order_plain {C : Int → Option (List UInt8)} {y : Int} (hy : 0 ≤ y ∧ y < 8) {l : List UInt8} (hc : C y = some (pad l)) :
    ∃ D E : Dv, ({ n := 8, last := fun _ => none, cache := C, off := false, fuse := -1 } : Dv) = D ∧ syncE D = 0 ∧ syncD D = E ∧ useE E y 0 = 0 ∧ E.bytes y = pad l ∧ (cachedL E).length = 0 ∧ (lastingL E).length ≤ 4096 := by
  have hcalm : Calm ({ n := 8, last := fun _ => none, cache := C, off := false, fuse := -1 } : Dv) := ⟨rfl, rfl⟩
  have q := hcalm.sync
  refine ⟨_, _, rfl, q.1, q.2.1, q.2.2.useE hy.1 hy.2 (by omega), ?_, ?_, ?_⟩
  · refine (bytes_joined _ y).trans ?_
    unfold Dv.bytes
    show (C y).getD _ = _
    rw [hc]
    rfl
  · rw [cachedL_none (fun _ => rfl)]; rfl
  · unfold lastingL
    exact keptL_length _ _ _ (by show (8 : Nat) ≤ 4096; omega)
end Go.Proofs.Ytgockpichhgijaa
