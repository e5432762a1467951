/- a part. -/
import Derived.Test.YtgpohemcfgepeaaGreatG1
import Derived.IntWalk
import Derived.Lib.SliceRun
import Derived.Lib.Hide
import Derived.Lib.AppendZerosOnto
import Derived.StillTailTactics
import Derived.BigRegion
import Derived.Deep.CutRange
import Derived.Deep.RegionHeld3
namespace Go.Proofs.YtgpohemcfgepeaaGreat
open Go.RowKit
theorem Tryz.info3i : (Tryz.prog.info? 3).map (fun i => (i.zero, i.size, i.bytes)) = some (some (.int .i64 0), 1, 8) := by kernel_rfl
def NewI (w w' : World) (v : Value) (l : List Int) : Prop := ∀ S : List Nat, (∀ x, x ∈ S → x < w.heap.size) → Ints S w' v l
theorem NewI.form {w w' : World} {v : Value} {l : List Int} (h : NewI w w' v l) : ∃ a c, v = .slice a l.length c ∧ l.length ≤ c := Slc.form (h [] (by simp))
theorem ints_own {w w2 : World} {base : Nat} {v : Value} {l : List Int} (h : w2.ownsRow base 3 1 v l.length (l.map intV)) (hb : w.heap.size ≤ base) : NewI w w2 v l := fun S hS =>
  Slc.ofOwns (S := S) h (fun x hx => Nat.lt_of_lt_of_le (hS x hx) hb)
set_option maxRecDepth 100000 in
set_option maxHeartbeats 1000000 in
theorem clone_k {S : List Nat} {v : Value} {l : List Int} (w : World) (h : Ints S w v l) (hl : l.length ≤ 1048576) :
    Calls Tryz.prog 110 #[v] w fun e w' => ∃ v', e = .returned v' ∧ NewI w w' v' l ∧ Fr [] w w' := by
  obtain ⟨a, c, rfl, _⟩ := Slc.form h
  have hown : (w.alloc (.cells #[] 3)).ownsRow w.heap.size 3 1 (.slice (some ⟨w.heap.size, 0, none⟩) 0 0) 0 [] :=
    ⟨rfl, .inr ⟨w.heap.size, 0, #[], rfl, Nat.le_refl _, heap_alloc_new w _, Nat.le_refl _, Nat.zero_le _, rfl, rfl⟩⟩
  obtain ⟨v1, w2, hr1, ho1, hf1, hn1⟩ := run_append_slc (P := Tryz.prog) (t := 70) (ty := 70) Tryz.underlying70 Tryz.info3i rfl (by decide) hown (Ints.kept (h.mono (S' := []) (by simp)) (Fr.alloc1 w _)) (by simp) (ints_one l) (by unfold maxLen; omega) (by omega) (by simp)
  rw [Nat.zero_add, List.nil_append] at ho1
  have hfa : Fr [] w w2 := (Fr.alloc1 w _).andThen hf1 (by simp [Value.ownBlock])
  have HLL := Lib.hid hl
  clear hl
  have HR := Lib.hid hr1
  have hni := fun w => Lib.run_eql_slice_nil (P := Tryz.prog) w 70 3 a l.length c 0 0 Tryz.underlying70
  have HN := Lib.hid (And.intro (ints_own (w := w) ho1 (Nat.le_refl _)) hfa)
  cases a with
  | none =>
    have hl0 : l.length = 0 ∧ c = 0 := by
      rcases h with ⟨a, c', h, h0, _, hc⟩ | ⟨B, off, cap, h, _⟩
      · simp only [Value.slice.injEq] at h; obtain ⟨rfl, _, rfl⟩ := h; exact ⟨h0, hc rfl⟩
      · simp at h
    have HL := Lib.hid hl0
    obtain rfl : l = [] := List.eq_nil_of_length_eq_zero hl0.1
    obtain rfl : c = 0 := hl0.2
    simp only [List.length_nil, Option.isNone_none] at hni
    clear h hown hr1 ho1 hf1 hn1 hfa hl0
    go_enter Tryz.func110, Tryz.ntmps110
    go_wp2
    go_ret
    exact ⟨_, rfl, fun S _ => Slc.nil S w, Fr.refl _ _⟩
  | some a =>
    clear h hown hr1 ho1 hf1 hn1 hfa
    go_enter Tryz.func110, Tryz.ntmps110
    go_wp2_with (at_builtin; refine wpList_append_run rfl _ _ _ rfl HR.out ?_)
    go_ret
    exact ⟨_, rfl, HN.out⟩
def fidxI (p : Int → Bool) (l : List Int) : Int := match l.findIdx? p with | some i => (i : Int) | none => -1
theorem fidx_at {p : Int → Bool} {l : List Int} {k : Nat} (hk : k < l.length) (hp : p l[k] = true) (hn : ∀ x ∈ l.take k, p x = false) : fidxI p l = (k : Int) := by
  have h : l.findIdx? p = some k := by
    rw [List.findIdx?_eq_some_iff_getElem]
    refine ⟨hk, hp, fun j hj => ?_⟩
    have := hn l[j] (by rw [List.mem_take_iff_getElem]; exact ⟨j, by omega, rfl⟩)
    simp [this]
  unfold fidxI
  rw [h]
theorem fidx_none {p : Int → Bool} {l : List Int} (hn : ∀ x ∈ l, p x = false) : fidxI p l = -1 := by
  have h : l.findIdx? p = none := by rw [List.findIdx?_eq_none_iff]; exact hn
  unfold fidxI
  rw [h]
theorem fidx_pos {p : Int → Bool} {l : List Int} : 0 ≤ fidxI p l ↔ l.any p = true := by
  unfold fidxI
  cases h : l.findIdx? p with
  | none =>
    rw [List.findIdx?_eq_none_iff] at h
    simp only [List.any_eq_true]
    constructor
    · intro h; omega
    · rintro ⟨x, hx, hp⟩; rw [h x hx] at hp; cases hp
  | some i =>
    rw [List.findIdx?_eq_some_iff_getElem] at h
    obtain ⟨hi, hp, _⟩ := h
    simp only [List.any_eq_true]
    exact ⟨fun _ => ⟨l[i], List.getElem_mem hi, hp⟩, fun _ => by omega⟩
theorem take_snoc {p : Int → Bool} {l : List Int} {k : Nat} (hk : k < l.length) (hp : p l[k] = false) (hn : ∀ x ∈ l.take k, p x = false) : ∀ x ∈ l.take (k + 1), p x = false := by
  intro x hx
  rw [List.take_succ_eq_append_getElem hk] at hx
  rcases List.mem_append.1 hx with h | h
  · exact hn x h
  · rw [List.mem_singleton.1 h]; exact hp
theorem idx_k {S : List Nat} {v : Value} {l : List Int} (n : Int) (w : World) (h : Ints S w v l) (hl : l.length ≤ 1048576) :
    Calls Tryz.prog 114 #[v, .int .i64 n] w fun e w' => e = .returned (.int .i64 (fidxI (fun x => n == x) l)) ∧ w = w' := by
  obtain ⟨a, c, rfl, _⟩ := Slc.form h
  have HH := Lib.hid h
  clear h
  go_enter Tryz.func114, Tryz.ntmps114
  go_wp2_with fail
  go_loopw [8] (fun i wr => ∃ k : Nat, k ≤ l.length ∧ i = .int .i64 k ∧ w = wr ∧ Hid (∀ x ∈ l.take k, (n == x) = false)) (fun i _ => l.length - (intOf i).toNat)
  case atStart => exact ⟨0, Nat.zero_le _, rfl, rfl, Lib.hid (by simp)⟩
  case round =>
    obtain ⟨k, hkl, rfl, rfl, HN⟩ := hrel
    by_cases hlt : k < l.length
    · have hkI : (k : Int) < (l.length : Int) := by omega
      obtain ⟨B, off, rfl⟩ : ∃ B off, a = some ⟨B, off, none⟩ := by
        rcases HH.out with ⟨_, _, _, h0, _⟩ | ⟨B, off, cap, h, _⟩
        · omega
        · cases h; exact ⟨B, off, rfl⟩
      have hc := HH.out.at hlt
      by_cases he : n = l[k]
      · have HR := Lib.hid (fidx_at (p := fun x => n == x) hlt (by simpa using he) HN.out)
        rw [← he] at hc
        clear he
        go_wp2
        go_ret
        exact ⟨by rw [HR.out]; rfl, rfl⟩
      · have HN2 := Lib.hid (take_snoc (p := fun x => n == x) hlt (by simpa using he) HN.out)
        generalize l[k] = x at *
        go_wp2
        go_roundw
        case rel => exact ⟨k + 1, by omega, by go_num, trivial, HN2⟩
        case measure => simp [intOf]; omega
    · have hkI : ¬ (k : Int) < (l.length : Int) := by omega
      have HR : Hid (fidxI (fun x => n == x) l = -1) := Lib.hid (fidx_none (by have := HN.out; rw [List.take_of_length_le (by omega)] at this; exact this))
      go_wp2
      go_ret
      exact ⟨by rw [HR.out]; rfl, rfl⟩
theorem contains_k {S : List Nat} {v : Value} {l : List Int} {b : Bool} (n : Int) (w : World) (h : Ints S w v l) (hl : l.length ≤ 1048576) (hb : decide (n ∈ l) = b) :
    Calls Tryz.prog 74 #[v, .int .i64 n] w fun e w' => e = .returned (.bool b) ∧ w = w' := by
  have hq : decide (0 ≤ fidxI (fun x => n == x) l) = b := by
    rw [← hb]
    have := @fidx_pos (fun x => n == x) l
    by_cases hm : n ∈ l
    · rw [decide_eq_true hm, decide_eq_true (this.2 (List.any_eq_true.2 ⟨n, hm, by simp⟩))]
    · rw [decide_eq_false hm, decide_eq_false (fun h0 => hm (by obtain ⟨x, hx, hp⟩ := List.any_eq_true.1 (this.1 h0); simp only [beq_iff_eq] at hp; rw [hp]; exact hx))]
  have HB := Lib.hid hq
  clear hq
  go_enter Tryz.func74, Tryz.ntmps74
  go_wp2_with fail
  refine (idx_k n _ h hl).mono ?_
  rintro e w' ⟨rfl, rfl⟩
  clear h hb hl
  generalize fidxI (fun x => n == x) l = i at *
  go_wp2
  go_ret
  exact ⟨by rw [← HB.out]; rfl, rfl⟩
set_option maxRecDepth 100000 in
set_option maxHeartbeats 1000000 in
theorem fidx_k {S : List Nat} {v : Value} {l : List Int} (F : Nat) (caps : Array Value) (p : Int → Bool) (w : World) (h : Ints S w v l) (hl : l.length ≤ 1048576) (hF : ∀ args w, (callFunc F args).run Tryz.prog w = .ok (.enter F args) w)
    (hp : ∀ n, n ∈ l → Calls Tryz.prog F (#[.int .i64 n] ++ caps) w fun e w' => e = .returned (.bool (p n)) ∧ w = w') :
    Calls Tryz.prog 117 #[v, .func (.func F) #[] caps] w fun e w' => e = .returned (.int .i64 (fidxI p l)) ∧ w = w' := by
  obtain ⟨a, c, rfl, _⟩ := Slc.form h
  have HH := Lib.hid h
  have HP := Lib.hid hp
  clear h hp
  go_enter Tryz.func117, Tryz.ntmps117
  go_wp2_with fail
  go_loopw [8] (fun i wr => ∃ k : Nat, k ≤ l.length ∧ i = .int .i64 k ∧ w = wr ∧ Hid (∀ x ∈ l.take k, p x = false)) (fun i _ => l.length - (intOf i).toNat)
  case atStart => exact ⟨0, Nat.zero_le _, rfl, rfl, Lib.hid (by simp)⟩
  case round =>
    obtain ⟨k, hkl, rfl, rfl, HN⟩ := hrel
    by_cases hlt : k < l.length
    · have hkI : (k : Int) < (l.length : Int) := by omega
      obtain ⟨B, off, rfl⟩ : ∃ B off, a = some ⟨B, off, none⟩ := by
        rcases HH.out with ⟨_, _, _, h0, _⟩ | ⟨B, off, cap, h, _⟩
        · omega
        · cases h; exact ⟨B, off, rfl⟩
      have hc := HH.out.at hlt
      have HC := Lib.hid (HP.out l[k] (List.getElem_mem hlt))
      by_cases he : p l[k] = true
      · have HR := Lib.hid (fidx_at hlt he HN.out)
        rw [he] at HC
        generalize l[k] = x at *
        clear he
        go_wp2_with fail
        refine HC.out.mono ?_
        rintro e w' ⟨rfl, rfl⟩
        go_wp2
        go_ret
        exact ⟨by rw [HR.out]; rfl, rfl⟩
      · have he' : p l[k] = false := by simpa using he
        have HN2 := Lib.hid (take_snoc hlt he' HN.out)
        rw [he'] at HC
        generalize l[k] = x at *
        clear he he'
        go_wp2_with fail
        refine HC.out.mono ?_
        rintro e w' ⟨rfl, rfl⟩
        go_wp2
        go_roundw
        case rel => exact ⟨k + 1, by omega, by go_num, trivial, HN2⟩
        case measure => simp [intOf]; omega
    · have hkI : ¬ (k : Int) < (l.length : Int) := by omega
      have HR : Hid (fidxI p l = -1) := Lib.hid (fidx_none (by have := HN.out; rw [List.take_of_length_le (by omega)] at this; exact this))
      go_wp2
      go_ret
      exact ⟨by rw [HR.out]; rfl, rfl⟩
theorem containsFn_k {S : List Nat} {v : Value} {l : List Int} {b : Bool} (F : Nat) (caps : Array Value) (p : Int → Bool) (w : World) (h : Ints S w v l) (hl : l.length ≤ 1048576) (hF : ∀ args w, (callFunc F args).run Tryz.prog w = .ok (.enter F args) w)
    (hp : ∀ n, n ∈ l → Calls Tryz.prog F (#[.int .i64 n] ++ caps) w fun e w' => e = .returned (.bool (p n)) ∧ w = w') (hb : l.any p = b) :
    Calls Tryz.prog 78 #[v, .func (.func F) #[] caps] w fun e w' => e = .returned (.bool b) ∧ w = w' := by
  have hq : decide (0 ≤ fidxI p l) = b := by
    rw [← hb]
    have := @fidx_pos p l
    cases hm : l.any p with
    | true => exact decide_eq_true (this.2 hm)
    | false => exact decide_eq_false (fun h0 => by rw [this.1 h0] at hm; cases hm)
  have HB := Lib.hid hq
  clear hq
  have HC := Lib.hid (fidx_k F caps p w h hl hF hp)
  clear h hl hF hp hb
  go_enter Tryz.func78, Tryz.ntmps78
  go_wp2_with fail
  refine HC.out.mono ?_
  rintro e w' ⟨rfl, rfl⟩
  generalize fidxI p l = i at *
  go_wp2
  go_ret
  exact ⟨by rw [← HB.out]; rfl, rfl⟩
end Go.Proofs.YtgpohemcfgepeaaGreat

namespace Go.Proofs.YtgpohemcfgepeaaGreat
open Go.RowKit Go.MapKept
theorem wpList_append_run2 {P : Program} {w : World} {ops : Array Oper} {rest : List Oper} {o : Oper} {a : Act} {Q : Exit → Act → World → Prop} (hgd : o.guard = none) (s x : Operand) (t tn : TypeId)
    (ho : o.op = .call { callee := .builtin .append, args := #[s, x], argTypes := #[t, tn] }) {v' : Value} {w' : World}
    (hrun : (Builtin.append_ #[t, tn] o.type #[a.eval s, a.eval x]).run P w = .ok v' w') (h : wpList P ops Q rest (a.put o.dst v') w') : wpList P ops Q (o :: rest) a w :=
  wpList_plain hgd fun _ hK => Lib.wp_append_run w s x t tn ho _ _ rfl rfl v' w' hrun (hK _ _ h)
theorem append_nil_zeros {w : World} {ty : TypeId} (k : Nat) (h0 : 0 < k) (hk : k ≤ 1048576) :
    ∃ g cap w', (Builtin.append_ #[70, 3] ty #[.slice none 0 0, .int .i64 k]).run Tryz.prog w = .ok (.slice (some ⟨g, 0, none⟩) k cap) w' ∧
      w'.ownsRow w.heap.size 3 1 (.slice (some ⟨g, 0, none⟩) 0 cap) 0 [] ∧ Fr [] w w' := by
  obtain ⟨i, hi0, hz, hs, hb⟩ := info_parts Tryz.info3i
  have hr := Lib.run_append_nil_zeros (P := Tryz.prog) w 70 3 ty 3 i (.int .i64 0) .i64 .i64 Tryz.underlying70 Tryz.underlying3 hi0 hz k h0 (by omega) (by omega) (by rw [hb]; omega)
  refine ⟨_, _, _, hr, ⟨rfl, .inr ⟨_, _, _, rfl, Nat.le_refl _, heap_alloc_new w.drew _, Nat.zero_le _, grownCap_le_maxLen w k 0 3 (by unfold maxLen; omega), ?_, by simp⟩⟩, ?_⟩
  · have hge := grownCap_ge w k 0 3
    simp [Builtin.zeroCells, Value.cells]
    omega
  · exact (Fr.alloc1 w.drew _).ofDrew
set_option maxRecDepth 100000 in
theorem grow_k (n : Nat) (w : World) (hn : n ≤ 1048576) :
    Calls Tryz.prog 120 #[.slice none 0 0, .int .i64 n] w fun e w' => ∃ v, e = .returned v ∧ w'.ownsRow w.heap.size 3 1 v 0 [] ∧ Fr [] w w' := by
  by_cases h0 : n = 0
  · subst h0
    have HX := Lib.hid (World.ownsRow_nil w w.heap.size 3 1)
    go_enter Tryz.func120, Tryz.ntmps120
    go_wp2
    go_ret
    exact ⟨_, rfl, HX.out, Fr.refl _ _⟩
  · obtain ⟨g, cap, w', hr, ho, hf⟩ := append_nil_zeros (w := w) (ty := 70) n (by omega) hn
    have HR := Lib.hid hr
    have HO := Lib.hid (And.intro ho hf)
    have hnI : (0 : Int) < (n : Int) := by omega
    have hcap : (0 : Int) ≤ (cap : Int) := by omega
    have hnJ : (n : Int) ≤ 1048576 := by omega
    clear hr ho hf h0 hn
    go_enter Tryz.func120, Tryz.ntmps120
    go_wp2_with (at_builtin; refine wpList_append_run2 rfl _ _ _ _ rfl HR.out ?_)
    go_ret
    exact ⟨_, rfl, HO.out⟩
def IntRows (S : List Nat) (w : World) (v : Value) (ls : List (List Int)) : Prop :=
  ∃ vs : List Value, vs.length = ls.length ∧ Slc S w v ls.length vs ∧ ∀ (i : Nat) (x : Value) (l : List Int), vs[i]? = some x → ls[i]? = some l → Ints S w x l
theorem IntRows.kept {S : List Nat} {w w' : World} {v : Value} {ls : List (List Int)} (h : IntRows S w v ls) (hf : Fr S w w') : IntRows S w' v ls := by
  obtain ⟨vs, h1, h2, h3⟩ := h
  exact ⟨vs, h1, Slc.kept h2 hf, fun i x l hx hl => (h3 i x l hx hl).kept hf⟩
theorem IntRows.mono {S S' : List Nat} {w : World} {v : Value} {ls : List (List Int)} (h : IntRows S w v ls) (hs : ∀ x, x ∈ S' → x ∈ S) : IntRows S' w v ls := by
  obtain ⟨vs, h1, h2, h3⟩ := h
  exact ⟨vs, h1, Slc.mono h2 hs, fun i x l hx hl => (h3 i x l hx hl).mono hs⟩
theorem IntRows.form {S : List Nat} {w : World} {v : Value} {ls : List (List Int)} (h : IntRows S w v ls) : ∃ a c, v = .slice a ls.length c ∧ ls.length ≤ c := by
  obtain ⟨vs, h1, h2, h3⟩ := h
  exact Slc.form h2
theorem IntRows.at {S : List Nat} {w : World} {B off n cap : Nat} {ls : List (List Int)} (h : IntRows S w (.slice (some ⟨B, off, none⟩) n cap) ls) {i : Nat} (hi : i < ls.length) :
    ∃ x, w.cell? ⟨B, off + i, none⟩ = some x ∧ Ints S w x ls[i] := by
  obtain ⟨vs, h1, h2, h3⟩ := h
  rcases h2 with ⟨_, _, _, h0, _⟩ | ⟨B', off', cap', h, _, _, hcs⟩
  · omega
  · simp only [Value.slice.injEq, Option.some.injEq, Addr.mk.injEq] at h
    obtain ⟨⟨rfl, rfl, _⟩, _, rfl⟩ := h
    have hv : vs[i]? = some vs[i] := List.getElem?_eq_getElem (by omega)
    exact ⟨vs[i], hcs i _ hv, h3 i _ _ hv (List.getElem?_eq_getElem hi)⟩
theorem flat_snoc {ls : List (List Int)} {k : Nat} (hk : k < ls.length) : (ls.take (k + 1)).flatten = (ls.take k).flatten ++ ls[k] := by
  rw [List.take_succ_eq_append_getElem hk, List.flatten_append]; simp
set_option maxRecDepth 100000 in
set_option maxHeartbeats 1000000 in
theorem concat_k {S : List Nat} {v : Value} {ls : List (List Int)} (w : World) (h : IntRows S w v ls) (hl : ls.flatten.length ≤ 1048576) (hn : ls.length ≤ 1048576) :
    Calls Tryz.prog 85 #[v] w fun e w' => ∃ v', e = .returned v' ∧ NewI w w' v' ls.flatten ∧ Fr [] w w' := by
  obtain ⟨a, c, rfl, _⟩ := h.form
  have HH := Lib.hid (h.mono (S' := []) (by simp))
  have HL := Lib.hid hl
  have hnJ : (ls.length : Int) ≤ 1048576 := by omega
  clear h hl hn
  go_enter Tryz.func85, Tryz.ntmps85
  go_wp2_with fail
  go_loopw [3, 11] (fun n i wr => ∃ k : Nat, k ≤ ls.length ∧ i = .int .i64 k ∧ n = .int .i64 ((ls.take k).flatten.length : Nat) ∧ w = wr) (fun _ i _ => ls.length - (intOf i).toNat)
  case atStart => exact ⟨0, Nat.zero_le _, rfl, by simp, rfl⟩
  case round =>
    obtain ⟨k, hkl, rfl, rfl, rfl⟩ := hrel
    by_cases hlt : k < ls.length
    · have hkI : (k : Int) < (ls.length : Int) := by omega
      obtain ⟨B, off, rfl⟩ : ∃ B off, a = some ⟨B, off, none⟩ := by
        obtain ⟨vs, _, hs, _⟩ := HH.out
        rcases hs with ⟨_, _, _, h0, _⟩ | ⟨B, off, cap, h, _⟩
        · omega
        · cases h; exact ⟨B, off, rfl⟩
      obtain ⟨x, cx, hx⟩ := HH.out.at hlt
      have hfs := flat_snoc hlt
      have hle : (ls.take (k + 1)).flatten.length ≤ ls.flatten.length := by
        conv => rhs; rw [← List.take_append_drop (k + 1) ls, List.flatten_append]
        simp
      have HFS : Hid ((ls.take k).flatten.length + ls[k].length = (ls.take (k + 1)).flatten.length) := Lib.hid (by rw [hfs, List.length_append])
      have hbd : (((ls.take k).flatten.length : Nat) : Int) + ((ls[k].length : Nat) : Int) ≤ 1048576 := by have := HFS.out; have := HL.out; omega
      obtain ⟨xa, xc, rfl, _⟩ := Slc.form hx
      clear hx hfs hle
      generalize (ls.take k).flatten.length = m at *
      generalize ls[k].length = m2 at *
      have hm0 : (0 : Int) ≤ (m : Int) := by omega
      have hm2 : (0 : Int) ≤ (m2 : Int) := by omega
      have hm3 : ¬ (m : Int) + (m2 : Int) < 0 := by omega
      go_wp2
      go_roundw
      case rel => exact ⟨k + 1, by omega, by go_num, by rw [← HFS.out]; simp, trivial⟩
      case measure => simp [intOf]; omega
    · obtain rfl : k = ls.length := by omega
      have HE : Hid ((ls.take ls.length).flatten.length = ls.flatten.length) := Lib.hid (by rw [List.take_length])
      rw [HE.out]
      obtain ⟨m, hm⟩ : ∃ m, ls.flatten.length = m := ⟨_, rfl⟩
      rw [hm]
      have HM : Hid (m ≤ 1048576) := Lib.hid (by have := HL.out; omega)
      clear hm
      go_wp2_with fail
      refine (grow_k m _ HM.out).mono ?_
      rintro e w1 ⟨v1, rfl, ho1, hf1⟩
      have HO1 := Lib.hid ho1
      have HF1 := Lib.hid hf1
      clear ho1 hf1
      go_wp2_with fail
      go_loopw [6, 27] (fun n i wr => ∃ k : Nat, k ≤ ls.length ∧ i = .int .i64 k ∧ wr.ownsRow w.heap.size 3 1 n (ls.take k).flatten.length ((ls.take k).flatten.map intV) ∧ Fr [] w wr) (fun _ i _ => ls.length - (intOf i).toNat)
      case atStart => exact ⟨0, Nat.zero_le _, rfl, HO1.out, HF1.out⟩
      case round =>
        obtain ⟨k, hkl, rfl, hown, hfr⟩ := hrel
        by_cases hlt : k < ls.length
        · have hkI : (k : Int) < (ls.length : Int) := by omega
          obtain ⟨B, off, rfl⟩ : ∃ B off, a = some ⟨B, off, none⟩ := by
            obtain ⟨vs, _, hs, _⟩ := HH.out
            rcases hs with ⟨_, _, _, h0, _⟩ | ⟨B, off, cap, h, _⟩
            · omega
            · cases h; exact ⟨B, off, rfl⟩
          obtain ⟨x, cx, hx⟩ := (HH.out.kept hfr).at hlt
          have hfs := flat_snoc hlt
          have hle : (ls.take (k + 1)).flatten.length ≤ ls.flatten.length := by
            conv => rhs; rw [← List.take_append_drop (k + 1) ls, List.flatten_append]
            simp
          have hbd : (ls.take k).flatten.length + ls[k].length ≤ 1048576 := by have := HL.out; rw [hfs, List.length_append] at hle; omega
          obtain ⟨v2, w2, hr2, ho2, hf2, _⟩ := run_append_slc (P := Tryz.prog) (t := 70) (ty := 70) Tryz.underlying70 Tryz.info3i rfl (by decide) hown hx (by simp) (ints_one _) (by unfold maxLen; omega) (by omega) hfr.size
          rw [← List.map_append, ← hfs, ← List.length_append, ← hfs] at ho2
          have HR2 := Lib.hid hr2
          have HO2 := Lib.hid (And.intro ho2 (hfr.andThen hf2 (fun y hy => .inr (by
            cases hb : u6.ownBlock with
            | none => rw [hb] at hy; cases hy
            | some g => rw [hb] at hy; simp at hy; rw [hy]; exact (hown.lt g hb).1))))
          clear hown hfr hx hfs hle hbd hr2 ho2 hf2
          go_wp2_with (at_builtin; refine wpList_append_run rfl _ _ _ rfl HR2.out ?_)
          go_roundw
          case rel => exact ⟨k + 1, by omega, by go_num, HO2.out⟩
          case measure => simp [intOf]; omega
        · obtain rfl : k = ls.length := by omega
          rw [List.take_length] at hown
          have HE := Lib.hid (And.intro (ints_own (w := w) hown (Nat.le_refl _)) hfr)
          clear hown hfr
          go_wp2
          go_ret
          exact ⟨_, rfl, HE.out⟩
end Go.Proofs.YtgpohemcfgepeaaGreat

namespace Go.Proofs.YtgpohemcfgepeaaGreat
open Go.RowKit Go.MapKept
theorem enter_of {P : Program} {f : FuncId} {fn : Func} (hf : P.funcs[f]? = some fn) (h1 : (fn.name == "runtime.NumGoroutine") = false) (h2 : fn.body.isNone = false) (args : Array Value) (w : World) :
    (callFunc f args).run P w = .ok (.enter f args) w := by
  have h1' : ¬ fn.name = "runtime.NumGoroutine" := by simpa using h1
  have h2' : ¬ fn.body = none := by intro hb; rw [hb] at h2; simp at h2
  simp [callFunc, hf, h1', h2']
theorem enter_laid : ∀ (args : Array Value) (w : World), (callFunc 185 args).run Tryz.prog w = .ok (.enter 185 args) w := fun args w => enter_of Tryz.func185 (by kernel_rfl) (by kernel_rfl) args w
theorem all_k {S : List Nat} {v : Value} {ls : List (List Int)} (w : World) (h : IntRows S w v ls) (hl : ls.flatten.length ≤ 1048576) (hn : ls.length ≤ 1048576) :
    Calls Tryz.prog 115 #[v] w fun e w' => ∃ v', e = .returned v' ∧ NewI w w' v' ls.flatten ∧ Fr [] w w' := by
  have HC := Lib.hid (concat_k w h hl hn)
  clear h hl hn
  go_enter Tryz.func115, Tryz.ntmps115
  go_wp2_with fail
  refine HC.out.mono ?_
  rintro e w' ⟨v', rfl, hN, hf⟩
  have HN := Lib.hid (And.intro hN hf)
  clear hN hf
  go_wp2
  go_ret
  exact ⟨_, rfl, HN.out⟩
def laidP (l : List Int) (n : Int) : List Int := l.takeWhile (fun x => decide (x < n)) ++ [n] ++ l.dropWhile (fun x => decide (x < n))
def atP (l : List Int) (n : Int) : Nat := (l.takeWhile (fun x => decide (x < n))).length
theorem atP_le (l : List Int) (n : Int) : atP l n ≤ l.length := by
  unfold atP
  conv => rhs; rw [← List.takeWhile_append_dropWhile (p := fun x => decide (x < n)) (l := l)]
  rw [List.length_append]; omega
theorem laidP_eq (l : List Int) (n : Int) : laidP l n = l.take (atP l n) ++ [n] ++ l.drop (atP l n) := by
  have h := List.takeWhile_append_dropWhile (p := fun x => decide (x < n)) (l := l)
  have h1 : l.take (atP l n) = l.takeWhile (fun x => decide (x < n)) := by
    calc l.take (atP l n) = (l.takeWhile (fun x => decide (x < n)) ++ l.dropWhile (fun x => decide (x < n))).take (atP l n) := by rw [h]
      _ = _ := List.take_left
  have h2 : l.drop (atP l n) = l.dropWhile (fun x => decide (x < n)) := by
    calc l.drop (atP l n) = (l.takeWhile (fun x => decide (x < n)) ++ l.dropWhile (fun x => decide (x < n))).drop (atP l n) := by rw [h]
      _ = _ := List.drop_left
  rw [h1, h2]; rfl
theorem atP_fidx (l : List Int) (n : Int) : fidxI (fun x => decide (n ≤ x)) l = if atP l n < l.length then (atP l n : Int) else -1 := by
  unfold atP
  induction l with
  | nil => rfl
  | cons x l ih =>
    by_cases hx : x < n
    · have h1 : (x :: l).takeWhile (fun x => decide (x < n)) = x :: l.takeWhile (fun x => decide (x < n)) := by rw [List.takeWhile_cons_of_pos (by simpa using hx)]
      rw [h1]
      have h2 : fidxI (fun x => decide (n ≤ x)) (x :: l) = match l.findIdx? (fun x => decide (n ≤ x)) with | some i => ((i + 1 : Nat) : Int) | none => -1 := by
        unfold fidxI
        rw [List.findIdx?_cons, if_neg (by simp; omega)]
        cases l.findIdx? (fun x => decide (n ≤ x)) <;> rfl
      rw [h2]
      unfold fidxI at ih
      cases hf : l.findIdx? (fun x => decide (n ≤ x)) with
      | none =>
        rw [hf] at ih
        simp only at ih ⊢
        by_cases hq : (l.takeWhile (fun x => decide (x < n))).length < l.length
        · rw [if_pos hq] at ih; omega
        · rw [if_neg (by simp only [List.length_cons]; omega)]
      | some i =>
        rw [hf] at ih
        simp only at ih ⊢
        by_cases hq : (l.takeWhile (fun x => decide (x < n))).length < l.length
        · rw [if_pos hq] at ih
          rw [if_pos (by simp only [List.length_cons]; omega)]
          simp only [List.length_cons]
          omega
        · rw [if_neg hq] at ih; omega
    · have h1 : (x :: l).takeWhile (fun x => decide (x < n)) = [] := by rw [List.takeWhile_cons_of_neg (by simpa using hx)]
      rw [h1]
      have h2 : fidxI (fun x => decide (n ≤ x)) (x :: l) = 0 := by
        unfold fidxI
        rw [List.findIdx?_cons, if_pos (by simp; omega)]
        rfl
      rw [h2]
      simp
theorem ge_k (g : Nat) (m n : Int) (w : World) (h : w.cell? ⟨g, 0, none⟩ = some (.int .i64 n)) :
    Calls Tryz.prog 185 #[.int .i64 m, .pointer (some ⟨g, 0, none⟩)] w fun e w' => e = .returned (.bool (decide (n ≤ m))) ∧ w = w' := by
  go_enter Tryz.func185, Tryz.ntmps185
  go_wp2
  go_ret
  exact ⟨rfl, rfl⟩
theorem Ints.take {S : List Nat} {w : World} {B off n cap : Nat} {l : List Int} (h : Ints S w (.slice (some ⟨B, off, none⟩) n cap) l) {k : Nat} (hk : k ≤ l.length) :
    Ints S w (.slice (some ⟨B, off, none⟩) k cap) (l.take k) := by
  rcases h with ⟨a, c, h, h0, hl, _⟩ | ⟨B', off', cap', h, hc, hs, hcs⟩
  · obtain rfl : l = [] := List.eq_nil_of_length_eq_zero h0
    obtain rfl : k = 0 := by simpa using hk
    exact .inl ⟨_, cap, rfl, rfl, rfl, fun h => by cases h⟩
  · cases h
    refine .inr ⟨B, off, cap, by simp; omega, by simp; omega, ?_, ?_⟩
    · exact hs.imp (fun h => by simp at h; simp [h]) id
    · rw [List.map_take]; exact hcs.take k
theorem Ints.drop {S : List Nat} {w : World} {B off n cap : Nat} {l : List Int} (h : Ints S w (.slice (some ⟨B, off, none⟩) n cap) l) {k : Nat} (hk : k ≤ l.length) :
    Ints S w (.slice (some ⟨B, off + k, none⟩) (n - k) (cap - k)) (l.drop k) := by
  rcases h with ⟨a, c, h, h0, hl, _⟩ | ⟨B', off', cap', h, hc, hs, hcs⟩
  · obtain rfl : l = [] := List.eq_nil_of_length_eq_zero h0
    obtain rfl : k = 0 := by simpa using hk
    obtain rfl : n = 0 := by simp only [Value.slice.injEq] at h; omega
    exact .inl ⟨_, cap, rfl, rfl, rfl, fun h => by cases h⟩
  · cases h
    refine .inr ⟨B, off + k, cap - k, by simp, by simp; omega, ?_, ?_⟩
    · exact hs.imp (fun h => by simp at h; simp [h]) id
    · rw [List.map_drop]; exact hcs.drop k
theorem ints_nil (S : List Nat) (w : World) (a : Addr) (c : Nat) : Ints S w (.slice (some a) 0 c) [] := .inl ⟨_, _, rfl, rfl, rfl, fun h => by cases h⟩
theorem ints_single (w : World) (n : Int) (T : TypeId) : Ints [] (w.alloc (.cells #[.int .i64 n] T)) (.slice (some ⟨w.heap.size, 0, none⟩) 1 1) [n] :=
  Slc.ofBlock (blk_new w (.cells #[.int .i64 n] T)) (by simp) 1 1 (Nat.le_refl _)
theorem rows_of {w : World} {b : Nat} {xs : List Value} {T : TypeId} {ls : List (List Int)} (hb : w.heap[b]? = some (.cells xs.toArray T (0, 0))) (hn : xs.length = ls.length) (hx : ∀ (i : Nat) (x : Value) (l : List Int), xs[i]? = some x → ls[i]? = some l → Ints [] w x l) :
    IntRows [] w (.slice (some ⟨b, 0, none⟩) ls.length ls.length) ls :=
  ⟨xs, hn, by have := Slc.ofBlock (S := []) hb (by simp) ls.length ls.length (Nat.le_refl _); simpa using this, hx⟩
theorem rows3 {w : World} {x1 x2 x3 : Value} {l1 l2 l3 : List Int} (T : TypeId) (h1 : Ints [] w x1 l1) (h2 : Ints [] w x2 l2) (h3 : Ints [] w x3 l3) :
    IntRows [] (w.alloc (.cells #[x1, x2, x3] T)) (.slice (some ⟨w.heap.size, 0, none⟩) 3 3) [l1, l2, l3] := by
  have hf := Fr.alloc1 w (.cells #[x1, x2, x3] T)
  refine rows_of (xs := [x1, x2, x3]) (T := T) (blk_new w _) rfl (fun i x l hx hl => ?_)
  match i with
  | 0 => cases hx; cases hl; exact h1.kept hf
  | 1 => cases hx; cases hl; exact h2.kept hf
  | 2 => cases hx; cases hl; exact h3.kept hf
  | i + 3 => cases hx
theorem rows2 {w : World} {x1 x2 : Value} {l1 l2 : List Int} (T : TypeId) (h1 : Ints [] w x1 l1) (h2 : Ints [] w x2 l2) :
    IntRows [] (w.alloc (.cells #[x1, x2] T)) (.slice (some ⟨w.heap.size, 0, none⟩) 2 2) [l1, l2] := by
  have hf := Fr.alloc1 w (.cells #[x1, x2] T)
  refine rows_of (xs := [x1, x2]) (T := T) (blk_new w _) rfl (fun i x l hx hl => ?_)
  match i with
  | 0 => cases hx; cases hl; exact h1.kept hf
  | 1 => cases hx; cases hl; exact h2.kept hf
  | i + 2 => cases hx
set_option maxRecDepth 100000 in
set_option maxHeartbeats 1000000 in
theorem laid_k {S : List Nat} {v : Value} {l : List Int} (n : Int) (w : World) (h : Ints S w v l) (hl : l.length ≤ 100000) :
    Calls Tryz.prog 145 #[v, .int .i64 n] w fun e w' => ∃ v', e = .returned v' ∧ NewI w w' v' (laidP l n) ∧ Fr [] w w' := by
  obtain ⟨a, c, rfl, hcap⟩ := Slc.form h
  have hal := Fr.alloc1 w (.cells #[.int .i64 n] 3)
  have hcell := blk_cell (blk_new w (.cells #[.int .i64 n] 3)) 0
  have HH := Lib.hid (Ints.kept (h.mono (S' := []) (by simp)) hal)
  have HFX := Lib.hid (fidx_k 185 #[.pointer (some ⟨w.heap.size, 0, none⟩)] (fun x => decide (n ≤ x)) _ HH.out (by omega) enter_laid (fun m _ => ge_k _ m n _ (by simp)))
  have HCAP := Lib.hid hcap
  clear h hcell hcap
  go_enter Tryz.func145, Tryz.ntmps145
  go_wp2_with fail
  refine HFX.out.mono ?_
  rintro e w' ⟨rfl, rfl⟩
  rw [atP_fidx]
  have HQ := Lib.hid (laidP_eq l n)
  have hK := atP_le l n
  obtain ⟨K, hKe⟩ : ∃ K, atP l n = K := ⟨_, rfl⟩
  rw [hKe] at hK HQ ⊢
  clear hKe
  have HLN := Lib.hid hl
  have hlJ : (l.length : Int) ≤ 100000 := by omega
  clear hl
  obtain ⟨f, hf⟩ : ∃ f : Int, (if K < l.length then (K : Int) else -1) = f := ⟨_, rfl⟩
  rw [hf]
  have hq : (0 ≤ f ∧ f = (K : Int)) ∨ (l.length = K ∧ f = -1) := by
    by_cases h : K < l.length
    · rw [if_pos h] at hf; exact .inl ⟨by omega, hf.symm⟩
    · rw [if_neg h] at hf; exact .inr ⟨by omega, hf.symm⟩
  clear hf
  go_upto_if 10 with fail
  go_cut [5] from 9 to 12 (fun p wx => p = .int .i64 K ∧ w.alloc (.cells #[.int .i64 n] 3) = wx)
  case first =>
    rcases hq with ⟨h0, rfl⟩ | ⟨h0, rfl⟩
    · go_wp2_with fail
      go_meet
      exact ⟨rfl, rfl⟩
    · have HE := Lib.hid h0
      clear h0
      go_wp2_with fail
      go_meet
      exact ⟨by rw [HE.out], rfl⟩
  case rest =>
    obtain ⟨rfl, rfl⟩ := hcut
    have hcell : (w.alloc (.cells #[.int .i64 n] 3)).cell? ⟨w.heap.size, 0, none⟩ = some (.int .i64 n) := by simp
    have key : ∀ x1 x3 : Value, Ints [] (w.alloc (.cells #[.int .i64 n] 3)) x1 (l.take K) → Ints [] (w.alloc (.cells #[.int .i64 n] 3)) x3 (l.drop K) →
        Calls Tryz.prog 115 #[.slice (some ⟨w.heap.size + 1 + 1, 0, none⟩) 3 3] (((w.alloc (.cells #[.int .i64 n] 3)).alloc (.cells #[.int .i64 n] 3)).alloc (.cells #[x1, .slice (some ⟨w.heap.size + 1, 0, none⟩) 1 1, x3] 70)).drew
          fun e w' => ∃ v', e = .returned v' ∧ NewI w w' v' (laidP l n) ∧ Fr [] w w' ∧ Fr [] (w.alloc (.cells #[.int .i64 n] 3)) w' := by
      intro x1 x3 h1 h3
      have hf0 : Fr [] (w.alloc (.cells #[.int .i64 n] 3)) ((w.alloc (.cells #[.int .i64 n] 3)).alloc (.cells #[.int .i64 n] 3)) := Fr.alloc1 _ _
      have hr := rows3 70 (h1.kept hf0) (ints_single (w.alloc (.cells #[.int .i64 n] 3)) n 3) (h3.kept hf0)
      have hz : (w.alloc (.cells #[.int .i64 n] 3)).heap.size = w.heap.size + 1 := by simp
      have hz2 : ((w.alloc (.cells #[.int .i64 n] 3)).alloc (.cells #[.int .i64 n] 3)).heap.size = w.heap.size + 1 + 1 := by simp
      rw [hz, hz2] at hr
      have hL := HLN.out
      have hfr0 := ((hal.trans hf0).trans (Fr.alloc1 _ (.cells #[x1, .slice (some ⟨w.heap.size + 1, 0, none⟩) 1 1, x3] 70))).drew
      refine (all_k _ (hr.kept (Fr.refl [] _).drew) (by simp; omega) (by simp)).mono ?_
      rintro e w' ⟨v', rfl, hN, hf⟩
      have hfl : [l.take K, [n], l.drop K].flatten = laidP l n := by rw [HQ.out]; simp
      rw [hfl] at hN
      exact ⟨v', rfl, fun S hS => hN S (fun x hx => Nat.lt_of_lt_of_le (hS x hx) hfr0.size), hfr0.trans hf, ((hf0.trans (Fr.alloc1 _ (.cells #[x1, .slice (some ⟨w.heap.size + 1, 0, none⟩) 1 1, x3] 70))).drew).trans hf⟩
    have HKEY := Lib.hid key
    clear key HQ hal hq
    cases a with
    | none =>
      have hl0 : l.length = 0 ∧ c = 0 := by
        rcases HH.out with ⟨a, c', h, h0, _, hc⟩ | ⟨B, off, cap, h, _⟩
        · simp only [Value.slice.injEq] at h; obtain ⟨rfl, _, rfl⟩ := h; exact ⟨h0, hc rfl⟩
        · simp at h
      obtain rfl : l = [] := List.eq_nil_of_length_eq_zero hl0.1
      obtain rfl : c = 0 := hl0.2
      obtain rfl : K = 0 := by simpa using hK
      have HT := Lib.hid (HKEY.out (.slice none 0 0) (.slice none 0 0) (Slc.nil _ _) (Slc.nil _ _))
      clear hl0 HKEY
      go_wp2_with fail
      go_region_held3 (fun w' => w'.cell? ⟨w.heap.size, 0, none⟩ = some (.int .i64 n)) (first | assumption | go_keep) (first
        | ((go_at_call 115
            refine HT.out.mono ?_
            rintro e w' ⟨v', rfl, hN, hf, hf2⟩
            have hcell' := hf2.cellSome hcell (by simp)
            have HE := Lib.hid (And.intro hN hf)
            clear hN hf hf2)))
      all_goals
        go_wp2
        go_ret
        exact ⟨_, rfl, HE.out⟩
    | some a =>
      by_cases hl0 : l.length = 0
      · obtain rfl : l = [] := List.eq_nil_of_length_eq_zero hl0
        obtain rfl : K = 0 := by simpa using hK
        have HT := Lib.hid (HKEY.out (.slice (some a) 0 c) (.slice (some a) 0 c) (ints_nil _ _ _ _) (ints_nil _ _ _ _))
        clear hl0 HKEY
        go_wp2_with fail
        go_region_held3 (fun w' => w'.cell? ⟨w.heap.size, 0, none⟩ = some (.int .i64 n)) (first | assumption | go_keep) (first
        | ((go_at_call 115
            refine HT.out.mono ?_
            rintro e w' ⟨v', rfl, hN, hf, hf2⟩
            have hcell' := hf2.cellSome hcell (by simp)
            have HE := Lib.hid (And.intro hN hf)
            clear hN hf hf2)))
        all_goals
          go_wp2
          go_ret
          exact ⟨_, rfl, HE.out⟩
      · obtain ⟨B, off, rfl⟩ : ∃ B off, a = ⟨B, off, none⟩ := by
          rcases HH.out with ⟨_, _, _, h0, _⟩ | ⟨B, off, cap, h, _⟩
          · exact absurd h0 hl0
          · cases h; exact ⟨B, off, rfl⟩
        have hcc := HCAP.out
        have q1 : (K : Int) ≤ (l.length : Int) := by omega
        have q2 : (K : Int) ≤ (c : Int) := by omega
        by_cases hcK : c = K
        · have hlK : l.length = K := by omega
          have HT := Lib.hid (HKEY.out (.slice (some ⟨B, off, none⟩) K K) (.slice (some ⟨B, off, none⟩) 0 0) (by have := Ints.take HH.out (k := K) (by omega); rw [hcK] at this; exact this) (by rw [List.drop_of_length_le (by omega)]; exact ints_nil _ _ _ _))
          subst hcK
          rw [hlK] at q1 hlJ ⊢
          clear hl0 hK HKEY hlK hcc q1
          go_wp2_with fail
          go_region_held3 (fun w' => w'.cell? ⟨w.heap.size, 0, none⟩ = some (.int .i64 n)) (first | assumption | go_keep) (first
        | ((go_at_call 115
            refine HT.out.mono ?_
            rintro e w' ⟨v', rfl, hN, hf, hf2⟩
            have hcell' := hf2.cellSome hcell (by simp)
            have HE := Lib.hid (And.intro hN hf)
            clear hN hf hf2)))
          all_goals
            go_wp2
            go_ret
            exact ⟨_, rfl, HE.out⟩
        · have HT := Lib.hid (HKEY.out (.slice (some ⟨B, off, none⟩) K c) (.slice (some ⟨B, off + K, none⟩) (l.length - K) (c - K)) (Ints.take HH.out hK) (Ints.drop HH.out hK))
          clear hl0 HKEY hcc
          go_wp2_with fail
          go_region_held3 (fun w' => w'.cell? ⟨w.heap.size, 0, none⟩ = some (.int .i64 n)) (first | assumption | go_keep) (first
        | ((go_at_call 115
            refine HT.out.mono ?_
            rintro e w' ⟨v', rfl, hN, hf, hf2⟩
            have hcell' := hf2.cellSome hcell (by simp)
            have HE := Lib.hid (And.intro hN hf)
            clear hN hf hf2)))
          all_goals
            go_wp2
            go_ret
            exact ⟨_, rfl, HE.out⟩
end Go.Proofs.YtgpohemcfgepeaaGreat

namespace Go.Proofs.YtgpohemcfgepeaaGreat
open Go.RowKit Go.MapKept
structure PoolD where
  high : Int
  free : List Int
  limbo : List Int
def PoolD.small (p : PoolD) : Prop := p.free.length ≤ 10000 ∧ p.limbo.length ≤ 10000
def PoolAt (S : List Nat) (w : World) (v : Value) (p : PoolD) : Prop := ∃ fv lv, v = .agg #[.int .i64 p.high, fv, lv] ∧ Ints S w fv p.free ∧ Ints S w lv p.limbo
theorem PoolAt.kept {S : List Nat} {w w' : World} {v : Value} {p : PoolD} (h : PoolAt S w v p) (hf : Fr S w w') : PoolAt S w' v p := by
  obtain ⟨fv, lv, rfl, h1, h2⟩ := h
  exact ⟨fv, lv, rfl, h1.kept hf, h2.kept hf⟩
theorem PoolAt.mono {S S' : List Nat} {w : World} {v : Value} {p : PoolD} (h : PoolAt S w v p) (hs : ∀ x, x ∈ S' → x ∈ S) : PoolAt S' w v p := by
  obtain ⟨fv, lv, rfl, h1, h2⟩ := h
  exact ⟨fv, lv, rfl, h1.mono hs, h2.mono hs⟩
def NewPool (w w' : World) (v : Value) (p : PoolD) : Prop := ∀ S : List Nat, (∀ x, x ∈ S → x < w.heap.size) → PoolAt S w' v p
theorem NewPool.kept {w w1 w2 : World} {v : Value} {p : PoolD} (h : NewPool w w1 v p) (hf : Fr [] w1 w2) : NewPool w w2 v p := fun S hS => (h S hS).kept hf.nil
theorem NewI.set {w w1 w2 : World} {v : Value} {l : List Int} {g : Nat} (h : NewI w w1 v l) (hg : g < w.heap.size) (hf : Fr [g] w1 w2) : NewI w w2 v l := fun S hS =>
  ((h (g :: S) (fun x hx => by rcases List.mem_cons.1 hx with rfl | hx; exact hg; exact hS x hx)).kept (hf.mono (by simp))).mono (by simp_all)
theorem NewI.less {w0 w w1 : World} {v : Value} {l : List Int} (h : NewI w w1 v l) (hs : w0.heap.size ≤ w.heap.size) : NewI w0 w1 v l := fun S hS => h S (fun x hx => Nat.lt_of_lt_of_le (hS x hx) hs)
theorem Fr.set3 (w : World) (g : Nat) (x y z : Value) : Fr [g] w (((w.setCell ⟨g, 0, none⟩ x).setCell ⟨g, 1, none⟩ y).setCell ⟨g, 2, none⟩ z) :=
  ((Fr.setCell w ⟨g, 0, none⟩ x).trans (Fr.setCell _ ⟨g, 1, none⟩ y)).trans (Fr.setCell _ ⟨g, 2, none⟩ z)
theorem blk_set3 {w : World} {g : Nat} {u0 u1 u2 : Value} {T : TypeId} (h : w.heap[g]? = some (.cells #[u0, u1, u2] T (0, 0))) (x y z : Value) :
    (((w.setCell ⟨g, 0, none⟩ x).setCell ⟨g, 1, none⟩ y).setCell ⟨g, 2, none⟩ z).heap[g]? = some (.cells #[x, y, z] T (0, 0)) := by
  rw [blk_set (blk_set (blk_set h 0 x) 1 y) 2 z]
  rfl
set_option maxRecDepth 100000 in
set_option maxHeartbeats 1000000 in
theorem own_k {S : List Nat} {v : Value} {p : PoolD} (w : World) (h : PoolAt S w v p) (hs : p.small) :
    Calls Tryz.prog 176 #[v] w fun e w' => ∃ v', e = .returned v' ∧ NewPool w w' v' p ∧ Fr [] w w' := by
  obtain ⟨fv, lv, rfl, h1, h2⟩ := h.mono (S' := []) (by simp)
  obtain ⟨fa, fc, rfl, _⟩ := Slc.form h1
  obtain ⟨la, lc, rfl, _⟩ := Slc.form h2
  clear h
  obtain ⟨W1, hW1⟩ : ∃ W, (w.alloc (.cells #[.int .i64 p.high, .slice fa p.free.length fc, .slice la p.limbo.length lc] 107)).alloc (.cells #[.int .i64 0, .slice none 0 0, .slice none 0 0] 107) = W := ⟨_, rfl⟩
  have hf0 : Fr [] w W1 := by rw [← hW1]; exact (Fr.alloc1 _ _).trans (Fr.alloc1 _ _)
  have hb1 : W1.heap[w.heap.size]? = some (.cells #[.int .i64 p.high, .slice fa p.free.length fc, .slice la p.limbo.length lc] 107 (0, 0)) := by rw [← hW1]; exact blk_alloc (blk_new _ _) _
  have hb2 : W1.heap[w.heap.size + 1]? = some (.cells #[.int .i64 0, .slice none 0 0, .slice none 0 0] 107 (0, 0)) := by
    rw [← hW1]
    have := blk_new (w.alloc (.cells #[.int .i64 p.high, .slice fa p.free.length fc, .slice la p.limbo.length lc] 107)) (.cells #[.int .i64 0, .slice none 0 0, .slice none 0 0] 107)
    simpa using this
  have HX1 := Lib.hid (h1.kept (hf0.trans (Fr.refl [] W1).drew))
  have HX2 := Lib.hid (h2.kept hf0)
  have HB1 := Lib.hid hb1
  have HB2 := Lib.hid hb2
  have HF0 := Lib.hid hf0
  have HS1 : Hid (p.free.length ≤ 1048576) := Lib.hid (by have := hs.1; omega)
  have HS2 : Hid (p.limbo.length ≤ 1048576) := Lib.hid (by have := hs.2; omega)
  have c0 := blk_cell hb1 0
  have c1 := blk_cell hb1 1
  have c2 := blk_cell hb1 2
  simp only [List.getElem?_toArray, List.getElem?_cons_zero, List.getElem?_cons_succ] at c0 c1 c2
  clear h1 h2 hb1 hb2 hf0 hs
  go_enter Tryz.func176, Tryz.ntmps176
  go_wp2_with fail
  clear hW1
  go_region_held3 (fun w' => w'.cell? ⟨w.heap.size, 0, none⟩ = some (.int .i64 p.high) ∧ w'.cell? ⟨w.heap.size, 1, none⟩ = some (.slice fa p.free.length fc) ∧ w'.cell? ⟨w.heap.size, 2, none⟩ = some (.slice la p.limbo.length lc)) (first | exact ⟨by assumption, by assumption, by assumption⟩ | go_keep)
    (first
    | ((go_at_call 110
        with_reducible refine (clone_k (v := .slice fa p.free.length fc) _ HX1.out HS1.out).mono ?_
        rintro e w1 ⟨v1, rfl, hn1, hf1⟩
        obtain ⟨a1, k1, rfl, _⟩ := hn1.form
        have d0 := hf1.ofDrew.cellSome c0 (by simp)
        have d1 := hf1.ofDrew.cellSome c1 (by simp)
        have d2 := hf1.ofDrew.cellSome c2 (by simp)
        have HN1 := Lib.hid hn1
        have HF1 := Lib.hid hf1.ofDrew
        have HX3 := Lib.hid (HX2.out.kept hf1.ofDrew)
        clear hn1 hf1))
    | ((go_at_call 110
        with_reducible refine (clone_k (v := .slice la p.limbo.length lc) _ HX3.out HS2.out).mono ?_
        rintro e w2 ⟨v2, rfl, hn2, hf2⟩
        obtain ⟨a2, k2, rfl, _⟩ := hn2.form
        have e0 := hf2.cellSome d0 (by simp)
        have e1 := hf2.cellSome d1 (by simp)
        have e2 := hf2.cellSome d2 (by simp)
        have HN2 := Lib.hid hn2
        have HF2 := Lib.hid hf2
        have hb2 := hf2.heap (HF1.out.heap HB2.out (by simp)) (by simp)
        have r0 := blk_cell hb2 0
        have r1 := blk_cell hb2 1
        have r2 := blk_cell hb2 2
        have z0 := blk_free hb2 0
        have z1 := blk_free hb2 1
        have z2 := blk_free hb2 2
        have hfs := Fr.set3 w2 (w.heap.size + 1) (.int .i64 p.high) (.slice a1 p.free.length k1) (.slice a2 p.limbo.length k2)
        have hsz1 : w.heap.size + 1 < W1.drew.heap.size := lt_of_heap HB2.out
        have hsz2 : w.heap.size + 1 < w1.heap.size := Nat.lt_of_lt_of_le hsz1 HF1.out.size
        have g1 := (HN1.out.set hsz1 (hf2.nil.trans hfs)).less (w0 := w) (by omega)
        have g2 := (hn2.set hsz2 hfs).less (w0 := w) (by omega)
        have HFIN := Lib.hid (And.intro (show NewPool w (((w2.setCell ⟨w.heap.size + 1, 0, none⟩ (.int .i64 p.high)).setCell ⟨w.heap.size + 1, 1, none⟩ (.slice a1 p.free.length k1)).setCell ⟨w.heap.size + 1, 2, none⟩ (.slice a2 p.limbo.length k2)) (.agg #[.int .i64 p.high, .slice a1 p.free.length k1, .slice a2 p.limbo.length k2]) p from fun S hS => ⟨_, _, rfl, g1 S hS, g2 S hS⟩)
          ((((HF0.out.trans HF1.out).trans hf2).nil (S := [w.heap.size + 1])).trans hfs |>.drop (by simp)))
        have hb4 := blk_set3 hb2 (.int .i64 p.high) (.slice a1 p.free.length k1) (.slice a2 p.limbo.length k2)
        have s0 := blk_cell hb4 0
        have s1 := blk_cell hb4 1
        have s2 := blk_cell hb4 2
        simp only [List.getElem?_toArray, List.getElem?_cons_zero, List.getElem?_cons_succ] at s0 s1 s2
        simp only [List.getElem?_toArray, List.getElem?_cons_zero, List.getElem?_cons_succ] at r0 r1 r2
        have HS := Lib.hid (And.intro s0 (And.intro s1 s2))
        clear hn2 hf2 hb2 hb4 hfs hsz1 hsz2 g1 g2 s0 s1 s2)))
  go_wp2
  obtain ⟨s0, s1, s2⟩ := HS.out
  exact bodyPost_ret (v := .agg #[.int .i64 p.high, .slice a1 p.free.length k1, .slice a2 p.limbo.length k2]) (by simp [results, Tryz.results176, go_sem, *]) rfl ⟨_, rfl, HFIN.out⟩
end Go.Proofs.YtgpohemcfgepeaaGreat

namespace Go.Proofs.YtgpohemcfgepeaaGreat
open Go.RowKit Go.MapKept
def PoolD.may (p : PoolD) (n : Int) : Bool := decide (2 ≤ n) && decide (n < p.high) && !decide (n ∈ p.free ++ p.limbo)
set_option maxRecDepth 100000 in
set_option maxHeartbeats 1000000 in
theorem may_k {S : List Nat} {v : Value} {p : PoolD} {b : Bool} (n : Int) (w : World) (h : PoolAt S w v p) (hs : p.small) (hb : p.may n = b) :
    Calls Tryz.prog 175 #[v, .int .i64 n] w fun e w' => e = .returned (.bool b) ∧ Fr [] w w' := by
  obtain ⟨fv, lv, rfl, h1, h2⟩ := h.mono (S' := []) (by simp)
  obtain ⟨fa, fc, rfl, _⟩ := Slc.form h1
  obtain ⟨la, lc, rfl, _⟩ := Slc.form h2
  clear h
  have HB := Lib.hid hb
  clear hb
  have hal := Fr.alloc1 w (.cells #[.int .i64 p.high, .slice fa p.free.length fc, .slice la p.limbo.length lc] 107)
  by_cases q1 : 2 ≤ n
  · by_cases q2 : n < p.high
    · have hr := rows2 70 (h1.kept hal) (h2.kept hal)
      have hz : (w.alloc (.cells #[.int .i64 p.high, .slice fa p.free.length fc, .slice la p.limbo.length lc] 107)).heap.size = w.heap.size + 1 := by simp
      rw [hz] at hr
      clear hz
      have HA := Lib.hid (all_k _ hr (by have := hs.1; have := hs.2; simp; omega) (by simp))
      have HF := Lib.hid (hal.trans (Fr.alloc1 _ (.cells #[.slice fa p.free.length fc, .slice la p.limbo.length lc] 70)))
      have HE : Hid (decide (n ∈ [p.free, p.limbo].flatten) = !b) := Lib.hid (by
        rw [← HB.out]
        unfold PoolD.may
        rw [decide_eq_true q1, decide_eq_true q2]
        simp)
      have HLN : Hid ([p.free, p.limbo].flatten.length ≤ 1048576) := Lib.hid (by have := hs.1; have := hs.2; simp; omega)
      obtain ⟨L, hL⟩ : ∃ L, [p.free, p.limbo].flatten = L := ⟨_, rfl⟩
      rw [hL] at HA HE HLN
      clear h1 h2 hal hr HB hs hL
      go_enter Tryz.func175, Tryz.ntmps175
      go_wp2_with fail
      refine HA.out.mono ?_
      rintro e w1 ⟨v1, rfl, hN, hf⟩
      have HC := Lib.hid (contains_k n _ (hN [] (by simp)) HLN.out HE.out)
      have HF1 := Lib.hid (HF.out.trans hf)
      obtain ⟨a1, k1, rfl, _⟩ := hN.form
      clear hN hf HA HE
      go_wp2_with fail
      refine HC.out.mono ?_
      rintro e w2 ⟨rfl, rfl⟩
      cases b
      all_goals
        go_wp2
        go_ret
        exact ⟨rfl, HF1.out⟩
    · have HBF : Hid (b = false) := Lib.hid (by rw [← HB.out]; unfold PoolD.may; rw [decide_eq_false q2]; simp)
      have HF := Lib.hid hal
      clear h1 h2 hal HB hs
      go_enter Tryz.func175, Tryz.ntmps175
      go_wp2
      go_ret
      exact ⟨by rw [HBF.out]; rfl, HF.out⟩
  · have HBF : Hid (b = false) := Lib.hid (by rw [← HB.out]; unfold PoolD.may; rw [decide_eq_false q1]; simp)
    have HF := Lib.hid hal
    clear h1 h2 hal HB hs
    go_enter Tryz.func175, Tryz.ntmps175
    go_wp2
    go_ret
    exact ⟨by rw [HBF.out]; rfl, HF.out⟩
end Go.Proofs.YtgpohemcfgepeaaGreat

namespace Go.Proofs.YtgpohemcfgepeaaGreat
open Go.RowKit Go.MapKept
def PoolD.take (p : PoolD) (most : Int) : PoolD × Int × Int :=
  match p.free with
  | x :: l => ({ p with free := l }, x, 0)
  | [] => if most ≤ p.high then (⟨0, [], []⟩, 0, 60) else ({ p with high := p.high + 1 }, p.high, 0)
theorem NewPool.parts {w w' : World} {h : Int} {fv lv : Value} {p : PoolD} (hn : NewPool w w' (.agg #[.int .i64 h, fv, lv]) p) : NewI w w' fv p.free ∧ NewI w w' lv p.limbo := by
  refine ⟨fun S hS => ?_, fun S hS => ?_⟩
  all_goals
    obtain ⟨fv', lv', he, h1, h2⟩ := hn S hS
    simp only [Value.agg.injEq, Array.mk.injEq, List.cons.injEq, and_true] at he
    obtain ⟨_, rfl, rfl⟩ := he
    assumption
theorem NewI.sets {w w1 w2 : World} {v : Value} {l : List Int} {G : List Nat} (h : NewI w w1 v l) (hg : ∀ x, x ∈ G → x < w.heap.size) (hf : Fr G w1 w2) : NewI w w2 v l := fun S hS =>
  ((h (G ++ S) (fun x hx => by rcases List.mem_append.1 hx with hx | hx; exact hg x hx; exact hS x hx)).kept (hf.mono (fun x hx _ => List.mem_append.2 (.inl hx)))).mono (fun x hx => List.mem_append.2 (.inr hx))
theorem NewI.drop1 {w w' : World} {B off n c : Nat} {x : Int} {l : List Int} (h : NewI w w' (.slice (some ⟨B, off, none⟩) n c) (x :: l)) : NewI w w' (.slice (some ⟨B, off + 1, none⟩) (n - 1) (c - 1)) l := fun S hS => by
  have := Ints.drop (h S hS) (k := 1) (by simp)
  simpa using this
def nilR (high most : Int) (limbo : List Int) : PoolD × Int × Int := if most ≤ high then (⟨0, [], []⟩, 0, 60) else (⟨high + 1, [], limbo⟩, high, 0)
def takeP (w : World) (r : PoolD × Int × Int) (e : Ending) (w' : World) : Prop := ∃ v, e = .returned (.tuple #[v, .int .i64 r.2.1, .int .i64 r.2.2]) ∧ NewPool w w' v r.1 ∧ Fr [] w w'
theorem takeP.drew {w w' : World} {r : PoolD × Int × Int} {e : Ending} (h : takeP w r e w') : takeP w r e w'.drew := by
  obtain ⟨v, he, hn, hf⟩ := h
  exact ⟨v, he, hn.kept (Fr.refl [] w').drew, hf.drew⟩
set_option maxRecDepth 100000 in
set_option maxHeartbeats 1000000 in
theorem take_some {S : List Nat} {v : Value} {high x : Int} {l limbo : List Int} (most : Int) (w : World) (h : PoolAt S w v (⟨high, x :: l, limbo⟩)) (hs : PoolD.small (⟨high, x :: l, limbo⟩)) (_ : 0 ≤ high) (_ : high ≤ 5000) :
    Calls Tryz.prog 174 #[v, .int .i64 most] w (takeP w (⟨high, l, limbo⟩, x, 0)) := by
  obtain ⟨fv, lv, rfl, h1, h2⟩ := h.mono (S' := []) (by simp)
  obtain ⟨fa, fc, rfl, _⟩ := Slc.form h1
  obtain ⟨la, lc, rfl, _⟩ := Slc.form h2
  clear h
  obtain ⟨W1, hW1⟩ : ∃ W, (w.alloc (.cells #[.int .i64 high, .slice fa (l.length + 1) fc, .slice la limbo.length lc] 107)).alloc (.cells #[.int .i64 0, .slice none 0 0, .slice none 0 0] 107) = W := ⟨_, rfl⟩
  have hf0 : Fr [] w W1 := by rw [← hW1]; exact (Fr.alloc1 _ _).trans (Fr.alloc1 _ _)
  have hb1 : W1.heap[w.heap.size]? = some (.cells #[.int .i64 high, .slice fa (l.length + 1) fc, .slice la limbo.length lc] 107 (0, 0)) := by rw [← hW1]; exact blk_alloc (blk_new _ _) _
  have hb2 : W1.heap[w.heap.size + 1]? = some (.cells #[.int .i64 0, .slice none 0 0, .slice none 0 0] 107 (0, 0)) := by
    rw [← hW1]
    have := blk_new (w.alloc (.cells #[.int .i64 high, .slice fa (l.length + 1) fc, .slice la limbo.length lc] 107)) (.cells #[.int .i64 0, .slice none 0 0, .slice none 0 0] 107)
    simpa using this
  have HP := Lib.hid (own_k W1 (S := []) (v := .agg #[.int .i64 high, .slice fa (l.length + 1) fc, .slice la limbo.length lc]) (p := ⟨high, x :: l, limbo⟩) ⟨_, _, rfl, h1.kept hf0, h2.kept hf0⟩ hs)
  have HB1 := Lib.hid hb1
  have HB2 := Lib.hid hb2
  have HF0 := Lib.hid hf0
  have c0 := blk_cell hb1 0
  have c1 := blk_cell hb1 1
  have c2 := blk_cell hb1 2
  simp only [List.getElem?_toArray, List.getElem?_cons_zero, List.getElem?_cons_succ] at c0 c1 c2
  clear h1 h2 hb1 hb2 hf0
  go_enter Tryz.func174, Tryz.ntmps174
  go_wp2_with fail
  refine HP.out.mono ?_
  rintro e w1 ⟨v1, rfl, hn1, hf1⟩
  clear hW1
  obtain ⟨fv1, lv1, rfl, g1, g2⟩ := hn1 [w.heap.size, w.heap.size + 1] (by have q1 := lt_of_heap HB1.out; have q2 := lt_of_heap HB2.out; intro x hx; simp only [List.mem_cons, List.not_mem_nil, or_false] at hx; rcases hx with rfl | rfl <;> assumption)
  obtain ⟨fa1, fc1, rfl, hcap1⟩ := Slc.form g1
  obtain ⟨la1, lc1, rfl, _⟩ := Slc.form g2
  have hb1 := hf1.heap HB1.out (by simp)
  have hb2 := hf1.heap HB2.out (by simp)
  have x0 := blk_cell hb1 0
  have x1 := blk_cell hb1 1
  have x2 := blk_cell hb1 2
  have z0 := blk_free hb1 0
  have z1 := blk_free hb1 1
  have z2 := blk_free hb1 2
  have y0 := blk_cell hb2 0
  have y1 := blk_cell hb2 1
  have y2 := blk_cell hb2 2
  have u0 := blk_free hb2 0
  have u1 := blk_free hb2 1
  have u2 := blk_free hb2 2
  simp only [List.getElem?_toArray, List.getElem?_cons_zero, List.getElem?_cons_succ] at x0 x1 x2 y0 y1 y2
  obtain ⟨B, off, rfl⟩ : ∃ B off, fa1 = some ⟨B, off, none⟩ := by
    rcases g1 with ⟨_, _, _, h0, _⟩ | ⟨B, off, cap, h, _⟩
    · simp at h0
    · cases h; exact ⟨B, off, rfl⟩
  have hBn : B ≠ w.heap.size ∧ B ≠ w.heap.size + 1 := by
    rcases g1 with ⟨_, _, _, h0, _⟩ | ⟨B', off', cap, h, _, hs, _⟩
    · simp at h0
    · cases h
      rcases hs with hs | hs
      · simp at hs
      · simp only [List.mem_cons, List.not_mem_nil, or_false, not_or] at hs; exact hs
  have hx := Ints.at g1 (i := 0) (by simp)
  simp only [List.getElem_cons_zero, Nat.add_zero] at hx
  obtain ⟨n1, n2⟩ := hBn
  have m1 : w.heap.size ≠ B := Ne.symm n1
  have m2 : w.heap.size + 1 ≠ B := Ne.symm n2
  have hl0 : (0 : Int) < (l.length : Int) + 1 := by omega
  have hl1 : (1 : Int) ≤ (l.length : Int) + 1 := by omega
  have HN1 := Lib.hid hn1
  have HFR1 := Lib.hid hf1
  have HBB1 := Lib.hid hb1
  have HBB2 := Lib.hid hb2
  have HG1 := Lib.hid g1
  clear hn1 hf1 hb1 hb2 g1 g2 HP
  have HCAP := Lib.hid hcap1
  clear hcap1
  by_cases hc1 : fc1 = 1
  · subst hc1
    obtain rfl : l = [] := List.eq_nil_of_length_eq_zero (by have := HCAP.out; simp at this; rw [this]; rfl)
    simp only [List.length_nil, List.length_cons, Nat.zero_add] at *
    have hb4 : ((((w1.setCell ⟨w.heap.size, 0, none⟩ (.int .i64 high)).setCell ⟨w.heap.size, 1, none⟩ (.slice (some ⟨B, off, none⟩) 1 1)).setCell ⟨w.heap.size, 2, none⟩ (.slice la1 limbo.length lc1)).setCell ⟨w.heap.size, 1, none⟩ (.slice (some ⟨B, off, none⟩) 0 0)).heap[w.heap.size]? =
        some (.cells #[.int .i64 high, .slice (some ⟨B, off, none⟩) 0 0, .slice la1 limbo.length lc1] 107 (0, 0)) := by
      rw [blk_set (blk_set3 HBB1.out _ _ _) 1 _]; rfl
    have hf4 := (Fr.set3 w1 w.heap.size (.int .i64 high) (.slice (some ⟨B, off, none⟩) 1 1) (.slice la1 limbo.length lc1)).trans (Fr.setCell _ ⟨w.heap.size, 1, none⟩ (.slice (some ⟨B, off, none⟩) 0 0))
    have HB4 := Lib.hid hb4
    have HF4 := Lib.hid hf4
    clear hb4 hf4
    go_upto_region 5 with fail
    clear x0 x1 x2 z0 z1 z2 y0 y1 y2 u0 u1 u2 c0 c1 c2 hx
    generalize ((((w1.setCell ⟨w.heap.size, 0, none⟩ (.int .i64 high)).setCell ⟨w.heap.size, 1, none⟩ (.slice (some ⟨B, off, none⟩) 1 1)).setCell ⟨w.heap.size, 2, none⟩ (.slice la1 limbo.length lc1)).setCell ⟨w.heap.size, 1, none⟩ (.slice (some ⟨B, off, none⟩) 0 0)) = W4 at *
    have x0 := blk_cell HB4.out 0
    have x1 := blk_cell HB4.out 1
    have x2 := blk_cell HB4.out 2
    have hb5 := HF4.out.heap HBB2.out (by simp)
    have y0 := blk_cell hb5 0
    have y1 := blk_cell hb5 1
    have y2 := blk_cell hb5 2
    have u0 := blk_free hb5 0
    have u1 := blk_free hb5 1
    have u2 := blk_free hb5 2
    have HB5 := Lib.hid hb5
    clear hb5
    simp only [List.getElem?_toArray, List.getElem?_cons_zero, List.getElem?_cons_succ] at x0 x1 x2 y0 y1 y2
    have hf5 := Fr.set3 W4 (w.heap.size + 1) (.int .i64 high) (.slice (some ⟨B, off, none⟩) 0 0) (.slice la1 limbo.length lc1)
    have hf6 : Fr [w.heap.size, w.heap.size + 1] w1 _ := (HF4.out.mono (by simp)).trans (hf5.mono (by simp))
    have hG : ∀ y, y ∈ [w.heap.size, w.heap.size + 1] → y < W1.heap.size := by
      have q1 := lt_of_heap HB1.out; have q2 := lt_of_heap HB2.out
      intro y hy; simp only [List.mem_cons, List.not_mem_nil, or_false] at hy; rcases hy with rfl | rfl <;> assumption
    have hpp := HN1.out.parts
    have k1 := ((show NewI W1 w1 (.slice (some ⟨B, off, none⟩) 0 0) [] from fun S _ => ints_nil S w1 _ _).sets hG hf6).less (w0 := w) HF0.out.size
    have k2 := (hpp.2.sets hG hf6).less (w0 := w) HF0.out.size
    have HFIN : Hid (takeP w (⟨high, [], limbo⟩, x, 0) (.returned (.tuple #[.agg #[.int .i64 high, .slice (some ⟨B, off, none⟩) 0 0, .slice la1 limbo.length lc1], .int .i64 x, .int .i64 0])) _) := Lib.hid ⟨_, rfl, fun S hS => ⟨_, _, rfl, k1 S hS, k2 S hS⟩, (((HF0.out.trans HFR1.out).nil (S := [w.heap.size, w.heap.size + 1])).trans hf6).drop (by simp)⟩
    have hb7 := blk_set3 HB5.out (.int .i64 high) (.slice (some ⟨B, off, none⟩) 0 0) (.slice la1 limbo.length lc1)
    have s0 := blk_cell hb7 0
    have s1 := blk_cell hb7 1
    have s2 := blk_cell hb7 2
    simp only [List.getElem?_toArray, List.getElem?_cons_zero, List.getElem?_cons_succ] at s0 s1 s2
    have HS := Lib.hid (And.intro s0 (And.intro s1 s2))
    clear hf5 hf6 hG hpp k1 k2 hb7 s0 s1 s2
    go_wp2
    obtain ⟨s0, s1, s2⟩ := HS.out
    exact bodyPost_ret (v := .tuple #[.agg #[.int .i64 high, .slice (some ⟨B, off, none⟩) 0 0, .slice la1 limbo.length lc1], .int .i64 x, .int .i64 0]) (by simp [results, Tryz.results174, go_sem, s0, s1, s2]) rfl HFIN.out
  · have hb4 : ((((w1.setCell ⟨w.heap.size, 0, none⟩ (.int .i64 high)).setCell ⟨w.heap.size, 1, none⟩ (.slice (some ⟨B, off, none⟩) (l.length + 1) fc1)).setCell ⟨w.heap.size, 2, none⟩ (.slice la1 limbo.length lc1)).setCell ⟨w.heap.size, 1, none⟩ (.slice (some ⟨B, off + 1, none⟩) l.length (fc1 - 1))).heap[w.heap.size]? =
        some (.cells #[.int .i64 high, .slice (some ⟨B, off + 1, none⟩) l.length (fc1 - 1), .slice la1 limbo.length lc1] 107 (0, 0)) := by
      rw [blk_set (blk_set3 HBB1.out _ _ _) 1 _]; rfl
    have hf4 := (Fr.set3 w1 w.heap.size (.int .i64 high) (.slice (some ⟨B, off, none⟩) (l.length + 1) fc1) (.slice la1 limbo.length lc1)).trans (Fr.setCell _ ⟨w.heap.size, 1, none⟩ (.slice (some ⟨B, off + 1, none⟩) l.length (fc1 - 1)))
    have HB4 := Lib.hid hb4
    have HF4 := Lib.hid hf4
    clear hb4 hf4
    go_upto_region 5 with fail
    clear x0 x1 x2 z0 z1 z2 y0 y1 y2 u0 u1 u2 c0 c1 c2 hx
    generalize ((((w1.setCell ⟨w.heap.size, 0, none⟩ (.int .i64 high)).setCell ⟨w.heap.size, 1, none⟩ (.slice (some ⟨B, off, none⟩) (l.length + 1) fc1)).setCell ⟨w.heap.size, 2, none⟩ (.slice la1 limbo.length lc1)).setCell ⟨w.heap.size, 1, none⟩ (.slice (some ⟨B, off + 1, none⟩) l.length (fc1 - 1))) = W4 at *
    have x0 := blk_cell HB4.out 0
    have x1 := blk_cell HB4.out 1
    have x2 := blk_cell HB4.out 2
    have hb5 := HF4.out.heap HBB2.out (by simp)
    have y0 := blk_cell hb5 0
    have y1 := blk_cell hb5 1
    have y2 := blk_cell hb5 2
    have u0 := blk_free hb5 0
    have u1 := blk_free hb5 1
    have u2 := blk_free hb5 2
    have HB5 := Lib.hid hb5
    clear hb5
    simp only [List.getElem?_toArray, List.getElem?_cons_zero, List.getElem?_cons_succ] at x0 x1 x2 y0 y1 y2
    have hf5 := Fr.set3 W4 (w.heap.size + 1) (.int .i64 high) (.slice (some ⟨B, off + 1, none⟩) l.length (fc1 - 1)) (.slice la1 limbo.length lc1)
    have hf6 : Fr [w.heap.size, w.heap.size + 1] w1 _ := (HF4.out.mono (by simp)).trans (hf5.mono (by simp))
    have hG : ∀ y, y ∈ [w.heap.size, w.heap.size + 1] → y < W1.heap.size := by
      have q1 := lt_of_heap HB1.out; have q2 := lt_of_heap HB2.out
      intro y hy; simp only [List.mem_cons, List.not_mem_nil, or_false] at hy; rcases hy with rfl | rfl <;> assumption
    have hpp := HN1.out.parts
    have k1 := (hpp.1.drop1.sets hG hf6).less (w0 := w) HF0.out.size
    have k2 := (hpp.2.sets hG hf6).less (w0 := w) HF0.out.size
    rw [List.length_cons, Nat.add_sub_cancel] at k1
    have HFIN : Hid (takeP w (⟨high, l, limbo⟩, x, 0) (.returned (.tuple #[.agg #[.int .i64 high, .slice (some ⟨B, off + 1, none⟩) l.length (fc1 - 1), .slice la1 limbo.length lc1], .int .i64 x, .int .i64 0])) _) := Lib.hid ⟨_, rfl, fun S hS => ⟨_, _, rfl, k1 S hS, k2 S hS⟩, (((HF0.out.trans HFR1.out).nil (S := [w.heap.size, w.heap.size + 1])).trans hf6).drop (by simp)⟩
    have hb7 := blk_set3 HB5.out (.int .i64 high) (.slice (some ⟨B, off + 1, none⟩) l.length (fc1 - 1)) (.slice la1 limbo.length lc1)
    have s0 := blk_cell hb7 0
    have s1 := blk_cell hb7 1
    have s2 := blk_cell hb7 2
    simp only [List.getElem?_toArray, List.getElem?_cons_zero, List.getElem?_cons_succ] at s0 s1 s2
    have HS := Lib.hid (And.intro s0 (And.intro s1 s2))
    clear hf5 hf6 hG hpp k1 k2 hb7 s0 s1 s2
    go_wp2
    obtain ⟨s0, s1, s2⟩ := HS.out
    exact bodyPost_ret (v := .tuple #[.agg #[.int .i64 high, .slice (some ⟨B, off + 1, none⟩) l.length (fc1 - 1), .slice la1 limbo.length lc1], .int .i64 x, .int .i64 0]) (by simp [results, Tryz.results174, go_sem, s0, s1, s2]) rfl HFIN.out
set_option maxRecDepth 100000 in
set_option maxHeartbeats 1000000 in
theorem take_nil {S : List Nat} {v : Value} {high : Int} {limbo : List Int} (most : Int) (w : World) (h : PoolAt S w v (⟨high, [], limbo⟩)) (hs : PoolD.small (⟨high, [], limbo⟩)) (hh0 : 0 ≤ high) (hh1 : high ≤ 5000) :
    Calls Tryz.prog 174 #[v, .int .i64 most] w (takeP w (nilR high most limbo)) := by
  obtain ⟨fv, lv, rfl, h1, h2⟩ := h.mono (S' := []) (by simp)
  obtain ⟨fa, fc, rfl, _⟩ := Slc.form h1
  obtain ⟨la, lc, rfl, _⟩ := Slc.form h2
  clear h
  obtain ⟨W1, hW1⟩ : ∃ W, (w.alloc (.cells #[.int .i64 high, .slice fa 0 fc, .slice la limbo.length lc] 107)).alloc (.cells #[.int .i64 0, .slice none 0 0, .slice none 0 0] 107) = W := ⟨_, rfl⟩
  have hf0 : Fr [] w W1 := by rw [← hW1]; exact (Fr.alloc1 _ _).trans (Fr.alloc1 _ _)
  have hb1 : W1.heap[w.heap.size]? = some (.cells #[.int .i64 high, .slice fa 0 fc, .slice la limbo.length lc] 107 (0, 0)) := by rw [← hW1]; exact blk_alloc (blk_new _ _) _
  have hb2 : W1.heap[w.heap.size + 1]? = some (.cells #[.int .i64 0, .slice none 0 0, .slice none 0 0] 107 (0, 0)) := by
    rw [← hW1]
    have := blk_new (w.alloc (.cells #[.int .i64 high, .slice fa 0 fc, .slice la limbo.length lc] 107)) (.cells #[.int .i64 0, .slice none 0 0, .slice none 0 0] 107)
    simpa using this
  have HP := Lib.hid (own_k W1 (S := []) (v := .agg #[.int .i64 high, .slice fa 0 fc, .slice la limbo.length lc]) (p := ⟨high, [], limbo⟩) ⟨_, _, rfl, h1.kept hf0, h2.kept hf0⟩ hs)
  have HB1 := Lib.hid hb1
  have HB2 := Lib.hid hb2
  have HF0 := Lib.hid hf0
  have c0 := blk_cell hb1 0
  have c1 := blk_cell hb1 1
  have c2 := blk_cell hb1 2
  simp only [List.getElem?_toArray, List.getElem?_cons_zero, List.getElem?_cons_succ] at c0 c1 c2
  clear h1 h2 hb1 hb2 hf0
  go_enter Tryz.func174, Tryz.ntmps174
  go_wp2_with fail
  refine HP.out.mono ?_
  rintro e w1 ⟨v1, rfl, hn1, hf1⟩
  clear hW1
  obtain ⟨fv1, lv1, rfl, g1, g2⟩ := hn1 [w.heap.size, w.heap.size + 1] (by have q1 := lt_of_heap HB1.out; have q2 := lt_of_heap HB2.out; intro x hx; simp only [List.mem_cons, List.not_mem_nil, or_false] at hx; rcases hx with rfl | rfl <;> assumption)
  obtain ⟨fa1, fc1, rfl, hcap1⟩ := Slc.form g1
  obtain ⟨la1, lc1, rfl, _⟩ := Slc.form g2
  have hb1 := hf1.heap HB1.out (by simp)
  have hb2 := hf1.heap HB2.out (by simp)
  have x0 := blk_cell hb1 0
  have x1 := blk_cell hb1 1
  have x2 := blk_cell hb1 2
  have z0 := blk_free hb1 0
  have z1 := blk_free hb1 1
  have z2 := blk_free hb1 2
  have y0 := blk_cell hb2 0
  have y1 := blk_cell hb2 1
  have y2 := blk_cell hb2 2
  have u0 := blk_free hb2 0
  have u1 := blk_free hb2 1
  have u2 := blk_free hb2 2
  simp only [List.getElem?_toArray, List.getElem?_cons_zero, List.getElem?_cons_succ] at x0 x1 x2 y0 y1 y2
  have HN1 := Lib.hid hn1
  have HFR1 := Lib.hid hf1
  have HBB1 := Lib.hid hb1
  have HBB2 := Lib.hid hb2
  clear hn1 hf1 hb1 hb2 g1 g2 HP hcap1
  have hb4 := blk_set3 HBB1.out (.int .i64 high) (.slice fa1 0 fc1) (.slice la1 limbo.length lc1)
  have hf4 := Fr.set3 w1 w.heap.size (.int .i64 high) (.slice fa1 0 fc1) (.slice la1 limbo.length lc1)
  have HB4 := Lib.hid hb4
  have HF4 := Lib.hid hf4
  have hpp := HN1.out.parts
  have HG : Hid (∀ y, y ∈ [w.heap.size, w.heap.size + 1] → y < W1.heap.size) := Lib.hid (by
    have q1 := lt_of_heap HB1.out; have q2 := lt_of_heap HB2.out
    intro y hy; simp only [List.mem_cons, List.not_mem_nil, or_false] at hy; rcases hy with rfl | rfl <;> assumption)
  have HPP := Lib.hid hpp
  clear hb4 hf4 hpp
  simp only [List.length_nil] at *
  go_upto_region 6 with fail
  clear x0 x1 x2 z0 z1 z2 y0 y1 y2 u0 u1 u2 c0 c1 c2
  generalize (((w1.setCell ⟨w.heap.size, 0, none⟩ (.int .i64 high)).setCell ⟨w.heap.size, 1, none⟩ (.slice fa1 0 fc1)).setCell ⟨w.heap.size, 2, none⟩ (.slice la1 limbo.length lc1)) = W4 at *
  have x0 := blk_cell HB4.out 0
  have x1 := blk_cell HB4.out 1
  have x2 := blk_cell HB4.out 2
  have z0 := blk_free HB4.out 0
  have hb5 := HF4.out.heap HBB2.out (by simp)
  have y0 := blk_cell hb5 0
  have y1 := blk_cell hb5 1
  have y2 := blk_cell hb5 2
  have u0 := blk_free hb5 0
  have u1 := blk_free hb5 1
  have u2 := blk_free hb5 2
  have HB5 := Lib.hid hb5
  clear hb5
  simp only [List.getElem?_toArray, List.getElem?_cons_zero, List.getElem?_cons_succ] at x0 x1 x2 y0 y1 y2
  by_cases hm : most ≤ high
  · have HQ : Hid (nilR high most limbo = (⟨0, [], []⟩, 0, 60)) := Lib.hid (by unfold nilR; rw [if_pos hm])
    have hf5 := Fr.set3 W4 (w.heap.size + 1) (.int .i64 0) (.slice none 0 0) (.slice none 0 0)
    have hf6 : Fr [w.heap.size, w.heap.size + 1] w1 _ := (HF4.out.mono (by simp)).trans (hf5.mono (by simp))
    have HFIN : Hid (takeP w (⟨0, [], []⟩, 0, 60) (.returned (.tuple #[.agg #[.int .i64 0, .slice none 0 0, .slice none 0 0], .int .i64 0, .int .i64 60])) _) := Lib.hid ⟨_, rfl, fun S hS => ⟨_, _, rfl, Slc.nil _ _, Slc.nil _ _⟩, (((HF0.out.trans HFR1.out).nil (S := [w.heap.size, w.heap.size + 1])).trans hf6).drop (by simp)⟩
    have hb7 := blk_set3 HB5.out (.int .i64 0) (.slice none 0 0) (.slice none 0 0)
    have s0 := blk_cell hb7 0
    have s1 := blk_cell hb7 1
    have s2 := blk_cell hb7 2
    simp only [List.getElem?_toArray, List.getElem?_cons_zero, List.getElem?_cons_succ] at s0 s1 s2
    have HS := Lib.hid (And.intro s0 (And.intro s1 s2))
    clear hf5 hf6 hb7 s0 s1 s2
    go_wp2
    obtain ⟨s0, s1, s2⟩ := HS.out
    exact bodyPost_ret (v := .tuple #[.agg #[.int .i64 0, .slice none 0 0, .slice none 0 0], .int .i64 0, .int .i64 60]) (by simp [results, Tryz.results174, go_sem, s0, s1, s2]) rfl (by rw [HQ.out]; exact HFIN.out)
  · have HQ : Hid (nilR high most limbo = (⟨high + 1, [], limbo⟩, high, 0)) := Lib.hid (by unfold nilR; rw [if_neg hm])
    have hm' : high < most := by omega
    have hw : IntKind.i64.wrap (high + 1) = high + 1 := by rw [IntKind.wrap_i64]; omega
    have hb6 : (W4.setCell ⟨w.heap.size, 0, none⟩ (.int .i64 (high + 1))).heap[w.heap.size]? = some (.cells #[.int .i64 (high + 1), .slice fa1 0 fc1, .slice la1 limbo.length lc1] 107 (0, 0)) := by rw [blk_set HB4.out 0 _]; rfl
    have hf7 := HF4.out.trans (Fr.setCell W4 ⟨w.heap.size, 0, none⟩ (.int .i64 (high + 1)))
    have HB6 := Lib.hid hb6
    have HF7 := Lib.hid hf7
    clear hb6 hf7 hm
    go_upto_region 9 with fail
    clear x0 x1 x2 z0 y0 y1 y2 u0 u1 u2 hw
    generalize (W4.setCell ⟨w.heap.size, 0, none⟩ (.int .i64 (high + 1))) = W5 at *
    have x0 := blk_cell HB6.out 0
    have x1 := blk_cell HB6.out 1
    have x2 := blk_cell HB6.out 2
    have hb5 := HF7.out.heap HBB2.out (by simp)
    have y0 := blk_cell hb5 0
    have y1 := blk_cell hb5 1
    have y2 := blk_cell hb5 2
    have u0 := blk_free hb5 0
    have u1 := blk_free hb5 1
    have u2 := blk_free hb5 2
    simp only [List.getElem?_toArray, List.getElem?_cons_zero, List.getElem?_cons_succ] at x0 x1 x2 y0 y1 y2
    have hf5 := Fr.set3 W5 (w.heap.size + 1) (.int .i64 (high + 1)) (.slice fa1 0 fc1) (.slice la1 limbo.length lc1)
    have hf6 : Fr [w.heap.size, w.heap.size + 1] w1 _ := (HF7.out.mono (by simp)).trans (hf5.mono (by simp))
    have k1 := (HPP.out.1.sets HG.out hf6).less (w0 := w) HF0.out.size
    have k2 := (HPP.out.2.sets HG.out hf6).less (w0 := w) HF0.out.size
    have HFIN : Hid (takeP w (⟨high + 1, [], limbo⟩, high, 0) (.returned (.tuple #[.agg #[.int .i64 (high + 1), .slice fa1 0 fc1, .slice la1 limbo.length lc1], .int .i64 high, .int .i64 0])) _) := Lib.hid ⟨_, rfl, fun S hS => ⟨_, _, rfl, k1 S hS, k2 S hS⟩, (((HF0.out.trans HFR1.out).nil (S := [w.heap.size, w.heap.size + 1])).trans hf6).drop (by simp)⟩
    have hb7 := blk_set3 hb5 (.int .i64 (high + 1)) (.slice fa1 0 fc1) (.slice la1 limbo.length lc1)
    have s0 := blk_cell hb7 0
    have s1 := blk_cell hb7 1
    have s2 := blk_cell hb7 2
    simp only [List.getElem?_toArray, List.getElem?_cons_zero, List.getElem?_cons_succ] at s0 s1 s2
    have HS := Lib.hid (And.intro s0 (And.intro s1 s2))
    clear hf5 hf6 hb7 s0 s1 s2 k1 k2 hb5
    go_region
    all_goals
      go_wp2
      obtain ⟨s0, s1, s2⟩ := HS.out
      exact bodyPost_ret (v := .tuple #[.agg #[.int .i64 (high + 1), .slice fa1 0 fc1, .slice la1 limbo.length lc1], .int .i64 high, .int .i64 0]) (by simp [results, Tryz.results174, go_sem, s0, s1, s2]) rfl (by rw [HQ.out]; exact HFIN.out.drew)
theorem take_k {S : List Nat} {v : Value} {p : PoolD} (most : Int) (w : World) (h : PoolAt S w v p) (hs : p.small) (hh0 : 0 ≤ p.high) (hh1 : p.high ≤ 5000) :
    Calls Tryz.prog 174 #[v, .int .i64 most] w (takeP w (p.take most)) := by
  obtain ⟨high, free, limbo⟩ := p
  cases free with
  | nil => exact take_nil most w h hs hh0 hh1
  | cons x l => exact take_some most w h hs hh0 hh1
end Go.Proofs.YtgpohemcfgepeaaGreat

namespace Go.Proofs.YtgpohemcfgepeaaGreat
open Go.RowKit Go.MapKept
def giveP (w : World) (r : PoolD × Int) (e : Ending) (w' : World) : Prop := ∃ v, e = .returned (.tuple #[v, .int .i64 r.2]) ∧ NewPool w w' v r.1 ∧ Fr [] w w'
def PoolD.give (p : PoolD) (n : Int) : PoolD × Int := if p.may n = true then ({ p with limbo := laidP p.limbo n }, 0) else (⟨0, [], []⟩, 1)
def PoolD.back (p : PoolD) (n : Int) : PoolD × Int := if p.may n = true then ({ p with free := laidP p.free n }, 0) else (⟨0, [], []⟩, 1)
set_option maxRecDepth 100000 in
set_option maxHeartbeats 1000000 in
theorem give_yes {S : List Nat} {v : Value} {high : Int} {free limbo : List Int} (n : Int) (w : World) (h : PoolAt S w v (⟨high, free, limbo⟩)) (hs : PoolD.small (⟨high, free, limbo⟩)) (hm : PoolD.may ⟨high, free, limbo⟩ n = true) :
    Calls Tryz.prog 132 #[v, .int .i64 n] w (giveP w (⟨high, free, laidP limbo n⟩, 0)) := by
  obtain ⟨fv, lv, rfl, h1, h2⟩ := h.mono (S' := []) (by simp)
  obtain ⟨fa, fc, rfl, _⟩ := Slc.form h1
  obtain ⟨la, lc, rfl, _⟩ := Slc.form h2
  clear h
  obtain ⟨W1, hW1⟩ : ∃ W, (w.alloc (.cells #[.int .i64 high, .slice fa free.length fc, .slice la limbo.length lc] 107)).alloc (.cells #[.int .i64 0, .slice none 0 0, .slice none 0 0] 107) = W := ⟨_, rfl⟩
  have hf0 : Fr [] w W1 := by rw [← hW1]; exact (Fr.alloc1 _ _).trans (Fr.alloc1 _ _)
  have hb1 : W1.heap[w.heap.size]? = some (.cells #[.int .i64 high, .slice fa free.length fc, .slice la limbo.length lc] 107 (0, 0)) := by rw [← hW1]; exact blk_alloc (blk_new _ _) _
  have hb2 : W1.heap[w.heap.size + 1]? = some (.cells #[.int .i64 0, .slice none 0 0, .slice none 0 0] 107 (0, 0)) := by
    rw [← hW1]
    have := blk_new (w.alloc (.cells #[.int .i64 high, .slice fa free.length fc, .slice la limbo.length lc] 107)) (.cells #[.int .i64 0, .slice none 0 0, .slice none 0 0] 107)
    simpa using this
  have HMAY := Lib.hid (may_k n W1 (S := []) (v := .agg #[.int .i64 high, .slice fa free.length fc, .slice la limbo.length lc]) (p := ⟨high, free, limbo⟩) ⟨_, _, rfl, h1.kept hf0, h2.kept hf0⟩ hs hm)
  have HAT : Hid (PoolAt [] W1 (.agg #[.int .i64 high, .slice fa free.length fc, .slice la limbo.length lc]) ⟨high, free, limbo⟩) := Lib.hid ⟨_, _, rfl, h1.kept hf0, h2.kept hf0⟩
  have HSM := Lib.hid hs
  have HB1 := Lib.hid hb1
  have HB2 := Lib.hid hb2
  have HF0 := Lib.hid hf0
  have c0 := blk_cell hb1 0
  have c1 := blk_cell hb1 1
  have c2 := blk_cell hb1 2
  simp only [List.getElem?_toArray, List.getElem?_cons_zero, List.getElem?_cons_succ] at c0 c1 c2
  clear h1 h2 hb1 hb2 hf0 hs hm
  go_enter Tryz.func132, Tryz.ntmps132
  go_wp2_with fail
  refine HMAY.out.mono ?_
  rintro e w0 ⟨rfl, hf00⟩
  clear hW1
  have c0' := hf00.cellSome c0 (by simp)
  have c1' := hf00.cellSome c1 (by simp)
  have c2' := hf00.cellSome c2 (by simp)
  have HP := Lib.hid (own_k w0 (HAT.out.kept hf00) HSM.out)
  have HF00 := Lib.hid hf00
  clear hf00
  go_wp2_with fail
  refine HP.out.mono ?_
  rintro e w1 ⟨v1, rfl, hn1, hf1⟩
  have hf1' : Fr [] W1 w1 := HF00.out.trans hf1
  have hn1' : NewPool W1 w1 v1 ⟨high, free, limbo⟩ := fun S hS => hn1 S (fun x hx => Nat.lt_of_lt_of_le (hS x hx) HF00.out.size)
  clear hn1 hf1
  have hn1 := hn1'
  have hf1 := hf1'
  clear hn1' hf1'
  obtain ⟨fv1, lv1, rfl, g1, g2⟩ := hn1 [w.heap.size, w.heap.size + 1] (by have q1 := lt_of_heap HB1.out; have q2 := lt_of_heap HB2.out; intro x hx; simp only [List.mem_cons, List.not_mem_nil, or_false] at hx; rcases hx with rfl | rfl <;> assumption)
  obtain ⟨fa1, fc1, rfl, hcap1⟩ := Slc.form g1
  obtain ⟨la1, lc1, rfl, _⟩ := Slc.form g2
  have hb1 := hf1.heap HB1.out (by simp)
  have hb2 := hf1.heap HB2.out (by simp)
  have x0 := blk_cell hb1 0
  have x1 := blk_cell hb1 1
  have x2 := blk_cell hb1 2
  have z0 := blk_free hb1 0
  have z1 := blk_free hb1 1
  have z2 := blk_free hb1 2
  have y0 := blk_cell hb2 0
  have y1 := blk_cell hb2 1
  have y2 := blk_cell hb2 2
  have u0 := blk_free hb2 0
  have u1 := blk_free hb2 1
  have u2 := blk_free hb2 2
  simp only [List.getElem?_toArray, List.getElem?_cons_zero, List.getElem?_cons_succ] at x0 x1 x2 y0 y1 y2
  have HN1 := Lib.hid hn1
  have HFR1 := Lib.hid hf1
  have HBB1 := Lib.hid hb1
  have HBB2 := Lib.hid hb2
  have hb4 := blk_set3 HBB1.out (.int .i64 high) (.slice fa1 free.length fc1) (.slice la1 limbo.length lc1)
  have hf4 := Fr.set3 w1 w.heap.size (.int .i64 high) (.slice fa1 free.length fc1) (.slice la1 limbo.length lc1)
  have HB4 := Lib.hid hb4
  have HF4 := Lib.hid hf4
  have hpp := hn1.parts
  have HG : Hid (∀ y, y ∈ [w.heap.size, w.heap.size + 1] → y < W1.heap.size) := Lib.hid (by
    have q1 := lt_of_heap HB1.out; have q2 := lt_of_heap HB2.out
    intro y hy; simp only [List.mem_cons, List.not_mem_nil, or_false] at hy; rcases hy with rfl | rfl <;> assumption)
  have HPP := Lib.hid hpp
  clear hn1 hf1 hb1 hb2 g1 g2 HP hcap1 hb4 hf4 hpp c0' c1' c2'
  go_upto_region 4 with fail
  clear x0 x1 x2 z0 z1 z2 y0 y1 y2 u0 u1 u2 c0 c1 c2
  generalize (((w1.setCell ⟨w.heap.size, 0, none⟩ (.int .i64 high)).setCell ⟨w.heap.size, 1, none⟩ (.slice fa1 free.length fc1)).setCell ⟨w.heap.size, 2, none⟩ (.slice la1 limbo.length lc1)) = W4 at *
  have x0 := blk_cell HB4.out 0
  have x1 := blk_cell HB4.out 1
  have x2 := blk_cell HB4.out 2
  simp only [List.getElem?_toArray, List.getElem?_cons_zero, List.getElem?_cons_succ] at x0 x1 x2
  have hf4' : Fr [w.heap.size, w.heap.size + 1] w1 W4 := HF4.out.mono (by simp)
  have HLA := Lib.hid (laid_k n W4 (HPP.out.2.sets HG.out hf4' [] (by simp)) (by have := HSM.out.2; simp only at this ⊢; omega))
  have HI1 := Lib.hid (HPP.out.1.sets HG.out hf4')
  have HI2 := Lib.hid (HPP.out.2.sets HG.out hf4')
  clear hf4'
  go_wp2_with fail
  refine HLA.out.mono ?_
  rintro e w5 ⟨v5, rfl, hn5, hf5⟩
  obtain ⟨a5, k5, rfl, _⟩ := hn5.form
  have hb5 := hf5.heap HB4.out (by simp)
  have x0' := blk_cell hb5 0
  have x1' := blk_cell hb5 1
  have x2' := blk_cell hb5 2
  have zf := blk_free hb5 2
  simp only [List.getElem?_toArray, List.getElem?_cons_zero, List.getElem?_cons_succ] at x0' x1' x2'
  have hb6 : (w5.setCell ⟨w.heap.size, 2, none⟩ (.slice a5 (laidP limbo n).length k5)).heap[w.heap.size]? = some (.cells #[.int .i64 high, .slice fa1 free.length fc1, .slice a5 (laidP limbo n).length k5] 107 (0, 0)) := by rw [blk_set hb5 2 _]; rfl
  have hfs := Fr.setCell w5 ⟨w.heap.size, 2, none⟩ (.slice a5 (laidP limbo n).length k5)
  have HB6 := Lib.hid hb6
  have hgW : w.heap.size < W4.heap.size := lt_of_heap HB4.out
  have HN5 := Lib.hid (hn5.set hgW hfs)
  have HF6 := Lib.hid ((HF4.out.trans hf5.nil).trans hfs)
  have HF56 : Hid (Fr [w.heap.size] W4 _) := Lib.hid (hf5.nil.trans hfs)
  clear hn5 hf5 hb5 hb6 hfs hgW HLA
  go_upto_region 5 with fail
  clear x0 x1 x2 x0' x1' x2' zf
  generalize (w5.setCell ⟨w.heap.size, 2, none⟩ (.slice a5 (laidP limbo n).length k5)) = W6 at *
  have x0 := blk_cell HB6.out 0
  have x1 := blk_cell HB6.out 1
  have x2 := blk_cell HB6.out 2
  have hb7 := HF6.out.heap HBB2.out (by simp)
  have y0 := blk_cell hb7 0
  have y1 := blk_cell hb7 1
  have y2 := blk_cell hb7 2
  have u0 := blk_free hb7 0
  have u1 := blk_free hb7 1
  have u2 := blk_free hb7 2
  simp only [List.getElem?_toArray, List.getElem?_cons_zero, List.getElem?_cons_succ] at x0 x1 x2 y0 y1 y2
  have hf8 := Fr.set3 W6 (w.heap.size + 1) (.int .i64 high) (.slice fa1 free.length fc1) (.slice a5 (laidP limbo n).length k5)
  have hfA : Fr [w.heap.size, w.heap.size + 1] w1 _ := (HF6.out.mono (by simp)).trans (hf8.mono (by simp))
  have hb8 := blk_set3 hb7 (.int .i64 high) (.slice fa1 free.length fc1) (.slice a5 (laidP limbo n).length k5)
  have hw4 : w.heap.size + 1 < W4.heap.size := Nat.lt_of_lt_of_le (HG.out _ (by simp)) (Nat.le_trans HFR1.out.size HF4.out.size)
  have kn := (HN5.out.set hw4 hf8).less (w0 := w) (by omega)
  have ko := (HPP.out.1.sets HG.out hfA).less (w0 := w) HF0.out.size
  have HFIN : Hid (giveP w (⟨high, free, laidP limbo n⟩, 0) (.returned (.tuple #[.agg #[.int .i64 high, .slice fa1 free.length fc1, .slice a5 (laidP limbo n).length k5], .int .i64 0])) _) := Lib.hid ⟨_, rfl, fun S hS => ⟨_, _, rfl, ko S hS, kn S hS⟩, (((HF0.out.trans HFR1.out).nil (S := [w.heap.size, w.heap.size + 1])).trans hfA).drop (by simp)⟩
  have s0 := blk_cell hb8 0
  have s1 := blk_cell hb8 1
  have s2 := blk_cell hb8 2
  simp only [List.getElem?_toArray, List.getElem?_cons_zero, List.getElem?_cons_succ] at s0 s1 s2
  have HS := Lib.hid (And.intro s0 (And.intro s1 s2))
  clear hf8 hfA hb8 s0 s1 s2 kn ko hb7 hw4
  go_wp2
  obtain ⟨s0, s1, s2⟩ := HS.out
  exact bodyPost_ret (v := .tuple #[.agg #[.int .i64 high, .slice fa1 free.length fc1, .slice a5 (laidP limbo n).length k5], .int .i64 0]) (by simp [results, Tryz.results132, go_sem, s0, s1, s2]) rfl HFIN.out
set_option maxRecDepth 100000 in
set_option maxHeartbeats 1000000 in
theorem back_yes {S : List Nat} {v : Value} {high : Int} {free limbo : List Int} (n : Int) (w : World) (h : PoolAt S w v (⟨high, free, limbo⟩)) (hs : PoolD.small (⟨high, free, limbo⟩)) (hm : PoolD.may ⟨high, free, limbo⟩ n = true) :
    Calls Tryz.prog 139 #[v, .int .i64 n] w (giveP w (⟨high, laidP free n, limbo⟩, 0)) := by
  obtain ⟨fv, lv, rfl, h1, h2⟩ := h.mono (S' := []) (by simp)
  obtain ⟨fa, fc, rfl, _⟩ := Slc.form h1
  obtain ⟨la, lc, rfl, _⟩ := Slc.form h2
  clear h
  obtain ⟨W1, hW1⟩ : ∃ W, (w.alloc (.cells #[.int .i64 high, .slice fa free.length fc, .slice la limbo.length lc] 107)).alloc (.cells #[.int .i64 0, .slice none 0 0, .slice none 0 0] 107) = W := ⟨_, rfl⟩
  have hf0 : Fr [] w W1 := by rw [← hW1]; exact (Fr.alloc1 _ _).trans (Fr.alloc1 _ _)
  have hb1 : W1.heap[w.heap.size]? = some (.cells #[.int .i64 high, .slice fa free.length fc, .slice la limbo.length lc] 107 (0, 0)) := by rw [← hW1]; exact blk_alloc (blk_new _ _) _
  have hb2 : W1.heap[w.heap.size + 1]? = some (.cells #[.int .i64 0, .slice none 0 0, .slice none 0 0] 107 (0, 0)) := by
    rw [← hW1]
    have := blk_new (w.alloc (.cells #[.int .i64 high, .slice fa free.length fc, .slice la limbo.length lc] 107)) (.cells #[.int .i64 0, .slice none 0 0, .slice none 0 0] 107)
    simpa using this
  have HMAY := Lib.hid (may_k n W1 (S := []) (v := .agg #[.int .i64 high, .slice fa free.length fc, .slice la limbo.length lc]) (p := ⟨high, free, limbo⟩) ⟨_, _, rfl, h1.kept hf0, h2.kept hf0⟩ hs hm)
  have HAT : Hid (PoolAt [] W1 (.agg #[.int .i64 high, .slice fa free.length fc, .slice la limbo.length lc]) ⟨high, free, limbo⟩) := Lib.hid ⟨_, _, rfl, h1.kept hf0, h2.kept hf0⟩
  have HSM := Lib.hid hs
  have HB1 := Lib.hid hb1
  have HB2 := Lib.hid hb2
  have HF0 := Lib.hid hf0
  have c0 := blk_cell hb1 0
  have c1 := blk_cell hb1 1
  have c2 := blk_cell hb1 2
  simp only [List.getElem?_toArray, List.getElem?_cons_zero, List.getElem?_cons_succ] at c0 c1 c2
  clear h1 h2 hb1 hb2 hf0 hs hm
  go_enter Tryz.func139, Tryz.ntmps139
  go_wp2_with fail
  refine HMAY.out.mono ?_
  rintro e w0 ⟨rfl, hf00⟩
  clear hW1
  have c0' := hf00.cellSome c0 (by simp)
  have c1' := hf00.cellSome c1 (by simp)
  have c2' := hf00.cellSome c2 (by simp)
  have HP := Lib.hid (own_k w0 (HAT.out.kept hf00) HSM.out)
  have HF00 := Lib.hid hf00
  clear hf00
  go_wp2_with fail
  refine HP.out.mono ?_
  rintro e w1 ⟨v1, rfl, hn1, hf1⟩
  have hf1' : Fr [] W1 w1 := HF00.out.trans hf1
  have hn1' : NewPool W1 w1 v1 ⟨high, free, limbo⟩ := fun S hS => hn1 S (fun x hx => Nat.lt_of_lt_of_le (hS x hx) HF00.out.size)
  clear hn1 hf1
  have hn1 := hn1'
  have hf1 := hf1'
  clear hn1' hf1'
  obtain ⟨fv1, lv1, rfl, g1, g2⟩ := hn1 [w.heap.size, w.heap.size + 1] (by have q1 := lt_of_heap HB1.out; have q2 := lt_of_heap HB2.out; intro x hx; simp only [List.mem_cons, List.not_mem_nil, or_false] at hx; rcases hx with rfl | rfl <;> assumption)
  obtain ⟨fa1, fc1, rfl, hcap1⟩ := Slc.form g1
  obtain ⟨la1, lc1, rfl, _⟩ := Slc.form g2
  have hb1 := hf1.heap HB1.out (by simp)
  have hb2 := hf1.heap HB2.out (by simp)
  have x0 := blk_cell hb1 0
  have x1 := blk_cell hb1 1
  have x2 := blk_cell hb1 2
  have z0 := blk_free hb1 0
  have z1 := blk_free hb1 1
  have z2 := blk_free hb1 2
  have y0 := blk_cell hb2 0
  have y1 := blk_cell hb2 1
  have y2 := blk_cell hb2 2
  have u0 := blk_free hb2 0
  have u1 := blk_free hb2 1
  have u2 := blk_free hb2 2
  simp only [List.getElem?_toArray, List.getElem?_cons_zero, List.getElem?_cons_succ] at x0 x1 x2 y0 y1 y2
  have HN1 := Lib.hid hn1
  have HFR1 := Lib.hid hf1
  have HBB1 := Lib.hid hb1
  have HBB2 := Lib.hid hb2
  have hb4 := blk_set3 HBB1.out (.int .i64 high) (.slice fa1 free.length fc1) (.slice la1 limbo.length lc1)
  have hf4 := Fr.set3 w1 w.heap.size (.int .i64 high) (.slice fa1 free.length fc1) (.slice la1 limbo.length lc1)
  have HB4 := Lib.hid hb4
  have HF4 := Lib.hid hf4
  have hpp := hn1.parts
  have HG : Hid (∀ y, y ∈ [w.heap.size, w.heap.size + 1] → y < W1.heap.size) := Lib.hid (by
    have q1 := lt_of_heap HB1.out; have q2 := lt_of_heap HB2.out
    intro y hy; simp only [List.mem_cons, List.not_mem_nil, or_false] at hy; rcases hy with rfl | rfl <;> assumption)
  have HPP := Lib.hid hpp
  clear hn1 hf1 hb1 hb2 g1 g2 HP hcap1 hb4 hf4 hpp c0' c1' c2'
  go_upto_region 4 with fail
  clear x0 x1 x2 z0 z1 z2 y0 y1 y2 u0 u1 u2 c0 c1 c2
  generalize (((w1.setCell ⟨w.heap.size, 0, none⟩ (.int .i64 high)).setCell ⟨w.heap.size, 1, none⟩ (.slice fa1 free.length fc1)).setCell ⟨w.heap.size, 2, none⟩ (.slice la1 limbo.length lc1)) = W4 at *
  have x0 := blk_cell HB4.out 0
  have x1 := blk_cell HB4.out 1
  have x2 := blk_cell HB4.out 2
  simp only [List.getElem?_toArray, List.getElem?_cons_zero, List.getElem?_cons_succ] at x0 x1 x2
  have hf4' : Fr [w.heap.size, w.heap.size + 1] w1 W4 := HF4.out.mono (by simp)
  have HLA := Lib.hid (laid_k n W4 (HPP.out.1.sets HG.out hf4' [] (by simp)) (by have := HSM.out.1; simp only at this ⊢; omega))
  have HI1 := Lib.hid (HPP.out.1.sets HG.out hf4')
  have HI2 := Lib.hid (HPP.out.2.sets HG.out hf4')
  clear hf4'
  go_wp2_with fail
  refine HLA.out.mono ?_
  rintro e w5 ⟨v5, rfl, hn5, hf5⟩
  obtain ⟨a5, k5, rfl, _⟩ := hn5.form
  have hb5 := hf5.heap HB4.out (by simp)
  have x0' := blk_cell hb5 0
  have x1' := blk_cell hb5 1
  have x2' := blk_cell hb5 2
  have zf := blk_free hb5 1
  simp only [List.getElem?_toArray, List.getElem?_cons_zero, List.getElem?_cons_succ] at x0' x1' x2'
  have hb6 : (w5.setCell ⟨w.heap.size, 1, none⟩ (.slice a5 (laidP free n).length k5)).heap[w.heap.size]? = some (.cells #[.int .i64 high, .slice a5 (laidP free n).length k5, .slice la1 limbo.length lc1] 107 (0, 0)) := by rw [blk_set hb5 1 _]; rfl
  have hfs := Fr.setCell w5 ⟨w.heap.size, 1, none⟩ (.slice a5 (laidP free n).length k5)
  have HB6 := Lib.hid hb6
  have hgW : w.heap.size < W4.heap.size := lt_of_heap HB4.out
  have HN5 := Lib.hid (hn5.set hgW hfs)
  have HF6 := Lib.hid ((HF4.out.trans hf5.nil).trans hfs)
  have HF56 : Hid (Fr [w.heap.size] W4 _) := Lib.hid (hf5.nil.trans hfs)
  clear hn5 hf5 hb5 hb6 hfs hgW HLA
  go_upto_region 5 with fail
  clear x0 x1 x2 x0' x1' x2' zf
  generalize (w5.setCell ⟨w.heap.size, 1, none⟩ (.slice a5 (laidP free n).length k5)) = W6 at *
  have x0 := blk_cell HB6.out 0
  have x1 := blk_cell HB6.out 1
  have x2 := blk_cell HB6.out 2
  have hb7 := HF6.out.heap HBB2.out (by simp)
  have y0 := blk_cell hb7 0
  have y1 := blk_cell hb7 1
  have y2 := blk_cell hb7 2
  have u0 := blk_free hb7 0
  have u1 := blk_free hb7 1
  have u2 := blk_free hb7 2
  simp only [List.getElem?_toArray, List.getElem?_cons_zero, List.getElem?_cons_succ] at x0 x1 x2 y0 y1 y2
  have hf8 := Fr.set3 W6 (w.heap.size + 1) (.int .i64 high) (.slice a5 (laidP free n).length k5) (.slice la1 limbo.length lc1)
  have hfA : Fr [w.heap.size, w.heap.size + 1] w1 _ := (HF6.out.mono (by simp)).trans (hf8.mono (by simp))
  have hb8 := blk_set3 hb7 (.int .i64 high) (.slice a5 (laidP free n).length k5) (.slice la1 limbo.length lc1)
  have hw4 : w.heap.size + 1 < W4.heap.size := Nat.lt_of_lt_of_le (HG.out _ (by simp)) (Nat.le_trans HFR1.out.size HF4.out.size)
  have kn := (HN5.out.set hw4 hf8).less (w0 := w) (by omega)
  have ko := (HPP.out.2.sets HG.out hfA).less (w0 := w) HF0.out.size
  have HFIN : Hid (giveP w (⟨high, laidP free n, limbo⟩, 0) (.returned (.tuple #[.agg #[.int .i64 high, .slice a5 (laidP free n).length k5, .slice la1 limbo.length lc1], .int .i64 0])) _) := Lib.hid ⟨_, rfl, fun S hS => ⟨_, _, rfl, kn S hS, ko S hS⟩, (((HF0.out.trans HFR1.out).nil (S := [w.heap.size, w.heap.size + 1])).trans hfA).drop (by simp)⟩
  have s0 := blk_cell hb8 0
  have s1 := blk_cell hb8 1
  have s2 := blk_cell hb8 2
  simp only [List.getElem?_toArray, List.getElem?_cons_zero, List.getElem?_cons_succ] at s0 s1 s2
  have HS := Lib.hid (And.intro s0 (And.intro s1 s2))
  clear hf8 hfA hb8 s0 s1 s2 kn ko hb7 hw4
  go_wp2
  obtain ⟨s0, s1, s2⟩ := HS.out
  exact bodyPost_ret (v := .tuple #[.agg #[.int .i64 high, .slice a5 (laidP free n).length k5, .slice la1 limbo.length lc1], .int .i64 0]) (by simp [results, Tryz.results139, go_sem, s0, s1, s2]) rfl HFIN.out
set_option maxRecDepth 100000 in
set_option maxHeartbeats 1000000 in
theorem give_no {S : List Nat} {v : Value} {high : Int} {free limbo : List Int} (n : Int) (w : World) (h : PoolAt S w v (⟨high, free, limbo⟩)) (hs : PoolD.small (⟨high, free, limbo⟩)) (hm : PoolD.may ⟨high, free, limbo⟩ n = false) :
    Calls Tryz.prog 132 #[v, .int .i64 n] w (giveP w (⟨0, [], []⟩, 1)) := by
  obtain ⟨fv, lv, rfl, h1, h2⟩ := h.mono (S' := []) (by simp)
  obtain ⟨fa, fc, rfl, _⟩ := Slc.form h1
  obtain ⟨la, lc, rfl, _⟩ := Slc.form h2
  clear h
  obtain ⟨W1, hW1⟩ : ∃ W, (w.alloc (.cells #[.int .i64 high, .slice fa free.length fc, .slice la limbo.length lc] 107)).alloc (.cells #[.int .i64 0, .slice none 0 0, .slice none 0 0] 107) = W := ⟨_, rfl⟩
  have hf0 : Fr [] w W1 := by rw [← hW1]; exact (Fr.alloc1 _ _).trans (Fr.alloc1 _ _)
  have hb1 : W1.heap[w.heap.size]? = some (.cells #[.int .i64 high, .slice fa free.length fc, .slice la limbo.length lc] 107 (0, 0)) := by rw [← hW1]; exact blk_alloc (blk_new _ _) _
  have hb2 : W1.heap[w.heap.size + 1]? = some (.cells #[.int .i64 0, .slice none 0 0, .slice none 0 0] 107 (0, 0)) := by
    rw [← hW1]
    have := blk_new (w.alloc (.cells #[.int .i64 high, .slice fa free.length fc, .slice la limbo.length lc] 107)) (.cells #[.int .i64 0, .slice none 0 0, .slice none 0 0] 107)
    simpa using this
  have HMAY := Lib.hid (may_k n W1 (S := []) (v := .agg #[.int .i64 high, .slice fa free.length fc, .slice la limbo.length lc]) (p := ⟨high, free, limbo⟩) ⟨_, _, rfl, h1.kept hf0, h2.kept hf0⟩ hs hm)
  have HB1 := Lib.hid hb1
  have HB2 := Lib.hid hb2
  have HF0 := Lib.hid hf0
  have c0 := blk_cell hb1 0
  have c1 := blk_cell hb1 1
  have c2 := blk_cell hb1 2
  simp only [List.getElem?_toArray, List.getElem?_cons_zero, List.getElem?_cons_succ] at c0 c1 c2
  clear h1 h2 hb1 hb2 hf0 hs hm
  go_enter Tryz.func132, Tryz.ntmps132
  go_wp2_with fail
  refine HMAY.out.mono ?_
  rintro e w0 ⟨rfl, hf00⟩
  clear hW1
  have hb2 := hf00.heap HB2.out (by simp)
  have y0 := blk_cell hb2 0
  have y1 := blk_cell hb2 1
  have y2 := blk_cell hb2 2
  have u0 := blk_free hb2 0
  have u1 := blk_free hb2 1
  have u2 := blk_free hb2 2
  simp only [List.getElem?_toArray, List.getElem?_cons_zero, List.getElem?_cons_succ] at y0 y1 y2
  have hf8 := Fr.set3 w0 (w.heap.size + 1) (.int .i64 0) (.slice none 0 0) (.slice none 0 0)
  have hb8 := blk_set3 hb2 (.int .i64 0) (.slice none 0 0) (.slice none 0 0)
  have HFIN : Hid (giveP w (⟨0, [], []⟩, 1) (.returned (.tuple #[.agg #[.int .i64 0, .slice none 0 0, .slice none 0 0], .int .i64 1])) _) := Lib.hid ⟨_, rfl, fun S hS => ⟨_, _, rfl, Slc.nil _ _, Slc.nil _ _⟩, (((HF0.out.trans hf00).nil (S := [w.heap.size + 1])).trans hf8).drop (by simp)⟩
  have s0 := blk_cell hb8 0
  have s1 := blk_cell hb8 1
  have s2 := blk_cell hb8 2
  simp only [List.getElem?_toArray, List.getElem?_cons_zero, List.getElem?_cons_succ] at s0 s1 s2
  have HS := Lib.hid (And.intro s0 (And.intro s1 s2))
  clear hf8 hb8 s0 s1 s2 hb2 hf00 HMAY
  go_wp2
  obtain ⟨s0, s1, s2⟩ := HS.out
  exact bodyPost_ret (v := .tuple #[.agg #[.int .i64 0, .slice none 0 0, .slice none 0 0], .int .i64 1]) (by simp [results, Tryz.results132, go_sem, s0, s1, s2]) rfl HFIN.out
set_option maxRecDepth 100000 in
set_option maxHeartbeats 1000000 in
theorem back_no {S : List Nat} {v : Value} {high : Int} {free limbo : List Int} (n : Int) (w : World) (h : PoolAt S w v (⟨high, free, limbo⟩)) (hs : PoolD.small (⟨high, free, limbo⟩)) (hm : PoolD.may ⟨high, free, limbo⟩ n = false) :
    Calls Tryz.prog 139 #[v, .int .i64 n] w (giveP w (⟨0, [], []⟩, 1)) := by
  obtain ⟨fv, lv, rfl, h1, h2⟩ := h.mono (S' := []) (by simp)
  obtain ⟨fa, fc, rfl, _⟩ := Slc.form h1
  obtain ⟨la, lc, rfl, _⟩ := Slc.form h2
  clear h
  obtain ⟨W1, hW1⟩ : ∃ W, (w.alloc (.cells #[.int .i64 high, .slice fa free.length fc, .slice la limbo.length lc] 107)).alloc (.cells #[.int .i64 0, .slice none 0 0, .slice none 0 0] 107) = W := ⟨_, rfl⟩
  have hf0 : Fr [] w W1 := by rw [← hW1]; exact (Fr.alloc1 _ _).trans (Fr.alloc1 _ _)
  have hb1 : W1.heap[w.heap.size]? = some (.cells #[.int .i64 high, .slice fa free.length fc, .slice la limbo.length lc] 107 (0, 0)) := by rw [← hW1]; exact blk_alloc (blk_new _ _) _
  have hb2 : W1.heap[w.heap.size + 1]? = some (.cells #[.int .i64 0, .slice none 0 0, .slice none 0 0] 107 (0, 0)) := by
    rw [← hW1]
    have := blk_new (w.alloc (.cells #[.int .i64 high, .slice fa free.length fc, .slice la limbo.length lc] 107)) (.cells #[.int .i64 0, .slice none 0 0, .slice none 0 0] 107)
    simpa using this
  have HMAY := Lib.hid (may_k n W1 (S := []) (v := .agg #[.int .i64 high, .slice fa free.length fc, .slice la limbo.length lc]) (p := ⟨high, free, limbo⟩) ⟨_, _, rfl, h1.kept hf0, h2.kept hf0⟩ hs hm)
  have HB1 := Lib.hid hb1
  have HB2 := Lib.hid hb2
  have HF0 := Lib.hid hf0
  have c0 := blk_cell hb1 0
  have c1 := blk_cell hb1 1
  have c2 := blk_cell hb1 2
  simp only [List.getElem?_toArray, List.getElem?_cons_zero, List.getElem?_cons_succ] at c0 c1 c2
  clear h1 h2 hb1 hb2 hf0 hs hm
  go_enter Tryz.func139, Tryz.ntmps139
  go_wp2_with fail
  refine HMAY.out.mono ?_
  rintro e w0 ⟨rfl, hf00⟩
  clear hW1
  have hb2 := hf00.heap HB2.out (by simp)
  have y0 := blk_cell hb2 0
  have y1 := blk_cell hb2 1
  have y2 := blk_cell hb2 2
  have u0 := blk_free hb2 0
  have u1 := blk_free hb2 1
  have u2 := blk_free hb2 2
  simp only [List.getElem?_toArray, List.getElem?_cons_zero, List.getElem?_cons_succ] at y0 y1 y2
  have hf8 := Fr.set3 w0 (w.heap.size + 1) (.int .i64 0) (.slice none 0 0) (.slice none 0 0)
  have hb8 := blk_set3 hb2 (.int .i64 0) (.slice none 0 0) (.slice none 0 0)
  have HFIN : Hid (giveP w (⟨0, [], []⟩, 1) (.returned (.tuple #[.agg #[.int .i64 0, .slice none 0 0, .slice none 0 0], .int .i64 1])) _) := Lib.hid ⟨_, rfl, fun S hS => ⟨_, _, rfl, Slc.nil _ _, Slc.nil _ _⟩, (((HF0.out.trans hf00).nil (S := [w.heap.size + 1])).trans hf8).drop (by simp)⟩
  have s0 := blk_cell hb8 0
  have s1 := blk_cell hb8 1
  have s2 := blk_cell hb8 2
  simp only [List.getElem?_toArray, List.getElem?_cons_zero, List.getElem?_cons_succ] at s0 s1 s2
  have HS := Lib.hid (And.intro s0 (And.intro s1 s2))
  clear hf8 hb8 s0 s1 s2 hb2 hf00 HMAY
  go_wp2
  obtain ⟨s0, s1, s2⟩ := HS.out
  exact bodyPost_ret (v := .tuple #[.agg #[.int .i64 0, .slice none 0 0, .slice none 0 0], .int .i64 1]) (by simp [results, Tryz.results139, go_sem, s0, s1, s2]) rfl HFIN.out
theorem give_k {S : List Nat} {v : Value} {p : PoolD} (n : Int) (w : World) (h : PoolAt S w v p) (hs : p.small) :
    Calls Tryz.prog 132 #[v, .int .i64 n] w (giveP w (p.give n)) := by
  obtain ⟨high, free, limbo⟩ := p
  unfold PoolD.give
  cases hm : PoolD.may ⟨high, free, limbo⟩ n with
  | true => rw [if_pos rfl]; exact give_yes n w h hs hm
  | false => rw [if_neg (by simp)]; exact give_no n w h hs hm
theorem back_k {S : List Nat} {v : Value} {p : PoolD} (n : Int) (w : World) (h : PoolAt S w v p) (hs : p.small) :
    Calls Tryz.prog 139 #[v, .int .i64 n] w (giveP w (p.back n)) := by
  obtain ⟨high, free, limbo⟩ := p
  unfold PoolD.back
  cases hm : PoolD.may ⟨high, free, limbo⟩ n with
  | true => rw [if_pos rfl]; exact back_yes n w h hs hm
  | false => rw [if_neg (by simp)]; exact back_no n w h hs hm
end Go.Proofs.YtgpohemcfgepeaaGreat

namespace Go.Proofs.YtgpohemcfgepeaaGreat
open Go.RowKit Go.MapKept
def turnL (free limbo : List Int) : List Int := limbo.foldl laidP free
def PoolD.turn (p : PoolD) : PoolD := ⟨p.high, turnL p.free p.limbo, []⟩
theorem laidP_length (l : List Int) (n : Int) : (laidP l n).length = l.length + 1 := by
  rw [laidP_eq]
  have := atP_le l n
  simp
  omega
theorem turnL_snoc {free limbo : List Int} {k : Nat} (hk : k < limbo.length) : turnL free (limbo.take (k + 1)) = laidP (turnL free (limbo.take k)) limbo[k] := by
  unfold turnL
  rw [List.take_succ_eq_append_getElem hk, List.foldl_append]; rfl
theorem turnL_length (free limbo : List Int) : (turnL free limbo).length = free.length + limbo.length := by
  unfold turnL
  induction limbo generalizing free with
  | nil => rfl
  | cons x l ih => rw [List.foldl_cons, ih, laidP_length, List.length_cons]; omega
structure TurnAt (W1 : World) (h : Nat) (high : Int) (L : List Int) (wr : World) : Prop where
  blk : ∃ a c, wr.heap[h]? = some (.cells #[.int .i64 high, .slice a L.length c, .slice none 0 0] 107 (0, 0)) ∧
    ∀ S : List Nat, (∀ x, x ∈ S → x < W1.heap.size ∨ x = h) → Ints S wr (.slice a L.length c) L
  fr : Fr [h] W1 wr
  ge : W1.heap.size ≤ h
theorem TurnAt.nil {W1 : World} {h : Nat} {high : Int} {L : List Int} {wr : World} (t : TurnAt W1 h high L wr) : Fr [] W1 wr := t.fr.drop (fun x hx => by rw [List.mem_singleton.1 hx]; exact t.ge)
theorem turnA {W1 w1 : World} {high : Int} {free : List Int} {a : Option Addr} {c : Nat} (hn : NewI W1.drew w1 (.slice a free.length c) free) (hf : Fr [] W1 w1) :
    TurnAt W1 w1.heap.size high free (w1.alloc (.cells #[.int .i64 high, .slice a free.length c, .slice none 0 0] 107)) :=
  ⟨⟨a, c, blk_new w1 _, fun S hS => by
    have h1 := hn (S.filter (fun x => decide (x < W1.heap.size))) (fun x hx => by have := (List.mem_filter.1 hx).2; simpa using this)
    have h2 : Ints S w1 (.slice a free.length c) free := Ints.more h1 (fun x hx => by
      rcases hS x hx with h | h
      · exact .inl (List.mem_filter.2 ⟨hx, by simpa using h⟩)
      · exact .inr (by omega))
    exact h2.kept (Fr.alloc1 w1 _).nil⟩, (hf.trans (Fr.alloc1 w1 _)).nil, hf.size⟩
theorem turnB {W1 w1 : World} {o : Obj} {high : Int} {free : List Int} {a : Option Addr} {c : Nat} (hn : NewI (W1.alloc o).drew w1 (.slice a free.length c) free) (hf : Fr [] W1 w1) {u0 u1 u2 : Value} (hb : w1.heap[W1.heap.size]? = some (.cells #[u0, u1, u2] 107 (0, 0))) :
    TurnAt W1 W1.heap.size high free (((w1.setCell ⟨W1.heap.size, 0, none⟩ (.int .i64 high)).setCell ⟨W1.heap.size, 1, none⟩ (.slice a free.length c)).setCell ⟨W1.heap.size, 2, none⟩ (.slice none 0 0)) := by
  have hs := Fr.set3 w1 W1.heap.size (.int .i64 high) (.slice a free.length c) (.slice none 0 0)
  have hz : (W1.alloc o).drew.heap.size = W1.heap.size + 1 := by simp
  refine ⟨⟨a, c, blk_set3 hb _ _ _, fun S hS => hn.set (by omega) hs S (fun x hx => by rcases hS x hx with h | h <;> omega)⟩, (hf.nil).trans hs, Nat.le_refl _⟩
theorem TurnAt.step {W1 wr w5 : World} {h : Nat} {high : Int} {L L' : List Int} {a : Option Addr} {c : Nat} (t : TurnAt W1 h high L wr) (hn : NewI wr w5 (.slice a L'.length c) L') (hf : Fr [] wr w5) :
    TurnAt W1 h high L' (w5.setCell ⟨h, 1, none⟩ (.slice a L'.length c)) := by
  obtain ⟨a0, c0, hb, _⟩ := t.blk
  have hh := lt_of_heap hb
  have hs := Fr.setCell w5 ⟨h, 1, none⟩ (.slice a L'.length c)
  refine ⟨⟨a, c, ?_, fun S hS => hn.set hh hs S (fun x hx => ?_)⟩, (t.fr.trans hf.nil).trans hs, t.ge⟩
  · rw [blk_set (hf.heap hb (by simp)) 1 _]; rfl
  · have := t.fr.size
    rcases hS x hx with h | h <;> omega
set_option maxRecDepth 100000 in
set_option maxHeartbeats 2000000 in
theorem turn_k {S : List Nat} {v : Value} {p : PoolD} (w : World) (h : PoolAt S w v p) (hs : p.small) :
    Calls Tryz.prog 106 #[v] w fun e w' => ∃ v', e = .returned v' ∧ NewPool w w' v' p.turn ∧ Fr [] w w' := by
  obtain ⟨high, free, limbo⟩ := p
  obtain ⟨fv, lv, rfl, h1, h2⟩ := h.mono (S' := []) (by simp)
  obtain ⟨fa, fc, rfl, _⟩ := Slc.form h1
  obtain ⟨la, lc, rfl, _⟩ := Slc.form h2
  clear h
  obtain ⟨W1, hW1⟩ : ∃ W, (w.alloc (.cells #[.int .i64 high, .slice fa free.length fc, .slice la limbo.length lc] 107)).alloc (.cells #[.int .i64 0, .slice none 0 0, .slice none 0 0] 107) = W := ⟨_, rfl⟩
  have hf0 : Fr [] w W1 := by rw [← hW1]; exact (Fr.alloc1 _ _).trans (Fr.alloc1 _ _)
  have hz : W1.heap.size = w.heap.size + 2 := by rw [← hW1]; simp
  have hb1 : W1.heap[w.heap.size]? = some (.cells #[.int .i64 high, .slice fa free.length fc, .slice la limbo.length lc] 107 (0, 0)) := by rw [← hW1]; exact blk_alloc (blk_new _ _) _
  have hb2 : W1.heap[w.heap.size + 1]? = some (.cells #[.int .i64 0, .slice none 0 0, .slice none 0 0] 107 (0, 0)) := by
    rw [← hW1]
    have := blk_new (w.alloc (.cells #[.int .i64 high, .slice fa free.length fc, .slice la limbo.length lc] 107)) (.cells #[.int .i64 0, .slice none 0 0, .slice none 0 0] 107)
    simpa using this
  have HXa := Lib.hid (h1.kept (hf0.trans (Fr.refl [] W1).drew))
  have HXb := Lib.hid (h1.kept (hf0.trans (Fr.alloc1 W1 (.cells #[.int .i64 0, .slice none 0 0, .slice none 0 0] 107)).drew))
  have HX2 := Lib.hid (h2.kept hf0)
  have HB1 := Lib.hid hb1
  have HB2 := Lib.hid hb2
  have HF0 := Lib.hid hf0
  have HZ := Lib.hid hz
  have HSM := Lib.hid hs
  have HS1 : Hid (free.length ≤ 1048576) := Lib.hid (by have := hs.1; simp only at this; omega)
  have c0 := blk_cell hb1 0
  have c1 := blk_cell hb1 1
  have c2 := blk_cell hb1 2
  simp only [List.getElem?_toArray, List.getElem?_cons_zero, List.getElem?_cons_succ] at c0 c1 c2
  clear h1 h2 hb1 hb2 hf0 hz hs
  go_enter Tryz.func106, Tryz.ntmps106
  go_upto_region 1 with fail
  clear hW1
  go_cut [3] from 6 to 11 (fun q wx => ∃ h : Nat, q = .pointer (some ⟨h, 0, none⟩) ∧ TurnAt W1 h high free wx)
  case first =>
    go_region_held3 (fun w' => w'.cell? ⟨w.heap.size, 0, none⟩ = some (.int .i64 high) ∧ w'.cell? ⟨w.heap.size, 1, none⟩ = some (.slice fa free.length fc)) (first | exact ⟨by assumption, by assumption⟩ | go_keep)
      (first
      | ((go_at_call 110
          with_reducible refine (clone_k (v := .slice fa free.length fc) _ HXa.out HS1.out).mono ?_
          rintro e w1 ⟨v1, rfl, hn1, hf1⟩
          obtain ⟨a1, k1, rfl, _⟩ := hn1.form
          have d0 := hf1.ofDrew.cellSome c0 (by simp)
          have d1 := hf1.ofDrew.cellSome c1 (by simp)
          have HTA := Lib.hid (turnA (high := high) hn1 hf1.ofDrew)
          clear hn1 hf1))
      | ((go_at_call 110
          with_reducible refine (clone_k (v := .slice fa free.length fc) _ HXb.out HS1.out).mono ?_
          rintro e w1 ⟨v1, rfl, hn1, hf1⟩
          obtain ⟨a1, k1, rfl, _⟩ := hn1.form
          have hal := Fr.alloc1 W1 (.cells #[.int .i64 0, .slice none 0 0, .slice none 0 0] 107)
          have d0 := (hal.trans hf1.ofDrew).cellSome c0 (by simp)
          have d1 := (hal.trans hf1.ofDrew).cellSome c1 (by simp)
          have hbh := hf1.ofDrew.heap (blk_new W1 (.cells #[.int .i64 0, .slice none 0 0, .slice none 0 0] 107)) (by simp)
          have r0 := blk_cell hbh 0
          have r1 := blk_cell hbh 1
          have r2 := blk_cell hbh 2
          have z0 := blk_free hbh 0
          have z1 := blk_free hbh 1
          have z2 := blk_free hbh 2
          simp only [List.getElem?_toArray, List.getElem?_cons_zero, List.getElem?_cons_succ] at r0 r1 r2
          have HTB := Lib.hid (turnB (high := high) hn1 (hal.trans hf1.ofDrew) hbh)
          have hne : w.heap.size ≠ W1.heap.size := by have := HZ.out; omega
          have hne' : W1.heap.size ≠ w.heap.size := Ne.symm hne
          clear hn1 hf1 hal hbh)))
    all_goals
      go_wp2_with fail
      go_meet
      first
        | exact ⟨_, rfl, HTA.out⟩
        | exact ⟨_, rfl, HTB.out⟩
  case rest =>
    obtain ⟨h, rfl, ht⟩ := hcut
    have HT := Lib.hid ht
    have c2' := ht.nil.cellSome c2 (by simp)
    clear ht c0 c1 HXa HXb
    go_wp2_with fail
    go_loopw [15] (fun i wr => ∃ k : Nat, k ≤ limbo.length ∧ i = .int .i64 k ∧ TurnAt W1 h high (turnL free (limbo.take k)) wr) (fun i _ => limbo.length - (intOf i).toNat)
    case atStart => exact ⟨0, Nat.zero_le _, rfl, HT.out⟩
    case round =>
      obtain ⟨k, hkl, rfl, ht⟩ := hrel
      have hlb : (limbo.length : Int) ≤ 10000 := by have := HSM.out.2; simp only at this; omega
      by_cases hlt : k < limbo.length
      · have hkI : (k : Int) < (limbo.length : Int) := by omega
        obtain ⟨B, off, rfl⟩ : ∃ B off, la = some ⟨B, off, none⟩ := by
          rcases HX2.out with ⟨_, _, _, h0, _⟩ | ⟨B, off, cap, h, _⟩
          · omega
          · cases h; exact ⟨B, off, rfl⟩
        have hc := (HX2.out.kept ht.nil).at hlt
        have hst := turnL_snoc (free := free) hlt
        have hln : (turnL free (limbo.take k)).length ≤ 100000 := by
          rw [turnL_length, List.length_take]
          have := HSM.out.1
          simp only at this
          omega
        obtain ⟨L, hL⟩ : ∃ L, turnL free (limbo.take k) = L := ⟨_, rfl⟩
        rw [hL] at ht hst hln
        generalize limbo[k] = x at *
        obtain ⟨a0, k0, hb, hI⟩ := ht.blk
        have x1 := blk_cell hb 1
        simp only [List.getElem?_toArray, List.getElem?_cons_zero, List.getElem?_cons_succ] at x1
        have HLA := Lib.hid (laid_k x wr (hI [] (by simp)) hln)
        have HT1 := Lib.hid ht
        have HST := Lib.hid hst
        have HBH := Lib.hid hb
        clear ht hst hL hln hb hI
        go_wp2_with fail
        refine HLA.out.mono ?_
        rintro e w5 ⟨v5, rfl, hn5, hf5⟩
        obtain ⟨a5, k5, rfl, _⟩ := hn5.form
        have hb5 := hf5.heap HBH.out (by simp)
        have z1 := blk_free hb5 1
        have x1' := blk_cell hb5 1
        simp only [List.getElem?_toArray, List.getElem?_cons_zero, List.getElem?_cons_succ] at x1'
        have HNX := Lib.hid (HT1.out.step hn5 hf5)
        clear hn5 hf5 hb5 HLA
        go_wp2
        go_roundw
        case rel => exact ⟨k + 1, by omega, by go_num, by rw [HST.out]; exact HNX.out⟩
        case measure => simp [intOf]; omega
      · obtain rfl : k = limbo.length := by omega
        rw [List.take_length] at ht
        obtain ⟨a0, k0, hb, hI⟩ := ht.blk
        obtain ⟨L, hL⟩ : ∃ L, turnL free limbo = L := ⟨_, rfl⟩
        rw [hL] at ht hb hI
        have HL : Hid (PoolD.turn ⟨high, free, limbo⟩ = ⟨high, L, []⟩) := Lib.hid (by unfold PoolD.turn; simp only; rw [hL])
        have x0 := blk_cell hb 0
        have x1 := blk_cell hb 1
        have x2 := blk_cell hb 2
        have hb2 := ht.nil.heap HB2.out (by simp)
        have y0 := blk_cell hb2 0
        have y1 := blk_cell hb2 1
        have y2 := blk_cell hb2 2
        have u0 := blk_free hb2 0
        have u1 := blk_free hb2 1
        have u2 := blk_free hb2 2
        simp only [List.getElem?_toArray, List.getElem?_cons_zero, List.getElem?_cons_succ] at x0 x1 x2 y0 y1 y2
        have hf8 := Fr.set3 wr (w.heap.size + 1) (.int .i64 high) (.slice a0 L.length k0) (.slice none 0 0)
        have hb8 := blk_set3 hb2 (.int .i64 high) (.slice a0 L.length k0) (.slice none 0 0)
        have HFIN : Hid (NewPool w (((wr.setCell ⟨w.heap.size + 1, 0, none⟩ (.int .i64 high)).setCell ⟨w.heap.size + 1, 1, none⟩ (.slice a0 L.length k0)).setCell ⟨w.heap.size + 1, 2, none⟩ (.slice none 0 0)) (.agg #[.int .i64 high, .slice a0 L.length k0, .slice none 0 0]) ⟨high, L, []⟩ ∧ Fr [] w (((wr.setCell ⟨w.heap.size + 1, 0, none⟩ (.int .i64 high)).setCell ⟨w.heap.size + 1, 1, none⟩ (.slice a0 L.length k0)).setCell ⟨w.heap.size + 1, 2, none⟩ (.slice none 0 0))) := Lib.hid ⟨fun S hS => ⟨_, _, rfl,
          ((hI ((w.heap.size + 1) :: S) (fun x hx => by have := HZ.out; rcases List.mem_cons.1 hx with rfl | hx; omega; have := hS x hx; omega)).kept (hf8.mono (by simp))).mono (by simp_all), Slc.nil _ _⟩,
          (((HF0.out.trans ht.nil).nil (S := [w.heap.size + 1])).trans hf8).drop (by simp)⟩
        have s0 := blk_cell hb8 0
        have s1 := blk_cell hb8 1
        have s2 := blk_cell hb8 2
        simp only [List.getElem?_toArray, List.getElem?_cons_zero, List.getElem?_cons_succ] at s0 s1 s2
        have HS := Lib.hid (And.intro s0 (And.intro s1 s2))
        clear hf8 hb8 s0 s1 s2 hb2 hb hI ht hL c2' c2
        go_wp2
        obtain ⟨s0, s1, s2⟩ := HS.out
        exact bodyPost_ret (v := .agg #[.int .i64 high, .slice a0 L.length k0, .slice none 0 0]) (by simp [results, Tryz.results106, go_sem, s0, s1, s2]) rfl ⟨_, rfl, by rw [HL.out]; exact HFIN.out.1, HFIN.out.2⟩
end Go.Proofs.YtgpohemcfgepeaaGreat

namespace Go.Proofs.YtgpohemcfgepeaaGreat
open Go.RowKit Go.MapKept
def fineP (last : Int) (high : Int) : List Int → Bool
  | [] => true
  | x :: l => decide (last < x) && decide (x < high) && fineP x high l
def lastOf (l : List Int) (k : Nat) : Int := (l.take k).getLastD 1
def PoolD.check (p : PoolD) (most : Int) : Bool :=
  decide (2 ≤ p.high) && decide (p.high ≤ most) && fineP 1 p.high p.free && fineP 1 p.high p.limbo && !p.free.any (fun n => decide (n ∈ p.limbo))
end Go.Proofs.YtgpohemcfgepeaaGreat

namespace Go.Proofs.YtgpohemcfgepeaaGreat
open Go.RowKit Go.MapKept
def ofP (high : Int) (ls : List (List Int)) : PoolD × Int := if (⟨high, ls.flatten, []⟩ : PoolD).check 4096 = true then (⟨high, ls.flatten, []⟩, 0) else (⟨0, [], []⟩, 61)
end Go.Proofs.YtgpohemcfgepeaaGreat

namespace Go.Proofs.YtgpohemcfgepeaaGreat
open Go.RowKit
def u64top : Int := 18446744073709551616
theorem bits_u64 (op : BinOp) (a c : Int) : 0 ≤ bits op .u64 a c ∧ bits op .u64 a c < 18446744073709551616 := by
  have h : ∀ x : Int, 0 ≤ IntKind.u64.wrap x ∧ IntKind.u64.wrap x < 18446744073709551616 := fun x => by
    simp only [IntKind.wrap, IntKind.bits, IntKind.signed, Bool.false_and, Bool.false_eq_true, if_false]
    omega
  unfold bits
  cases op <;> exact h _
theorem and15 (a : Int) : ∃ j : Nat, bits .and .u64 a 15 = (j : Int) ∧ j < 16 := by
  have h1 := (bits_u64 .and a 15).1
  refine ⟨(bits .and .u64 a 15).toNat, by omega, ?_⟩
  have h2 : bits .and .u64 a 15 = IntKind.u64.wrap (((BitVec.ofInt 64 a) &&& (BitVec.ofInt 64 15)).toNat : Int) := rfl
  have h3 : ((BitVec.ofInt 64 a) &&& (BitVec.ofInt 64 15)).toNat ≤ 15 := by
    rw [BitVec.toNat_and]
    exact Nat.le_trans Nat.and_le_right (by decide)
  have h4 : bits .and .u64 a 15 ≤ 15 := by
    rw [h2]
    simp only [IntKind.wrap, IntKind.bits, IntKind.signed, Bool.false_and, Bool.false_eq_true, if_false]
    omega
  omega
def stI (m : Int) : Int := bits .xor .u64 (m / 2) (IntKind.u64.wrap (bits .and .u64 m 1 * 14514072000185962306))
def itI : Nat → Int → Int
  | 0, n => n
  | k + 1, n => stI (itI k n)
theorem itI_bd (k : Nat) (n : Int) (h0 : 0 ≤ n) (h1 : n < 18446744073709551616) : 0 ≤ itI k n ∧ itI k n < 18446744073709551616 := by
  cases k with
  | zero => exact ⟨h0, h1⟩
  | succ k => unfold itI stI; exact bits_u64 _ _ _
theorem entry_k (n : Int) (w : World) (h0 : 0 ≤ n) (h1 : n < 18446744073709551616) :
    Calls Tryz.prog 204 #[.int .u64 n] w fun e w' => e = .returned (.int .u64 (itI 4 n)) ∧ w = w' := by
  go_enter Tryz.func204, Tryz.ntmps204
  go_wp2_with fail
  go_loopw [0, 3] (fun v i wr => ∃ k : Nat, k ≤ 4 ∧ i = .int .i64 k ∧ v = .int .u64 (itI k n) ∧ w = wr) (fun _ i _ => 4 - (intOf i).toNat)
  case atStart => exact ⟨0, by omega, rfl, rfl, rfl⟩
  case round =>
    obtain ⟨k, hk, rfl, rfl, rfl⟩ := hrel
    have hb := itI_bd k n h0 h1
    have HS : Hid (∀ x, itI k n = x → bits .xor .u64 (x / 2) (IntKind.u64.wrap (bits .and .u64 x 1 * 14514072000185962306)) = itI (k + 1) n) := Lib.hid (fun x hx => by rw [← hx]; rfl)
    by_cases hlt : k < 4
    · have hkI : (k : Int) < 4 := by omega
      obtain ⟨m, hm⟩ : ∃ m, itI k n = m := ⟨_, rfl⟩
      rw [hm] at hb ⊢
      have HM := Lib.hid hm
      obtain ⟨hm0, hm1⟩ := hb
      clear hm
      go_wp2
      go_roundw
      case rel => exact ⟨k + 1, by omega, by go_num, by rw [HS.out m HM.out], trivial⟩
      case measure => simp [intOf]; omega
    · obtain rfl : k = 4 := by omega
      obtain ⟨m, hm⟩ : ∃ m, itI 4 n = m := ⟨_, rfl⟩
      rw [hm]
      have HM := Lib.hid hm
      clear hm hb
      go_wp2
      go_ret
      exact ⟨by rw [HM.out]; rfl, rfl⟩
def tblV (k i : Nat) : Value := .int .u64 (if i < k then itI 4 i else 0)
def tblC (k : Nat) : Array Value := ((List.range 16).map (tblV k)).toArray
theorem tblC_get {k i : Nat} (hi : i < 16) : (tblC k)[i]? = some (tblV k i) := by simp [tblC, hi]
theorem tblC_set {k : Nat} (_ : k < 16) : (tblC k).setIfInBounds k (.int .u64 (itI 4 k)) = tblC (k + 1) := by
  apply Array.ext
  · simp [tblC]
  · intro j h1 h2
    simp [tblC] at h1 h2 ⊢
    rw [List.getElem_set]
    unfold tblV
    by_cases e : k = j
    · subst e; simp
    · rw [if_neg e]
      simp only [List.getElem_map, List.getElem_range]
      by_cases h : j < k
      · rw [if_pos h, if_pos (by omega)]
      · rw [if_neg h, if_neg (by omega)]
def nibI (n : Int) : Int := bits .xor .u64 (n / 16) (itI 4 (bits .and .u64 n 15))
def byteI (n : Int) (x : UInt8) : Int := nibI (nibI (bits .xor .u64 n (x.toNat : Int)))
def notI (n : Int) : Int := bits .xor .u64 IntKind.u64.max n
theorem byteI_bd (n : Int) (x : UInt8) : 0 ≤ byteI n x ∧ byteI n x < 18446744073709551616 := by unfold byteI nibI; exact bits_u64 _ _ _
theorem notI_bd (n : Int) : 0 ≤ notI n ∧ notI n < 18446744073709551616 := by unfold notI; exact bits_u64 _ _ _
def crcL (n : Int) (l : List UInt8) : Int := l.foldl byteI n
theorem crcL_bd (l : List UInt8) (n : Int) (h0 : 0 ≤ n) (h1 : n < 18446744073709551616) : 0 ≤ crcL n l ∧ crcL n l < 18446744073709551616 := by
  induction l generalizing n with
  | nil => exact ⟨h0, h1⟩
  | cons x l ih => exact ih _ (byteI_bd n x).1 (byteI_bd n x).2
theorem crcL_snoc {n : Int} {l : List UInt8} {k : Nat} (hk : k < l.length) : crcL n (l.take (k + 1)) = byteI (crcL n (l.take k)) l[k] := by
  unfold crcL
  rw [List.take_succ_eq_append_getElem hk, List.foldl_append]; rfl
set_option maxRecDepth 100000 in
set_option maxHeartbeats 1000000 in
theorem more_k {S : List Nat} {v : Value} {l : List UInt8} (sum : Int) (w : World) (_ : 0 ≤ sum) (_ : sum < 18446744073709551616) (hv : Bytes S w v l) (hl : l.length ≤ 1048576) :
    Calls Tryz.prog 199 #[.int .u64 sum, v] w fun e w' => e = .returned (.int .u64 (notI (crcL (notI sum) l))) ∧ Fr [] w w' := by
  obtain ⟨a, c, rfl, _⟩ := Slc.form hv
  have HV := Lib.hid (hv.mono (S' := []) (by simp))
  clear hv
  go_enter Tryz.func199, Tryz.ntmps199
  go_wp2_with fail
  obtain ⟨g, hg⟩ : ∃ g, w.heap.size = g := ⟨_, rfl⟩
  rw [hg]
  have HG := Lib.hid hg
  clear hg
  go_loopw [11] (fun i wr => ∃ k : Nat, k ≤ 16 ∧ i = .int .i64 k ∧ wr.heap[g]? = some (.cells (tblC k) 257 (0, 0)) ∧ Fr [] w wr) (fun i _ => 16 - (intOf i).toNat)
  case atStart => exact ⟨0, by omega, rfl, by rw [← HG.out]; exact heap_alloc_new w _, Fr.alloc1 w _⟩
  case round =>
    obtain ⟨k, hk, rfl, hb, hfr⟩ := hrel
    by_cases hlt : k < 16
    · have hkI : (k : Int) < 16 := by omega
      have hk0 : (0 : Int) ≤ (k : Int) := by omega
      have fz := blk_free hb k
      have ck := blk_cell hb k
      rw [tblC_get hlt] at ck
      have hfin : (wr.setCell ⟨g, k, none⟩ (.int .u64 (itI 4 k))).heap[g]? = some (.cells (tblC (k + 1)) 257 (0, 0)) := by rw [blk_set hb, tblC_set hlt]
      have HF := Lib.hid (And.intro hfin (hfr.andThen (Fr.setCell wr ⟨g, k, none⟩ (.int .u64 (itI 4 k))) (by have := HG.out; simp; omega)))
      clear hfin hfr hb
      unfold tblV at ck
      generalize (if k < k then itI 4 (k : Int) else 0) = u0 at ck
      go_wp2_with fail
      refine (entry_k (k : Int) _ (by omega) (by omega)).mono ?_
      rintro e w' ⟨rfl, rfl⟩
      generalize itI 4 (k : Int) = u1 at *
      go_wp2
      go_roundw
      case rel => exact ⟨k + 1, by omega, by go_num, HF.out⟩
      case measure => simp [intOf]; omega
    · obtain rfl : k = 16 := by omega
      have hkI : ¬ ((16 : Nat) : Int) < 16 := by omega
      have HB := Lib.hid hb
      have HFR := Lib.hid hfr
      clear hb hfr
      go_wp2_with fail
      go_loopw [8, 25] (fun n i wx => ∃ k : Nat, k ≤ l.length ∧ i = .int .i64 k ∧ n = .int .u64 (crcL (notI sum) (l.take k)) ∧ wr = wx) (fun _ i _ => l.length - (intOf i).toNat)
      case atStart => exact ⟨0, Nat.zero_le _, rfl, rfl, rfl⟩
      case round =>
        obtain ⟨k, hkl, rfl, rfl, rfl⟩ := hrel
        have hbd := crcL_bd (l.take k) (notI sum) (notI_bd sum).1 (notI_bd sum).2
        by_cases hlt : k < l.length
        · have hkI2 : (k : Int) < (l.length : Int) := by omega
          obtain ⟨B, off, rfl⟩ : ∃ B off, a = some ⟨B, off, none⟩ := by
            rcases HV.out with ⟨_, _, _, h0, _⟩ | ⟨B, off, cap, h, _⟩
            · omega
            · cases h; exact ⟨B, off, rfl⟩
          have hc := (HV.out.kept HFR.out).at hlt
          have HSN := Lib.hid (crcL_snoc (n := notI sum) hlt)
          generalize crcL (notI sum) (l.take k) = m at *
          generalize l[k] = x at *
          have hwx : IntKind.u64.wrap (x.toNat : Int) = (x.toNat : Int) := by
            have := x.toNat_lt
            simp only [IntKind.wrap, IntKind.bits, IntKind.signed, Bool.false_and, Bool.false_eq_true, if_false]
            omega
          obtain ⟨m1, hm1⟩ : ∃ m1, bits .xor .u64 m (x.toNat : Int) = m1 := ⟨_, rfl⟩
          have b1 := bits_u64 .xor m (x.toNat : Int)
          rw [hm1] at b1
          obtain ⟨j1, e1, hj1⟩ := and15 m1
          have ck1 := blk_cell HB.out j1
          rw [tblC_get hj1] at ck1
          unfold tblV at ck1
          rw [if_pos hj1] at ck1
          obtain ⟨y1, hy1⟩ : ∃ y, itI 4 (j1 : Int) = y := ⟨_, rfl⟩
          rw [hy1] at ck1
          obtain ⟨m2, hm2⟩ : ∃ m2, bits .xor .u64 (m1 / 16) y1 = m2 := ⟨_, rfl⟩
          have b2 := bits_u64 .xor (m1 / 16) y1
          rw [hm2] at b2
          obtain ⟨j2, e2, hj2⟩ := and15 m2
          have ck2 := blk_cell HB.out j2
          rw [tblC_get hj2] at ck2
          unfold tblV at ck2
          rw [if_pos hj2] at ck2
          obtain ⟨y2, hy2⟩ : ∃ y, itI 4 (j2 : Int) = y := ⟨_, rfl⟩
          rw [hy2] at ck2
          obtain ⟨m3, hm3⟩ : ∃ m3, bits .xor .u64 (m2 / 16) y2 = m3 := ⟨_, rfl⟩
          have HSM : Hid (byteI m x = m3) := Lib.hid (by unfold byteI nibI; rw [hm1, e1, hy1, hm2, e2, hy2, hm3])
          have q1 : (j1 : Int) < 16 := by omega
          have q2 : (j2 : Int) < 16 := by omega
          obtain ⟨b10, b11⟩ := b1
          obtain ⟨b20, b21⟩ := b2
          obtain ⟨bm0, bm1⟩ := hbd
          clear hy1 hy2
          go_wp2
          go_roundw
          case rel => exact ⟨k + 1, by omega, by go_num, by rw [HSN.out, HSM.out], trivial⟩
          case measure => simp [intOf]; omega
        · obtain rfl : k = l.length := by omega
          have HE : Hid (crcL (notI sum) (l.take l.length) = crcL (notI sum) l) := Lib.hid (by rw [List.take_length])
          rw [HE.out]
          clear hbd
          generalize hy : crcL (notI sum) l = y
          have HY := Lib.hid hy
          clear hy
          go_wp2
          go_ret
          exact ⟨by rw [HY.out]; rfl, HFR.out⟩
def crcI (l : List UInt8) : Int := notI (crcL (notI 0) l)
theorem crcI_bd (l : List UInt8) : 0 ≤ crcI l ∧ crcI l < 18446744073709551616 := notI_bd _
theorem sum_k {S : List Nat} {v : Value} {l : List UInt8} (w : World) (hv : Bytes S w v l) (hl : l.length ≤ 1048576) :
    Calls Tryz.prog 181 #[v] w fun e w' => e = .returned (.int .u64 (crcI l)) ∧ Fr [] w w' := by
  go_enter Tryz.func181, Tryz.ntmps181
  go_wp2_with fail
  refine (more_k 0 _ (by omega) (by omega) hv hl).mono ?_
  rintro e w' ⟨rfl, hf⟩
  have HF := Lib.hid hf
  have HY : Hid (notI (crcL (notI 0) l) = crcI l) := Lib.hid rfl
  rw [HY.out]
  clear hf
  go_wp2
  go_ret
  exact ⟨rfl, HF.out⟩
end Go.Proofs.YtgpohemcfgepeaaGreat

namespace Go.Proofs.YtgpohemcfgepeaaGreat
open Go.RowKit Go.MapKept
def Rise (high : Int) (l : List Int) : Prop := l.Pairwise (· < ·) ∧ ∀ x ∈ l, 2 ≤ x ∧ x < high
theorem rise_len {high : Int} {l : List Int} (h : Rise high l) : (l.length : Int) ≤ max 0 (high - 2) := by
  have key : ∀ (l : List Int) (last : Int), l.Pairwise (· < ·) → (∀ x ∈ l, last < x ∧ x < high) → (l.length : Int) ≤ max 0 (high - 1 - last) := by
    intro l
    induction l with
    | nil => intro last _ _; simp; omega
    | cons x l ih =>
      intro last hp hb
      rw [List.pairwise_cons] at hp
      have h1 := hb x (by simp)
      have := ih x hp.2 (fun y hy => ⟨hp.1 y hy, (hb y (by simp [hy])).2⟩)
      rw [List.length_cons]
      omega
  have := key l 1 h.1 (fun x hx => ⟨by have := (h.2 x hx).1; omega, (h.2 x hx).2⟩)
  omega
theorem mem_laidP {l : List Int} {n x : Int} : x ∈ laidP l n ↔ x = n ∨ x ∈ l := by
  have h := List.takeWhile_append_dropWhile (p := fun x => decide (x < n)) (l := l)
  conv => rhs; rw [← h]
  unfold laidP
  simp only [List.mem_append, List.mem_cons, List.not_mem_nil, or_false]
  constructor
  · rintro ((h | h) | h) <;> simp [h]
  · rintro (h | h | h) <;> simp [h]
theorem laidP_pairwise {l : List Int} {n : Int} (h : l.Pairwise (· < ·)) (hn : n ∉ l) : (laidP l n).Pairwise (· < ·) := by
  induction l with
  | nil => simp [laidP]
  | cons x l ih =>
    rw [List.pairwise_cons] at h
    simp only [List.mem_cons, not_or] at hn
    by_cases hx : x < n
    · have e : laidP (x :: l) n = x :: laidP l n := by
        unfold laidP
        rw [List.takeWhile_cons_of_pos (by simpa using hx), List.dropWhile_cons_of_pos (by simpa using hx)]
        rfl
      rw [e, List.pairwise_cons]
      refine ⟨fun y hy => ?_, ih h.2 hn.2⟩
      rcases mem_laidP.1 hy with rfl | hy
      · exact hx
      · exact h.1 y hy
    · have e : laidP (x :: l) n = n :: x :: l := by
        unfold laidP
        rw [List.takeWhile_cons_of_neg (by simpa using hx), List.dropWhile_cons_of_neg (by simpa using hx)]
        rfl
      rw [e, List.pairwise_cons]
      refine ⟨fun y hy => ?_, List.pairwise_cons.2 h⟩
      rcases List.mem_cons.1 hy with rfl | hy
      · omega
      · have := h.1 y hy; omega
theorem laidP_rise {high : Int} {l : List Int} {n : Int} (h : Rise high l) (hn : n ∉ l) (h1 : 2 ≤ n) (h2 : n < high) : Rise high (laidP l n) :=
  ⟨laidP_pairwise h.1 hn, fun x hx => by rcases mem_laidP.1 hx with rfl | hx; exact ⟨h1, h2⟩; exact h.2 x hx⟩
theorem Rise.mono {high high' : Int} {l : List Int} (h : Rise high l) (hh : high ≤ high') : Rise high' l := ⟨h.1, fun x hx => ⟨(h.2 x hx).1, by have := (h.2 x hx).2; omega⟩⟩
structure PoolG (p : PoolD) (most : Int) : Prop where
  lo : 2 ≤ p.high
  hi : p.high ≤ most
  free : Rise p.high p.free
  limbo : Rise p.high p.limbo
  dis : ∀ x ∈ p.free, x ∉ p.limbo
theorem PoolG.small {p : PoolD} {most : Int} (h : PoolG p most) (hm : most ≤ 4096) : p.small ∧ p.free.length ≤ 4096 ∧ p.limbo.length ≤ 4096 := by
  have h1 := rise_len h.free
  have h2 := rise_len h.limbo
  have := h.hi
  have := h.lo
  unfold PoolD.small
  omega
theorem may_iff {p : PoolD} {n : Int} : p.may n = true ↔ 2 ≤ n ∧ n < p.high ∧ n ∉ p.free ∧ n ∉ p.limbo := by
  unfold PoolD.may
  simp only [Bool.and_eq_true, decide_eq_true_eq, Bool.not_eq_true', decide_eq_false_iff_not, List.mem_append, not_or]
  constructor
  · rintro ⟨⟨h1, h2⟩, h3⟩; exact ⟨h1, h2, h3⟩
  · rintro ⟨h1, h2, h3⟩; exact ⟨⟨h1, h2⟩, h3⟩
theorem PoolG.give {p : PoolD} {most n : Int} (h : PoolG p most) (hm : p.may n = true) : PoolG { p with limbo := laidP p.limbo n } most := by
  obtain ⟨h1, h2, h3, h4⟩ := may_iff.1 hm
  refine ⟨h.lo, h.hi, h.free, laidP_rise h.limbo h4 h1 h2, fun x hx hl => ?_⟩
  rcases mem_laidP.1 hl with rfl | hl
  · exact h3 hx
  · exact h.dis x hx hl
theorem PoolG.back {p : PoolD} {most n : Int} (h : PoolG p most) (hm : p.may n = true) : PoolG { p with free := laidP p.free n } most := by
  obtain ⟨h1, h2, h3, h4⟩ := may_iff.1 hm
  refine ⟨h.lo, h.hi, laidP_rise h.free h3 h1 h2, h.limbo, fun x hx hl => ?_⟩
  rcases mem_laidP.1 hx with rfl | hx
  · exact h4 hl
  · exact h.dis x hx hl
theorem PoolG.take {p : PoolD} {most : Int} (h : PoolG p most) (he : (p.take most).2.2 = 0) : PoolG (p.take most).1 most ∧ 2 ≤ (p.take most).2.1 ∧ (p.take most).2.1 < (p.take most).1.high ∧ p.high ≤ (p.take most).1.high ∧ (p.take most).1.high ≤ p.high + 1 ∧
    (p.take most).2.1 ∉ (p.take most).1.free ∧ (p.take most).2.1 ∉ (p.take most).1.limbo ∧ (p.take most).1.limbo = p.limbo ∧ ((p.take most).2.1 ∈ p.free ∨ (p.take most).2.1 = p.high) ∧ (∀ x, x ∈ (p.take most).1.free → x ∈ p.free) ∧ (∀ x, x ∈ p.free → x = (p.take most).2.1 ∨ x ∈ (p.take most).1.free) := by
  obtain ⟨hg, fr, lm⟩ := p
  cases fr with
  | cons x l =>
    have e : PoolD.take ⟨hg, x :: l, lm⟩ most = (⟨hg, l, lm⟩, x, 0) := rfl
    rw [e]
    have hf := h.free
    have h1 := hf.2 x (by simp)
    have hp := List.pairwise_cons.1 hf.1
    refine ⟨⟨h.lo, h.hi, ⟨hp.2, fun y hy => hf.2 y (by simp [hy])⟩, h.limbo, fun y hy => h.dis y (by simp [hy])⟩, h1.1, h1.2, Int.le_refl _, by show hg ≤ hg + 1; omega, fun hm => by have := hp.1 x hm; omega, h.dis x (by simp), rfl, .inl (by simp), fun y hy => by simp [hy], fun y hy => by simpa using hy⟩
  | nil =>
    by_cases hq : most ≤ hg
    · have e : PoolD.take ⟨hg, [], lm⟩ most = (⟨0, [], []⟩, 0, 60) := by unfold PoolD.take; simp only; rw [if_pos hq]
      rw [e] at he; cases he
    · have e : PoolD.take ⟨hg, [], lm⟩ most = (⟨hg + 1, [], lm⟩, hg, 0) := by unfold PoolD.take; simp only; rw [if_neg hq]
      rw [e]
      have h1 := h.lo
      have h2 := h.hi
      have h3 := h.limbo
      refine ⟨⟨by simp at h1 ⊢; omega, by simp; omega, ⟨List.Pairwise.nil, by simp⟩, Rise.mono h3 (by simp; omega), by simp⟩, h1, by simp; omega, by simp; omega, by simp, by simp, fun hm => by have := (h3.2 _ hm).2; simp at this, rfl, .inr rfl, by simp, by simp⟩
theorem turnL_mem {free limbo : List Int} {x : Int} : x ∈ turnL free limbo ↔ x ∈ free ∨ x ∈ limbo := by
  unfold turnL
  induction limbo generalizing free with
  | nil => simp
  | cons y l ih =>
    rw [List.foldl_cons, ih, mem_laidP]
    simp only [List.mem_cons]
    constructor
    · rintro ((h | h) | h) <;> simp [h]
    · rintro (h | h | h) <;> simp [h]
theorem turnL_rise {high : Int} {free limbo : List Int} (h1 : Rise high free) (h2 : Rise high limbo) (hd : ∀ x ∈ free, x ∉ limbo) : Rise high (turnL free limbo) := by
  unfold turnL
  induction limbo generalizing free with
  | nil => exact h1
  | cons y l ih =>
    rw [List.foldl_cons]
    have hp := List.pairwise_cons.1 h2.1
    have hy := h2.2 y (by simp)
    refine ih (laidP_rise h1 (fun hm => hd y hm (by simp)) hy.1 hy.2) ⟨hp.2, fun x hx => h2.2 x (by simp [hx])⟩ (fun x hx hl => ?_)
    rcases mem_laidP.1 hx with rfl | hx
    · have := hp.1 x hl; omega
    · exact hd x hx (by simp [hl])
theorem PoolG.turn {p : PoolD} {most : Int} (h : PoolG p most) : PoolG p.turn most :=
  ⟨h.lo, h.hi, turnL_rise h.free h.limbo h.dis, ⟨List.Pairwise.nil, by simp [PoolD.turn]⟩, by simp [PoolD.turn]⟩
theorem PoolG.mono {p : PoolD} {m m' : Int} (h : PoolG p m) (hm : m ≤ m') : PoolG p m' := ⟨h.lo, Int.le_trans h.hi hm, h.free, h.limbo, h.dis⟩
end Go.Proofs.YtgpohemcfgepeaaGreat
