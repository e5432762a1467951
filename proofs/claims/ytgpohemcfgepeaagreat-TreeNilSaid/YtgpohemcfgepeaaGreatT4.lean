/- a part. -/
import Derived.Test.YtgpohemcfgepeaaGreatG2
import Derived.Test.YtgpohemcfgepeaaGreatG3
import Derived.Test.YtgpohemcfgepeaaGreatG6
import Derived.Test.YtgpohemcfgepeaaGreatG4
import Derived.Test.YtgpohemcfgepeaaGreatG7
import Derived.Deep.QuietTactic
import Derived.BigQuiet
namespace Go.Proofs.YtgpohemcfgepeaaGreat
open Go.RowKit Go.MapKept
def NewT (w w' : World) (v : Value) (l : List ByteArray) : Prop := ∀ S : List Nat, (∀ x, x ∈ S → x < w.heap.size) → Txts S w' v l
theorem ownT {w w2 : World} {base : Nat} {v : Value} {l : List ByteArray} (h : w2.ownsRow base 9 1 v l.length (l.map Value.string)) (hb : w.heap.size ≤ base) : NewT w w2 v l := fun S hS =>
  Slc.ofOwns (S := S) h (fun x hx => Nat.lt_of_lt_of_le (hS x hx) hb)
theorem txts_one (l : List ByteArray) : ∀ u ∈ l.map Value.string, u.oneCell' = true := by
  intro u hu; obtain ⟨x, _, rfl⟩ := List.mem_map.1 hu; rfl
theorem append_nil_zerosT {w : World} {ty : TypeId} (k : Nat) (h0 : 0 < k) (hk : k ≤ 1048576) :
    ∃ g cap w', (Builtin.append_ #[53, 3] ty #[.slice none 0 0, .int .i64 k]).run Tryz.prog w = .ok (.slice (some ⟨g, 0, none⟩) k cap) w' ∧
      w'.ownsRow w.heap.size 9 1 (.slice (some ⟨g, 0, none⟩) 0 cap) 0 [] ∧ Fr [] w w' := by
  obtain ⟨i, hi0, hz, hs, hb⟩ := info_parts Tryz.infoStr
  have hr := Lib.run_append_nil_zeros (P := Tryz.prog) w 53 3 ty 9 i (.string ByteArray.empty) .i64 .i64 Tryz.underlying53 Tryz.underlying3 hi0 hz k h0 (by omega) (by omega) (by rw [hb]; omega)
  refine ⟨_, _, _, hr, ⟨rfl, .inr ⟨_, _, _, rfl, Nat.le_refl _, heap_alloc_new w.drew _, Nat.zero_le _, grownCap_le_maxLen w k 0 9 (by unfold maxLen; omega), ?_, by simp⟩⟩, ?_⟩
  · have hge := grownCap_ge w k 0 9
    simp [Builtin.zeroCells, Value.cells]
    omega
  · exact (Fr.alloc1 w.drew _).ofDrew
set_option maxRecDepth 100000 in
theorem growT_k (n : Nat) (w : World) (hn : n ≤ 1048576) :
    Calls Tryz.prog 182 #[.slice none 0 0, .int .i64 n] w fun e w' => ∃ v, e = .returned v ∧ w'.ownsRow w.heap.size 9 1 v 0 [] ∧ Fr [] w w' := by
  by_cases h0 : n = 0
  · subst h0
    have HX := Lib.hid (World.ownsRow_nil w w.heap.size 9 1)
    go_enter Tryz.func182, Tryz.ntmps182
    go_wp2
    go_ret
    exact ⟨_, rfl, HX.out, Fr.refl _ _⟩
  · obtain ⟨g, cap, w', hr, ho, hf⟩ := append_nil_zerosT (w := w) (ty := 53) n (by omega) hn
    have HR := Lib.hid hr
    have HO := Lib.hid (And.intro ho hf)
    have hnI : (0 : Int) < (n : Int) := by omega
    have hcap : (0 : Int) ≤ (cap : Int) := by omega
    have hnJ : (n : Int) ≤ 1048576 := by omega
    clear hr ho hf h0 hn
    go_enter Tryz.func182, Tryz.ntmps182
    go_wp2_with (at_builtin; refine wpList_append_run2 rfl _ _ _ _ rfl HR.out ?_)
    go_ret
    exact ⟨_, rfl, HO.out⟩
def TRows (S : List Nat) (w : World) (v : Value) (ls : List (List ByteArray)) : Prop :=
  ∃ vs : List Value, vs.length = ls.length ∧ Slc S w v ls.length vs ∧ ∀ (i : Nat) (x : Value) (l : List ByteArray), vs[i]? = some x → ls[i]? = some l → Txts S w x l
theorem TRows.kept {S : List Nat} {w w' : World} {v : Value} {ls : List (List ByteArray)} (h : TRows S w v ls) (hf : Fr S w w') : TRows S w' v ls := by
  obtain ⟨vs, h1, h2, h3⟩ := h
  exact ⟨vs, h1, Slc.kept h2 hf, fun i x l hx hl => (h3 i x l hx hl).kept hf⟩
theorem TRows.mono {S S' : List Nat} {w : World} {v : Value} {ls : List (List ByteArray)} (h : TRows S w v ls) (hs : ∀ x, x ∈ S' → x ∈ S) : TRows S' w v ls := by
  obtain ⟨vs, h1, h2, h3⟩ := h
  exact ⟨vs, h1, Slc.mono h2 hs, fun i x l hx hl => (h3 i x l hx hl).mono hs⟩
theorem TRows.form {S : List Nat} {w : World} {v : Value} {ls : List (List ByteArray)} (h : TRows S w v ls) : ∃ a c, v = .slice a ls.length c ∧ ls.length ≤ c := by
  obtain ⟨vs, h1, h2, h3⟩ := h
  exact Slc.form h2
theorem TRows.at {S : List Nat} {w : World} {B off n cap : Nat} {ls : List (List ByteArray)} (h : TRows S w (.slice (some ⟨B, off, none⟩) n cap) ls) {i : Nat} (hi : i < ls.length) :
    ∃ x, w.cell? ⟨B, off + i, none⟩ = some x ∧ Txts S w x ls[i] := by
  obtain ⟨vs, h1, h2, h3⟩ := h
  rcases h2 with ⟨_, _, _, h0, _⟩ | ⟨B', off', cap', h, _, _, hcs⟩
  · omega
  · simp only [Value.slice.injEq, Option.some.injEq, Addr.mk.injEq] at h
    obtain ⟨⟨rfl, rfl, _⟩, _, rfl⟩ := h
    have hv : vs[i]? = some vs[i] := List.getElem?_eq_getElem (by omega)
    exact ⟨vs[i], hcs i _ hv, h3 i _ _ hv (List.getElem?_eq_getElem hi)⟩
theorem flatT {ls : List (List ByteArray)} {k : Nat} (hk : k < ls.length) : (ls.take (k + 1)).flatten = (ls.take k).flatten ++ ls[k] := by
  rw [List.take_succ_eq_append_getElem hk, List.flatten_append]; simp
set_option maxRecDepth 100000 in
set_option maxHeartbeats 1000000 in
theorem concatT_k {S : List Nat} {v : Value} {ls : List (List ByteArray)} (w : World) (h : TRows S w v ls) (hl : ls.flatten.length ≤ 1048576) (hn : ls.length ≤ 1048576) :
    Calls Tryz.prog 138 #[v] w fun e w' => ∃ v', e = .returned v' ∧ NewT w w' v' ls.flatten ∧ Fr [] w w' := by
  obtain ⟨a, c, rfl, _⟩ := h.form
  have HH := Lib.hid (h.mono (S' := []) (by simp))
  have HL := Lib.hid hl
  have hnJ : (ls.length : Int) ≤ 1048576 := by omega
  clear h hl hn
  go_enter Tryz.func138, Tryz.ntmps138
  go_wp2_with fail
  go_loopw [3, 11] (fun n i wr => ∃ k : Nat, k ≤ ls.length ∧ i = .int .i64 k ∧ n = .int .i64 ((ls.take k).flatten.length : Nat) ∧ w = wr) (fun _ i _ => ls.length - (intOf i).toNat)
  case atStart => exact ⟨0, Nat.zero_le _, rfl, by simp, rfl⟩
  case round =>
    obtain ⟨k, hkl, rfl, rfl, rfl⟩ := hrel
    by_cases hlt : k < ls.length
    · have hkI : (k : Int) < (ls.length : Int) := by omega
      obtain ⟨B, off, rfl⟩ : ∃ B off, a = some ⟨B, off, none⟩ := by
        obtain ⟨vs, _, hs, _⟩ := HH.out
        rcases hs with ⟨_, _, _, h0, _⟩ | ⟨B, off, cap, h, _⟩
        · omega
        · cases h; exact ⟨B, off, rfl⟩
      obtain ⟨x, cx, hx⟩ := HH.out.at hlt
      have hfs := flatT hlt
      have hle : (ls.take (k + 1)).flatten.length ≤ ls.flatten.length := by
        conv => rhs; rw [← List.take_append_drop (k + 1) ls, List.flatten_append]
        simp
      have HFS : Hid ((ls.take k).flatten.length + ls[k].length = (ls.take (k + 1)).flatten.length) := Lib.hid (by rw [hfs, List.length_append])
      have hbd : (((ls.take k).flatten.length : Nat) : Int) + ((ls[k].length : Nat) : Int) ≤ 1048576 := by have := HFS.out; have := HL.out; omega
      obtain ⟨xa, xc, rfl, _⟩ := Slc.form hx
      clear hx hfs hle
      generalize (ls.take k).flatten.length = m at *
      generalize ls[k].length = m2 at *
      have hm0 : (0 : Int) ≤ (m : Int) := by omega
      have hm2 : (0 : Int) ≤ (m2 : Int) := by omega
      have hm3 : ¬ (m : Int) + (m2 : Int) < 0 := by omega
      go_wp2
      go_roundw
      case rel => exact ⟨k + 1, by omega, by go_num, by rw [← HFS.out]; simp, trivial⟩
      case measure => simp [intOf]; omega
    · obtain rfl : k = ls.length := by omega
      have HE : Hid ((ls.take ls.length).flatten.length = ls.flatten.length) := Lib.hid (by rw [List.take_length])
      rw [HE.out]
      obtain ⟨m, hm⟩ : ∃ m, ls.flatten.length = m := ⟨_, rfl⟩
      rw [hm]
      have HM : Hid (m ≤ 1048576) := Lib.hid (by have := HL.out; omega)
      clear hm
      go_wp2_with fail
      refine (growT_k m _ HM.out).mono ?_
      rintro e w1 ⟨v1, rfl, ho1, hf1⟩
      have HO1 := Lib.hid ho1
      have HF1 := Lib.hid hf1
      clear ho1 hf1
      go_wp2_with fail
      go_loopw [6, 27] (fun n i wr => ∃ k : Nat, k ≤ ls.length ∧ i = .int .i64 k ∧ wr.ownsRow w.heap.size 9 1 n (ls.take k).flatten.length ((ls.take k).flatten.map Value.string) ∧ Fr [] w wr) (fun _ i _ => ls.length - (intOf i).toNat)
      case atStart => exact ⟨0, Nat.zero_le _, rfl, HO1.out, HF1.out⟩
      case round =>
        obtain ⟨k, hkl, rfl, hown, hfr⟩ := hrel
        by_cases hlt : k < ls.length
        · have hkI : (k : Int) < (ls.length : Int) := by omega
          obtain ⟨B, off, rfl⟩ : ∃ B off, a = some ⟨B, off, none⟩ := by
            obtain ⟨vs, _, hs, _⟩ := HH.out
            rcases hs with ⟨_, _, _, h0, _⟩ | ⟨B, off, cap, h, _⟩
            · omega
            · cases h; exact ⟨B, off, rfl⟩
          obtain ⟨x, cx, hx⟩ := (HH.out.kept hfr).at hlt
          have hfs := flatT hlt
          have hle : (ls.take (k + 1)).flatten.length ≤ ls.flatten.length := by
            conv => rhs; rw [← List.take_append_drop (k + 1) ls, List.flatten_append]
            simp
          have hbd : (ls.take k).flatten.length + ls[k].length ≤ 1048576 := by have := HL.out; rw [hfs, List.length_append] at hle; omega
          obtain ⟨v2, w2, hr2, ho2, hf2, _⟩ := run_append_slc (P := Tryz.prog) (t := 53) (ty := 53) Tryz.underlying53 Tryz.infoStr rfl (by decide) hown hx (by simp) (txts_one _) (by unfold maxLen; omega) (by omega) hfr.size
          rw [← List.map_append, ← hfs, ← List.length_append, ← hfs] at ho2
          have HR2 := Lib.hid hr2
          have HO2 := Lib.hid (And.intro ho2 (hfr.andThen hf2 (fun y hy => .inr (by
            cases hb : u6.ownBlock with
            | none => rw [hb] at hy; cases hy
            | some g => rw [hb] at hy; simp at hy; rw [hy]; exact (hown.lt g hb).1))))
          clear hown hfr hx hfs hle hbd hr2 ho2 hf2
          go_wp2_with (at_builtin; refine wpList_append_run rfl _ _ _ rfl HR2.out ?_)
          go_roundw
          case rel => exact ⟨k + 1, by omega, by go_num, HO2.out⟩
          case measure => simp [intOf]; omega
        · obtain rfl : k = ls.length := by omega
          rw [List.take_length] at hown
          have HE := Lib.hid (And.intro (ownT (w := w) hown (Nat.le_refl _)) hfr)
          clear hown hfr
          go_wp2
          go_ret
          exact ⟨_, rfl, HE.out⟩
end Go.Proofs.YtgpohemcfgepeaaGreat

namespace Go.Proofs.YtgpohemcfgepeaaGreat
open Go.RowKit Go.MapKept
def NewP (w w' : World) (v : Value) (l : List PairD) : Prop := ∀ S : List Nat, (∀ x, x ∈ S → x < w.heap.size) → Prs S w' v l
theorem ownP {w w2 : World} {base : Nat} {v : Value} {l : List PairD} (h : w2.ownsRow base 36 2 v l.length (prCells l)) (hb : w.heap.size ≤ base) : NewP w w2 v l := fun S hS =>
  Slc.ofOwns (S := S) h (fun x hx => Nat.lt_of_lt_of_le (hS x hx) hb)
theorem prCells_app (a b : List PairD) : prCells (a ++ b) = prCells a ++ prCells b := List.flatMap_append
theorem prCells_one (l : List PairD) : ∀ u ∈ prCells l, u.oneCell' = true := by
  intro u hu
  obtain ⟨x, _, hx⟩ := List.mem_flatMap.1 hu
  simp only [List.mem_cons, List.not_mem_nil, or_false] at hx
  rcases hx with rfl | rfl <;> rfl
theorem append_nil_zerosP {w : World} {ty : TypeId} (k : Nat) (h0 : 0 < k) (hk : k ≤ 1048576) :
    ∃ g cap w', (Builtin.append_ #[27, 3] ty #[.slice none 0 0, .int .i64 k]).run Tryz.prog w = .ok (.slice (some ⟨g, 0, none⟩) k cap) w' ∧
      w'.ownsRow w.heap.size 36 2 (.slice (some ⟨g, 0, none⟩) 0 cap) 0 [] ∧ Fr [] w w' := by
  obtain ⟨i, hi0, hz, hs, hb⟩ := info_parts Tryz.infoPair
  have hr := Lib.run_append_nil_zeros (P := Tryz.prog) w 27 3 ty 36 i (.agg #[.string ByteArray.empty, .string ByteArray.empty]) .i64 .i64 Tryz.underlying27 Tryz.underlying3 hi0 hz k h0 (by omega) (by omega) (by rw [hb]; omega)
  refine ⟨_, _, _, hr, ⟨rfl, .inr ⟨_, _, _, rfl, Nat.le_refl _, heap_alloc_new w.drew _, Nat.zero_le _, grownCap_le_maxLen w k 0 36 (by unfold maxLen; omega), ?_, by simp⟩⟩, ?_⟩
  · have hge := grownCap_ge w k 0 36
    simp [Builtin.zeroCells, Value.cells]
    omega
  · exact (Fr.alloc1 w.drew _).ofDrew
set_option maxRecDepth 100000 in
theorem growP_k (n : Nat) (w : World) (hn : n ≤ 1048576) :
    Calls Tryz.prog 101 #[.slice none 0 0, .int .i64 n] w fun e w' => ∃ v, e = .returned v ∧ w'.ownsRow w.heap.size 36 2 v 0 [] ∧ Fr [] w w' := by
  by_cases h0 : n = 0
  · subst h0
    have HX := Lib.hid (World.ownsRow_nil w w.heap.size 36 2)
    go_enter Tryz.func101, Tryz.ntmps101
    go_wp2
    go_ret
    exact ⟨_, rfl, HX.out, Fr.refl _ _⟩
  · obtain ⟨g, cap, w', hr, ho, hf⟩ := append_nil_zerosP (w := w) (ty := 27) n (by omega) hn
    have HR := Lib.hid hr
    have HO := Lib.hid (And.intro ho hf)
    have hnI : (0 : Int) < (n : Int) := by omega
    have hcap : (0 : Int) ≤ (cap : Int) := by omega
    have hnJ : (n : Int) ≤ 1048576 := by omega
    clear hr ho hf h0 hn
    go_enter Tryz.func101, Tryz.ntmps101
    go_wp2_with (at_builtin; refine wpList_append_run2 rfl _ _ _ _ rfl HR.out ?_)
    go_ret
    exact ⟨_, rfl, HO.out⟩
def PRows (S : List Nat) (w : World) (v : Value) (ls : List (List PairD)) : Prop :=
  ∃ vs : List Value, vs.length = ls.length ∧ Slc S w v ls.length vs ∧ ∀ (i : Nat) (x : Value) (l : List PairD), vs[i]? = some x → ls[i]? = some l → Prs S w x l
theorem PRows.kept {S : List Nat} {w w' : World} {v : Value} {ls : List (List PairD)} (h : PRows S w v ls) (hf : Fr S w w') : PRows S w' v ls := by
  obtain ⟨vs, h1, h2, h3⟩ := h
  exact ⟨vs, h1, Slc.kept h2 hf, fun i x l hx hl => (h3 i x l hx hl).kept hf⟩
theorem PRows.mono {S S' : List Nat} {w : World} {v : Value} {ls : List (List PairD)} (h : PRows S w v ls) (hs : ∀ x, x ∈ S' → x ∈ S) : PRows S' w v ls := by
  obtain ⟨vs, h1, h2, h3⟩ := h
  exact ⟨vs, h1, Slc.mono h2 hs, fun i x l hx hl => (h3 i x l hx hl).mono hs⟩
theorem PRows.form {S : List Nat} {w : World} {v : Value} {ls : List (List PairD)} (h : PRows S w v ls) : ∃ a c, v = .slice a ls.length c ∧ ls.length ≤ c := by
  obtain ⟨vs, h1, h2, h3⟩ := h
  exact Slc.form h2
theorem PRows.at {S : List Nat} {w : World} {B off n cap : Nat} {ls : List (List PairD)} (h : PRows S w (.slice (some ⟨B, off, none⟩) n cap) ls) {i : Nat} (hi : i < ls.length) :
    ∃ x, w.cell? ⟨B, off + i, none⟩ = some x ∧ Prs S w x ls[i] := by
  obtain ⟨vs, h1, h2, h3⟩ := h
  rcases h2 with ⟨_, _, _, h0, _⟩ | ⟨B', off', cap', h, _, _, hcs⟩
  · omega
  · simp only [Value.slice.injEq, Option.some.injEq, Addr.mk.injEq] at h
    obtain ⟨⟨rfl, rfl, _⟩, _, rfl⟩ := h
    have hv : vs[i]? = some vs[i] := List.getElem?_eq_getElem (by omega)
    exact ⟨vs[i], hcs i _ hv, h3 i _ _ hv (List.getElem?_eq_getElem hi)⟩
theorem flatP {ls : List (List PairD)} {k : Nat} (hk : k < ls.length) : (ls.take (k + 1)).flatten = (ls.take k).flatten ++ ls[k] := by
  rw [List.take_succ_eq_append_getElem hk, List.flatten_append]; simp
set_option maxRecDepth 100000 in
set_option maxHeartbeats 1000000 in
theorem concatP_k {S : List Nat} {v : Value} {ls : List (List PairD)} (w : World) (h : PRows S w v ls) (hl : ls.flatten.length ≤ 1048576) (hn : ls.length ≤ 1048576) :
    Calls Tryz.prog 58 #[v] w fun e w' => ∃ v', e = .returned v' ∧ NewP w w' v' ls.flatten ∧ Fr [] w w' := by
  obtain ⟨a, c, rfl, _⟩ := h.form
  have HH := Lib.hid (h.mono (S' := []) (by simp))
  have HL := Lib.hid hl
  have hnJ : (ls.length : Int) ≤ 1048576 := by omega
  clear h hl hn
  go_enter Tryz.func58, Tryz.ntmps58
  go_wp2_with fail
  go_loopw [3, 11] (fun n i wr => ∃ k : Nat, k ≤ ls.length ∧ i = .int .i64 k ∧ n = .int .i64 ((ls.take k).flatten.length : Nat) ∧ w = wr) (fun _ i _ => ls.length - (intOf i).toNat)
  case atStart => exact ⟨0, Nat.zero_le _, rfl, by simp, rfl⟩
  case round =>
    obtain ⟨k, hkl, rfl, rfl, rfl⟩ := hrel
    by_cases hlt : k < ls.length
    · have hkI : (k : Int) < (ls.length : Int) := by omega
      obtain ⟨B, off, rfl⟩ : ∃ B off, a = some ⟨B, off, none⟩ := by
        obtain ⟨vs, _, hs, _⟩ := HH.out
        rcases hs with ⟨_, _, _, h0, _⟩ | ⟨B, off, cap, h, _⟩
        · omega
        · cases h; exact ⟨B, off, rfl⟩
      obtain ⟨x, cx, hx⟩ := HH.out.at hlt
      have hfs := flatP hlt
      have hle : (ls.take (k + 1)).flatten.length ≤ ls.flatten.length := by
        conv => rhs; rw [← List.take_append_drop (k + 1) ls, List.flatten_append]
        simp
      have HFS : Hid ((ls.take k).flatten.length + ls[k].length = (ls.take (k + 1)).flatten.length) := Lib.hid (by rw [hfs, List.length_append])
      have hbd : (((ls.take k).flatten.length : Nat) : Int) + ((ls[k].length : Nat) : Int) ≤ 1048576 := by have := HFS.out; have := HL.out; omega
      obtain ⟨xa, xc, rfl, _⟩ := Slc.form hx
      clear hx hfs hle
      generalize (ls.take k).flatten.length = m at *
      generalize ls[k].length = m2 at *
      have hm0 : (0 : Int) ≤ (m : Int) := by omega
      have hm2 : (0 : Int) ≤ (m2 : Int) := by omega
      have hm3 : ¬ (m : Int) + (m2 : Int) < 0 := by omega
      go_wp2
      go_roundw
      case rel => exact ⟨k + 1, by omega, by go_num, by rw [← HFS.out]; simp, trivial⟩
      case measure => simp [intOf]; omega
    · obtain rfl : k = ls.length := by omega
      have HE : Hid ((ls.take ls.length).flatten.length = ls.flatten.length) := Lib.hid (by rw [List.take_length])
      rw [HE.out]
      obtain ⟨m, hm⟩ : ∃ m, ls.flatten.length = m := ⟨_, rfl⟩
      rw [hm]
      have HM : Hid (m ≤ 1048576) := Lib.hid (by have := HL.out; omega)
      clear hm
      go_wp2_with fail
      refine (growP_k m _ HM.out).mono ?_
      rintro e w1 ⟨v1, rfl, ho1, hf1⟩
      have HO1 := Lib.hid ho1
      have HF1 := Lib.hid hf1
      clear ho1 hf1
      go_wp2_with fail
      go_loopw [6, 27] (fun n i wr => ∃ k : Nat, k ≤ ls.length ∧ i = .int .i64 k ∧ wr.ownsRow w.heap.size 36 2 n (ls.take k).flatten.length (prCells (ls.take k).flatten) ∧ Fr [] w wr) (fun _ i _ => ls.length - (intOf i).toNat)
      case atStart => exact ⟨0, Nat.zero_le _, rfl, HO1.out, HF1.out⟩
      case round =>
        obtain ⟨k, hkl, rfl, hown, hfr⟩ := hrel
        by_cases hlt : k < ls.length
        · have hkI : (k : Int) < (ls.length : Int) := by omega
          obtain ⟨B, off, rfl⟩ : ∃ B off, a = some ⟨B, off, none⟩ := by
            obtain ⟨vs, _, hs, _⟩ := HH.out
            rcases hs with ⟨_, _, _, h0, _⟩ | ⟨B, off, cap, h, _⟩
            · omega
            · cases h; exact ⟨B, off, rfl⟩
          obtain ⟨x, cx, hx⟩ := (HH.out.kept hfr).at hlt
          have hfs := flatP hlt
          have hle : (ls.take (k + 1)).flatten.length ≤ ls.flatten.length := by
            conv => rhs; rw [← List.take_append_drop (k + 1) ls, List.flatten_append]
            simp
          have hbd : (ls.take k).flatten.length + ls[k].length ≤ 1048576 := by have := HL.out; rw [hfs, List.length_append] at hle; omega
          obtain ⟨v2, w2, hr2, ho2, hf2, _⟩ := run_append_slc (P := Tryz.prog) (t := 27) (ty := 27) Tryz.underlying27 Tryz.infoPair rfl (by decide) hown hx (prCells_length _) (prCells_one _) (by unfold maxLen; omega) (by omega) hfr.size
          rw [← prCells_app, ← hfs, ← List.length_append, ← hfs] at ho2
          have HR2 := Lib.hid hr2
          have HO2 := Lib.hid (And.intro ho2 (hfr.andThen hf2 (fun y hy => .inr (by
            cases hb : u6.ownBlock with
            | none => rw [hb] at hy; cases hy
            | some g => rw [hb] at hy; simp at hy; rw [hy]; exact (hown.lt g hb).1))))
          clear hown hfr hx hfs hle hbd hr2 ho2 hf2
          go_wp2_with (at_builtin; refine wpList_append_run rfl _ _ _ rfl HR2.out ?_)
          go_roundw
          case rel => exact ⟨k + 1, by omega, by go_num, HO2.out⟩
          case measure => simp [intOf]; omega
        · obtain rfl : k = ls.length := by omega
          rw [List.take_length] at hown
          have HE := Lib.hid (And.intro (ownP (w := w) hown (Nat.le_refl _)) hfr)
          clear hown hfr
          go_wp2
          go_ret
          exact ⟨_, rfl, HE.out⟩
end Go.Proofs.YtgpohemcfgepeaaGreat

namespace Go.Proofs.YtgpohemcfgepeaaGreat
open Go.RowKit Go.MapKept
theorem heap_sz (w : World) (o : Obj) : (w.alloc o).heap.size = w.heap.size + 1 := by simp
theorem al1 (w : World) (o : Obj) : ∃ W, w.alloc o = W ∧ Fr [] w W ∧ W.heap.size = w.heap.size + 1 ∧ W.heap[w.heap.size]? = some o := ⟨_, rfl, Fr.alloc1 _ _, heap_sz _ _, blk_new _ _⟩
theorem al2 (w : World) (o1 o2 : Obj) : ∃ W, (w.alloc o1).alloc o2 = W ∧ Fr [] w W ∧ W.heap.size = w.heap.size + 2 ∧ W.heap[w.heap.size]? = some o1 ∧ W.heap[w.heap.size + 1]? = some o2 := by
  obtain ⟨W1, e1, f1, s1, b1⟩ := al1 w o1
  obtain ⟨W2, e2, f2, s2, b2⟩ := al1 W1 o2
  rw [s1] at s2 b2
  exact ⟨W2, by rw [e1, e2], f1.trans f2, s2, f2.heap b1 (by simp), b2⟩
theorem al3 (w : World) (o1 o2 o3 : Obj) : ∃ W, ((w.alloc o1).alloc o2).alloc o3 = W ∧ Fr [] w W ∧ W.heap.size = w.heap.size + 3 ∧ W.heap[w.heap.size]? = some o1 ∧ W.heap[w.heap.size + 1]? = some o2 ∧ W.heap[w.heap.size + 1 + 1]? = some o3 := by
  obtain ⟨W2, e2, f2, s2, b1, b2⟩ := al2 w o1 o2
  obtain ⟨W3, e3, f3, s3, b3⟩ := al1 W2 o3
  rw [s2] at s3 b3
  exact ⟨W3, by rw [e2, e3], f2.trans f3, s3, f3.heap b1 (by simp), f3.heap b2 (by simp), b3⟩
theorem bk2a (w : World) (o1 o2 : Obj) : ((w.alloc o1).alloc o2).heap[w.heap.size]? = some o1 := by obtain ⟨W, e, _, _, b1, b2⟩ := al2 w o1 o2; rw [e]; exact b1
theorem bk2b (w : World) (o1 o2 : Obj) : ((w.alloc o1).alloc o2).heap[w.heap.size + 1]? = some o2 := by obtain ⟨W, e, _, _, b1, b2⟩ := al2 w o1 o2; rw [e]; exact b2
theorem bk3a (w : World) (o1 o2 o3 : Obj) : (((w.alloc o1).alloc o2).alloc o3).heap[w.heap.size]? = some o1 := by obtain ⟨W, e, _, _, b1, b2, b3⟩ := al3 w o1 o2 o3; rw [e]; exact b1
theorem bk3b (w : World) (o1 o2 o3 : Obj) : (((w.alloc o1).alloc o2).alloc o3).heap[w.heap.size + 1]? = some o2 := by obtain ⟨W, e, _, _, b1, b2, b3⟩ := al3 w o1 o2 o3; rw [e]; exact b2
theorem bk3c (w : World) (o1 o2 o3 : Obj) : (((w.alloc o1).alloc o2).alloc o3).heap[w.heap.size + 1 + 1]? = some o3 := by obtain ⟨W, e, _, _, b1, b2, b3⟩ := al3 w o1 o2 o3; rw [e]; exact b3
theorem st1 {w : World} {b : Nat} {cs : Array Value} {T : TypeId} {z : Nat × Nat} (h : w.heap[b]? = some (.cells cs T z)) (i : Nat) (v : Value) : ∃ W, w.setCell ⟨b, i, none⟩ v = W ∧ Fr [b] w W ∧ W.heap.size = w.heap.size ∧ W.heap[b]? = some (.cells (cs.setIfInBounds i v) T z) :=
  ⟨_, rfl, Fr.setCell _ ⟨b, i, none⟩ _, by simp, blk_set h i v⟩
theorem dr1 (w : World) : ∃ W, w.drew = W ∧ Fr [] w W ∧ W.heap = w.heap := ⟨_, rfl, (Fr.refl [] w).drew, rfl⟩
theorem set11a {w : World} {b : Nat} {T : TypeId} {cs : Array Value} (h : w.heap[b]? = some (.cells cs T (0, 0))) (hl : cs.size = 11) (x0 x1 x2 x3 x4 x5 x6 x7 x8 x9 x10 : Value) :
    (((((((((((w.setCell ⟨b, 0, none⟩ x0).setCell ⟨b, 1, none⟩ x1).setCell ⟨b, 2, none⟩ x2).setCell ⟨b, 3, none⟩ x3).setCell ⟨b, 4, none⟩ x4).setCell ⟨b, 5, none⟩ x5).setCell ⟨b, 6, none⟩ x6).setCell ⟨b, 7, none⟩ x7).setCell ⟨b, 8, none⟩ x8).setCell ⟨b, 9, none⟩ x9).setCell ⟨b, 10, none⟩ x10).heap[b]? = some (.cells #[x0, x1, x2, x3, x4, x5, x6, x7, x8, x9, x10] T (0, 0)) ∧ Fr [b] w (((((((((((w.setCell ⟨b, 0, none⟩ x0).setCell ⟨b, 1, none⟩ x1).setCell ⟨b, 2, none⟩ x2).setCell ⟨b, 3, none⟩ x3).setCell ⟨b, 4, none⟩ x4).setCell ⟨b, 5, none⟩ x5).setCell ⟨b, 6, none⟩ x6).setCell ⟨b, 7, none⟩ x7).setCell ⟨b, 8, none⟩ x8).setCell ⟨b, 9, none⟩ x9).setCell ⟨b, 10, none⟩ x10) := by
  obtain ⟨l⟩ := cs
  exact set11 h (by simpa using hl) x0 x1 x2 x3 x4 x5 x6 x7 x8 x9 x10
theorem st11 {w : World} {b : Nat} {T : TypeId} {cs : Array Value} (h : w.heap[b]? = some (.cells cs T (0, 0))) (hl : cs.size = 11) (x0 x1 x2 x3 x4 x5 x6 x7 x8 x9 x10 : Value) :
    ∃ W, ((((((((((w.setCell ⟨b, 0, none⟩ x0).setCell ⟨b, 1, none⟩ x1).setCell ⟨b, 2, none⟩ x2).setCell ⟨b, 3, none⟩ x3).setCell ⟨b, 4, none⟩ x4).setCell ⟨b, 5, none⟩ x5).setCell ⟨b, 6, none⟩ x6).setCell ⟨b, 7, none⟩ x7).setCell ⟨b, 8, none⟩ x8).setCell ⟨b, 9, none⟩ x9).setCell ⟨b, 10, none⟩ x10 = W ∧ Fr [b] w W ∧ W.heap[b]? = some (.cells #[x0, x1, x2, x3, x4, x5, x6, x7, x8, x9, x10] T (0, 0)) :=
  ⟨_, rfl, (set11a h hl x0 x1 x2 x3 x4 x5 x6 x7 x8 x9 x10).2, (set11a h hl x0 x1 x2 x3 x4 x5 x6 x7 x8 x9 x10).1⟩
theorem c11 {w : World} {b : Nat} {T : TypeId} {z : Nat × Nat} {x0 x1 x2 x3 x4 x5 x6 x7 x8 x9 x10 : Value} (h : w.heap[b]? = some (.cells #[x0, x1, x2, x3, x4, x5, x6, x7, x8, x9, x10] T z)) :
    w.cell? ⟨b, 0, none⟩ = some x0 ∧ w.cell? ⟨b, 1, none⟩ = some x1 ∧ w.cell? ⟨b, 2, none⟩ = some x2 ∧ w.cell? ⟨b, 3, none⟩ = some x3 ∧ w.cell? ⟨b, 4, none⟩ = some x4 ∧ w.cell? ⟨b, 5, none⟩ = some x5 ∧ w.cell? ⟨b, 6, none⟩ = some x6 ∧ w.cell? ⟨b, 7, none⟩ = some x7 ∧ w.cell? ⟨b, 8, none⟩ = some x8 ∧ w.cell? ⟨b, 9, none⟩ = some x9 ∧ w.cell? ⟨b, 10, none⟩ = some x10 :=
  ⟨blk_cell h 0, blk_cell h 1, blk_cell h 2, blk_cell h 3, blk_cell h 4, blk_cell h 5, blk_cell h 6, blk_cell h 7, blk_cell h 8, blk_cell h 9, blk_cell h 10⟩
theorem f11 {w : World} {b : Nat} {T : TypeId} {cs : Array Value} (h : w.heap[b]? = some (.cells cs T (0, 0))) :
    w.frozen? ⟨b, 0, none⟩ = false ∧ w.frozen? ⟨b, 1, none⟩ = false ∧ w.frozen? ⟨b, 2, none⟩ = false ∧ w.frozen? ⟨b, 3, none⟩ = false ∧ w.frozen? ⟨b, 4, none⟩ = false ∧ w.frozen? ⟨b, 5, none⟩ = false ∧ w.frozen? ⟨b, 6, none⟩ = false ∧ w.frozen? ⟨b, 7, none⟩ = false ∧ w.frozen? ⟨b, 8, none⟩ = false ∧ w.frozen? ⟨b, 9, none⟩ = false ∧ w.frozen? ⟨b, 10, none⟩ = false :=
  ⟨blk_free h 0, blk_free h 1, blk_free h 2, blk_free h 3, blk_free h 4, blk_free h 5, blk_free h 6, blk_free h 7, blk_free h 8, blk_free h 9, blk_free h 10⟩
theorem rows_ofT {w : World} {b : Nat} {xs : List Value} {U : TypeId} {ls : List (List ByteArray)} (hb : w.heap[b]? = some (.cells xs.toArray U (0, 0))) (hn : xs.length = ls.length) (hx : ∀ (i : Nat) (x : Value) (l : List ByteArray), xs[i]? = some x → ls[i]? = some l → Txts [] w x l) :
    TRows [] w (.slice (some ⟨b, 0, none⟩) ls.length ls.length) ls :=
  ⟨xs, hn, by have := Slc.ofBlock (S := []) hb (by simp) ls.length ls.length (Nat.le_refl _); simpa using this, hx⟩
theorem rows_ofP {w : World} {b : Nat} {xs : List Value} {U : TypeId} {ls : List (List PairD)} (hb : w.heap[b]? = some (.cells xs.toArray U (0, 0))) (hn : xs.length = ls.length) (hx : ∀ (i : Nat) (x : Value) (l : List PairD), xs[i]? = some x → ls[i]? = some l → Prs [] w x l) :
    PRows [] w (.slice (some ⟨b, 0, none⟩) ls.length ls.length) ls :=
  ⟨xs, hn, by have := Slc.ofBlock (S := []) hb (by simp) ls.length ls.length (Nat.le_refl _); simpa using this, hx⟩
theorem rows2P {w : World} {x1 x2 : Value} {l1 l2 : List PairD} (U : TypeId) (h1 : Prs [] w x1 l1) (h2 : Prs [] w x2 l2) :
    PRows [] (w.alloc (.cells #[x1, x2] U)) (.slice (some ⟨w.heap.size, 0, none⟩) 2 2) [l1, l2] := by
  have hf := Fr.alloc1 w (.cells #[x1, x2] U)
  refine rows_ofP (xs := [x1, x2]) (U := U) (blk_new w _) rfl (fun i x l hx hl => ?_)
  match i with
  | 0 => cases hx; cases hl; exact h1.kept hf
  | 1 => cases hx; cases hl; exact h2.kept hf
  | i + 2 => cases hx
theorem rowsT3 {w : World} {h : Nat} {U : TypeId} {x1 x2 x3 : Value} {l1 l2 l3 : List ByteArray} (hb : w.heap[h]? = some (.cells #[x1, x2, x3] U (0, 0))) (h1 : Txts [] w x1 l1) (h2 : Txts [] w x2 l2) (h3 : Txts [] w x3 l3) : TRows [] w (.slice (some ⟨h, 0, none⟩) 3 3) [l1, l2, l3] :=
  rows_ofT (xs := [x1, x2, x3]) hb rfl (fun i x l hx hl => by
    match i with
    | 0 => cases hx; cases hl; exact h1
    | 1 => cases hx; cases hl; exact h2
    | 2 => cases hx; cases hl; exact h3
    | i + 3 => cases hx)
theorem rowsI2 {w : World} {h : Nat} {U : TypeId} {x1 x2 : Value} {l1 l2 : List Int} (hb : w.heap[h]? = some (.cells #[x1, x2] U (0, 0))) (h1 : Ints [] w x1 l1) (h2 : Ints [] w x2 l2) : IntRows [] w (.slice (some ⟨h, 0, none⟩) 2 2) [l1, l2] :=
  rows_of (xs := [x1, x2]) hb rfl (fun i x l hx hl => by
    match i with
    | 0 => cases hx; cases hl; exact h1
    | 1 => cases hx; cases hl; exact h2
    | i + 2 => cases hx)
theorem rowsI3 {w : World} {h : Nat} {U : TypeId} {x1 x2 x3 : Value} {l1 l2 l3 : List Int} (hb : w.heap[h]? = some (.cells #[x1, x2, x3] U (0, 0))) (h1 : Ints [] w x1 l1) (h2 : Ints [] w x2 l2) (h3 : Ints [] w x3 l3) : IntRows [] w (.slice (some ⟨h, 0, none⟩) 3 3) [l1, l2, l3] :=
  rows_of (xs := [x1, x2, x3]) hb rfl (fun i x l hx hl => by
    match i with
    | 0 => cases hx; cases hl; exact h1
    | 1 => cases hx; cases hl; exact h2
    | 2 => cases hx; cases hl; exact h3
    | i + 3 => cases hx)
theorem txt1 {w : World} {h : Nat} {U : TypeId} {k : ByteArray} (hb : w.heap[h]? = some (.cells #[.string k] U (0, 0))) : Txts [] w (.slice (some ⟨h, 0, none⟩) 1 1) [k] :=
  Slc.ofBlock hb (by simp) 1 1 (Nat.le_refl _)
end Go.Proofs.YtgpohemcfgepeaaGreat

namespace Go.Proofs.YtgpohemcfgepeaaGreat
open Go.RowKit Go.MapKept
set_option maxRecDepth 100000 in
set_option maxHeartbeats 2000000 in
theorem search_k {n c : Nat} (F : Nat) (caps : Array Value) (w : World) (hn : n ≤ 1048576) (hc : c ≤ n) (hF : ∀ args w, (callFunc F args).run Tryz.prog w = .ok (.enter F args) w)
    (hp : ∀ (i : Nat) (w1 : World), i < n → Fr [] w w1 → Calls Tryz.prog F (#[.int .i64 i] ++ caps) w1 fun e w2 => e = .returned (.bool (decide (c ≤ i))) ∧ Fr [] w1 w2) :
    Calls Tryz.prog 107 #[.int .i64 n, .func (.func F) #[] caps] w fun e w' => e = .returned (.int .i64 c) ∧ Fr [] w w' := by
  have HP := Lib.hid hp
  clear hp
  have hnI : (n : Int) ≤ 1048576 := by omega
  go_enter Tryz.func107, Tryz.ntmps107
  go_wp2_with fail
  go_loopw [5, 6] (fun x y wr => ∃ i j : Nat, i ≤ c ∧ c ≤ j ∧ j ≤ n ∧ x = .int .i64 i ∧ y = .int .i64 j ∧ Fr [] w wr) (fun x y _ => (intOf y).toNat - (intOf x).toNat)
  case atStart => exact ⟨0, n, by omega, hc, by omega, rfl, rfl, Fr.refl _ _⟩
  case round =>
    obtain ⟨i, j, hi, hj, hjn, rfl, rfl, hfr⟩ := hrel
    have HFR := Lib.hid hfr
    clear hfr
    by_cases hlt : i < j
    · have hltI : (i : Int) < (j : Int) := by omega
      have hw1 : IntKind.u64.wrap ((i : Int) + (j : Int)) = (i : Int) + (j : Int) := by simp [IntKind.wrap, IntKind.bits, IntKind.signed]; omega
      have hjI : (j : Int) ≤ 1048576 := by omega
      go_wp2_with fail
      obtain ⟨h, hh⟩ : ∃ h : Nat, ((i : Int) + (j : Int)) / 2 = h := ⟨(i + j) / 2, by omega⟩
      have hb : i ≤ h ∧ h < j := by omega
      rw [hh]
      refine (HP.out h wr (by omega) HFR.out).mono ?_
      rintro e w2 ⟨rfl, hf2⟩
      have HF2 := Lib.hid (HFR.out.trans hf2)
      have hhI : (h : Int) ≤ 1048576 := by omega
      clear hf2
      by_cases hch : c ≤ h
      · rw [decide_eq_true hch]
        go_wp2_with fail
        go_roundw
        case rel => exact ⟨i, h, hi, hch, by omega, rfl, rfl, HF2.out⟩
        case measure => simp [intOf]; omega
      · rw [decide_eq_false hch]
        go_wp2_with fail
        go_roundw
        case rel => exact ⟨h + 1, j, by omega, hj, hjn, by go_num, rfl, HF2.out⟩
        case measure => simp [intOf]; omega
    · obtain rfl : i = c := by omega
      have hge : ¬ (i : Int) < (j : Int) := by omega
      go_wp2_with fail
      go_ret
      exact ⟨rfl, HFR.out⟩
end Go.Proofs.YtgpohemcfgepeaaGreat

namespace Go.Proofs.YtgpohemcfgepeaaGreat
open Go.RowKit Go.MapKept
def cmpK (a key : ByteArray) : Int := if Op.bytesLess a.toList key.toList = true then -1 else if (a.toList == key.toList) = true then 0 else 1
set_option maxRecDepth 100000 in
theorem find1_k (a v key : ByteArray) (w : World) : Calls Tryz.prog 100 #[.agg #[.string a, .string v], .string key] w fun e w' => e = .returned (.int .i64 (cmpK a key)) ∧ Fr [] w w' := by
  have hal := Fr.alloc1 w (.cells #[.string a, .string v] 36)
  obtain ⟨W1, hW1⟩ : ∃ W1, w.alloc (.cells #[.string a, .string v] 36) = W1 := ⟨_, rfl⟩
  have hbk := blk_new w (.cells #[.string a, .string v] 36)
  rw [hW1] at hal hbk
  have c0 : W1.cell? ⟨w.heap.size, 0, none⟩ = some (.string a) := by rw [blk_cell hbk 0]; rfl
  have HF := Lib.hid hal
  have HE : Hid (cmpK a key = if Op.bytesLess a.toList key.toList = true then -1 else if (a.toList == key.toList) = true then 0 else 1) := Lib.hid rfl
  clear hal hbk
  go_enter Tryz.func100, Tryz.ntmps100
  cases h1 : Op.bytesLess a.toList key.toList with
  | true =>
    go_wp2_with fail
    go_ret
    exact ⟨by rw [HE.out, h1]; rfl, HF.out⟩
  | false =>
    cases h2 : (a.toList == key.toList) with
    | true =>
      go_wp2_with fail
      go_ret
      exact ⟨by rw [HE.out, h1, h2]; rfl, HF.out⟩
    | false =>
      go_wp2_with fail
      go_ret
      exact ⟨by rw [HE.out, h1, h2]; rfl, HF.out⟩
theorem cmpK_less {a key : ByteArray} : decide (cmpK a key < 0) = Op.bytesLess a.toList key.toList := by
  unfold cmpK
  cases Op.bytesLess a.toList key.toList with
  | true => rfl
  | false => cases (a.toList == key.toList) <;> rfl
set_option maxRecDepth 100000 in
set_option maxHeartbeats 2000000 in
theorem bsf_k {S : List Nat} {v : Value} {l : List PairD} {c : Nat} {b : Bool} (key : ByteArray) (w : World) (h : Prs S w v l) (hl : l.length ≤ 1048576) (hc : c ≤ l.length) (hlo : ∀ i (hi : i < l.length), Op.bytesLess l[i].1.toList key.toList = decide (i < c))
    (hb : (match l[c]? with | some x => decide (cmpK x.1 key = 0) | none => false) = b) :
    Calls Tryz.prog 99 #[v, .string key, .func (.func 100) #[] #[]] w fun e w' => e = .returned (.tuple #[.int .i64 c, .bool b]) ∧ Fr [] w w' := by
  obtain ⟨a, cp, rfl, _⟩ := Slc.form h
  have HH := Lib.hid (h.mono (S' := []) (by simp))
  have HLO := Lib.hid hlo
  have HB := Lib.hid hb
  have hlI : (l.length : Int) ≤ 1048576 := by omega
  clear h hlo hb
  go_enter Tryz.func99, Tryz.ntmps99
  go_wp2_with fail
  go_loopw [9, 10] (fun x y wr => ∃ i j : Nat, i ≤ c ∧ c ≤ j ∧ j ≤ l.length ∧ x = .int .i64 i ∧ y = .int .i64 j ∧ Fr [] w wr) (fun x y _ => (intOf y).toNat - (intOf x).toNat)
  case atStart => exact ⟨0, l.length, by omega, hc, by omega, rfl, rfl, Fr.refl _ _⟩
  case round =>
    obtain ⟨i, j, hi, hj, hjn, rfl, rfl, hfr⟩ := hrel
    have HFR := Lib.hid hfr
    clear hfr
    by_cases hlt : i < j
    · have hltI : (i : Int) < (j : Int) := by omega
      have hw1 : IntKind.u64.wrap ((i : Int) + (j : Int)) = (i : Int) + (j : Int) := by simp [IntKind.wrap, IntKind.bits, IntKind.signed]; omega
      have hjI : (j : Int) ≤ 1048576 := by omega
      obtain ⟨m, hm⟩ : ∃ m : Nat, ((i : Int) + (j : Int)) / 2 = m := ⟨(i + j) / 2, by omega⟩
      have hmb : i ≤ m ∧ m < j := by omega
      have hml : m < l.length := by omega
      have hmI : (m : Int) < (l.length : Int) := by omega
      obtain ⟨B, off, rfl⟩ : ∃ B off, a = some ⟨B, off, none⟩ := by
        rcases HH.out with ⟨_, _, _, h0, _⟩ | ⟨B, off, cap, h, _⟩
        · omega
        · cases h; exact ⟨B, off, rfl⟩
      obtain ⟨hc1, hc2⟩ := (HH.out.kept HFR.out).at hml
      have HLT := Lib.hid (HLO.out m hml)
      generalize l[m] = x at *
      obtain ⟨xk, xv⟩ := x
      simp only at hc1 hc2 HLT
      go_wp2_with fail
      refine (find1_k xk xv key wr).mono ?_
      rintro e w2 ⟨rfl, hf2⟩
      have HF2 := Lib.hid (HFR.out.trans hf2)
      have hmI2 : (m : Int) ≤ 1048576 := by omega
      clear hf2
      have hdec : decide (cmpK xk key < 0) = decide (m < c) := by rw [cmpK_less]; exact HLT.out
      by_cases hcm : m < c
      · have hneg : cmpK xk key < 0 := by rw [decide_eq_true hcm] at hdec; exact of_decide_eq_true hdec
        generalize cmpK xk key = z at *
        go_wp2_with fail
        go_roundw
        case rel => exact ⟨m + 1, j, by omega, hj, hjn, by go_num, rfl, HF2.out⟩
        case measure => simp [intOf]; omega
      · have hneg : ¬ cmpK xk key < 0 := by rw [decide_eq_false hcm] at hdec; exact of_decide_eq_false hdec
        generalize cmpK xk key = z at *
        go_wp2_with fail
        go_roundw
        case rel => exact ⟨i, m, hi, by omega, by omega, rfl, rfl, HF2.out⟩
        case measure => simp [intOf]; omega
    · obtain rfl : i = c := by omega
      obtain rfl : i = j := by omega
      have hge : ¬ (i : Int) < (i : Int) := by omega
      by_cases hil : i < l.length
      · have hilI : (i : Int) < (l.length : Int) := by omega
        obtain ⟨B, off, rfl⟩ : ∃ B off, a = some ⟨B, off, none⟩ := by
          rcases HH.out with ⟨_, _, _, h0, _⟩ | ⟨B, off, cap, h, _⟩
          · omega
          · cases h; exact ⟨B, off, rfl⟩
        obtain ⟨hc1, hc2⟩ := (HH.out.kept HFR.out).at hil
        have HBB : Hid (decide (cmpK l[i].1 key = 0) = b) := by
          have := HB.out
          rw [List.getElem?_eq_getElem hil] at this
          exact Lib.hid this
        generalize l[i] = x at *
        obtain ⟨xk, xv⟩ := x
        simp only at hc1 hc2 HBB
        go_wp2_with fail
        refine (find1_k xk xv key wr).mono ?_
        rintro e w2 ⟨rfl, hf2⟩
        have HF2 := Lib.hid (HFR.out.trans hf2)
        clear hf2
        generalize cmpK xk key = z at *
        go_wp2_with fail
        go_ret2
        exact ⟨by rw [← HBB.out]; go_num, HF2.out⟩
      · have hilI : ¬ (i : Int) < (l.length : Int) := by omega
        have HBB : Hid (false = b) := by
          have := HB.out
          rw [List.getElem?_eq_none (by omega)] at this
          exact Lib.hid this
        go_wp2_with fail
        go_ret2
        exact ⟨by rw [← HBB.out]; rfl, HFR.out⟩
end Go.Proofs.YtgpohemcfgepeaaGreat
