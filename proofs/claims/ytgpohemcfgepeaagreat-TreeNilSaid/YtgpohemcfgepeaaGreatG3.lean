/- a part. -/
import Derived.Test.YtgpohemcfgepeaaGreatG2
import Derived.Deep.QuietTactic
import Derived.BigQuiet
import Derived.Lib.AppendStr
namespace Go.Proofs.YtgpohemcfgepeaaGreat
open Go.RowKit Go.MapKept
def placeB (n : Int) : Bool := decide (2 ≤ n) && decide (n < 4096)
theorem place_k {b : Bool} (n : Int) (w : World) (hb : placeB n = b) :
    Calls Tryz.prog 126 #[.int .i64 n] w fun e w' => e = .returned (.bool b) ∧ w = w' := by
  have HB := Lib.hid hb
  clear hb
  by_cases h1 : 2 ≤ n
  · by_cases h2 : n < 4096
    · obtain rfl : b = true := by rw [← HB.out]; unfold placeB; rw [decide_eq_true h1, decide_eq_true h2]; rfl
      go_enter Tryz.func126, Tryz.ntmps126
      go_wp2
      go_ret
      exact ⟨rfl, rfl⟩
    · obtain rfl : b = false := by rw [← HB.out]; unfold placeB; rw [decide_eq_false h2]; simp
      go_enter Tryz.func126, Tryz.ntmps126
      go_wp2
      go_ret
      exact ⟨rfl, rfl⟩
  · obtain rfl : b = false := by rw [← HB.out]; unfold placeB; rw [decide_eq_false h1]; simp
    go_enter Tryz.func126, Tryz.ntmps126
    go_wp2
    go_ret
    exact ⟨rfl, rfl⟩
theorem enter_bad : ∀ (args : Array Value) (w : World), (callFunc 125 args).run Tryz.prog w = .ok (.enter 125 args) w := fun args w => enter_of Tryz.func125 (by kernel_rfl) (by kernel_rfl) args w
theorem bad_k (n : Int) (w : World) : Calls Tryz.prog 125 #[.int .i64 n] w fun e w' => e = .returned (.bool (!placeB n)) ∧ w = w' := by
  obtain ⟨b, hb⟩ : ∃ b, placeB n = b := ⟨_, rfl⟩
  have HB := Lib.hid hb
  clear hb
  go_enter Tryz.func125, Tryz.ntmps125
  go_wp2_with fail
  refine (place_k n _ HB.out).mono ?_
  rintro e w' ⟨rfl, rfl⟩
  go_wp2
  go_ret
  exact ⟨by rw [HB.out]; rfl, rfl⟩
def Txts (S : List Nat) (w : World) (v : Value) (l : List ByteArray) : Prop := Slc S w v l.length (l.map Value.string)
theorem Txts.kept {S : List Nat} {w w' : World} {v : Value} {l : List ByteArray} (h : Txts S w v l) (hf : Fr S w w') : Txts S w' v l := Slc.kept h hf
theorem Txts.mono {S S' : List Nat} {w : World} {v : Value} {l : List ByteArray} (h : Txts S w v l) (hs : ∀ x, x ∈ S' → x ∈ S) : Txts S' w v l := Slc.mono h hs
theorem Txts.at {S : List Nat} {w : World} {B off n cap : Nat} {l : List ByteArray} (h : Txts S w (.slice (some ⟨B, off, none⟩) n cap) l) {i : Nat} (hi : i < l.length) :
    w.cell? ⟨B, off + i, none⟩ = some (.string l[i]) := by
  rcases h with ⟨_, _, _, h0, _⟩ | ⟨B', off', cap', h, _, _, hcs⟩
  · omega
  · simp only [Value.slice.injEq, Option.some.injEq, Addr.mk.injEq] at h
    obtain ⟨⟨rfl, rfl, _⟩, _, rfl⟩ := h
    exact hcs i _ (by rw [List.getElem?_map, List.getElem?_eq_getElem hi]; rfl)
def strLe (x y : ByteArray) : Bool := Op.bytesLess x.toList y.toList || x.toList == y.toList
def keyOk (x : ByteArray) : Bool := decide (1 ≤ x.size) && decide (x.size ≤ 48)
def riseFrom (prev : Option ByteArray) : List ByteArray → Bool
  | [] => true
  | x :: l => keyOk x && (match prev with | none => true | some y => !strLe x y) && riseFrom (some x) l
def riseP (l : List ByteArray) : Bool := riseFrom none l
def prevOf (l : List ByteArray) (k : Nat) : Option ByteArray := (l.take k).getLast?
theorem prevOf_succ {l : List ByteArray} {k : Nat} (hk : k < l.length) : prevOf l (k + 1) = some l[k] := by
  unfold prevOf
  rw [List.take_succ_eq_append_getElem hk]
  generalize l.take k = t
  simp
theorem rise_split {l : List ByteArray} {k : Nat} (hk : k < l.length) :
    riseFrom (prevOf l k) (l.drop k) = (keyOk l[k] && (match prevOf l k with | none => true | some y => !strLe l[k] y) && riseFrom (prevOf l (k + 1)) (l.drop (k + 1))) := by
  rw [List.drop_eq_getElem_cons hk, prevOf_succ hk]; rfl
set_option maxHeartbeats 1000000 in
theorem rise_k {S : List Nat} {v : Value} {l : List ByteArray} {b : Bool} (w : World) (h : Txts S w v l) (hl : l.length ≤ 1048576) (hb : riseP l = b) :
    Calls Tryz.prog 128 #[v] w fun e w' => e = .returned (.bool b) ∧ w = w' := by
  obtain ⟨a, c, rfl, _⟩ := Slc.form h
  have HH := Lib.hid h
  have HB := Lib.hid hb
  clear h hb
  go_enter Tryz.func128, Tryz.ntmps128
  go_wp2_with fail
  go_loopw [7] (fun i wr => ∃ k : Nat, k ≤ l.length ∧ i = .int .i64 k ∧ w = wr ∧ Hid (riseFrom (prevOf l k) (l.drop k) = b)) (fun i _ => l.length - (intOf i).toNat)
  case atStart => exact ⟨0, Nat.zero_le _, rfl, rfl, HB⟩
  case round =>
    obtain ⟨k, hkl, rfl, rfl, HN⟩ := hrel
    by_cases hlt : k < l.length
    · have hkI : (k : Int) < (l.length : Int) := by omega
      obtain ⟨B, off, rfl⟩ : ∃ B off, a = some ⟨B, off, none⟩ := by
        rcases HH.out with ⟨_, _, _, h0, _⟩ | ⟨B, off, cap, h, _⟩
        · omega
        · cases h; exact ⟨B, off, rfl⟩
      have hc := HH.out.at hlt
      have HSP := Lib.hid (rise_split hlt)
      by_cases q1 : 1 ≤ l[k].size
      · by_cases q2 : l[k].size ≤ 48
        · have HK : Hid (keyOk l[k] = true) := Lib.hid (by unfold keyOk; rw [decide_eq_true q1, decide_eq_true q2]; rfl)
          have r1 : (1 : Int) ≤ (l[k].size : Int) := by omega
          have r2 : (l[k].size : Int) ≤ 48 := by omega
          cases k with
          | zero =>
            have HN2 : Hid (riseFrom (prevOf l (0 + 1)) (l.drop (0 + 1)) = b) := Lib.hid (by have := HN.out; rw [HSP.out, HK.out] at this; simpa [prevOf] using this)
            simp only [Nat.add_zero] at hc
            generalize l[0] = x at *
            go_wp2
            go_roundw
            case rel => exact ⟨0 + 1, by omega, by go_num, trivial, HN2⟩
            case measure => simp [intOf]; omega
          | succ j =>
            have hc2 := HH.out.at (show j < l.length by omega)
            have HP := Lib.hid (prevOf_succ (show j < l.length by omega))
            cases hq : strLe l[j + 1] l[j] with
            | true =>
              have HBF : Hid (b = false) := Lib.hid (by have := HN.out; rw [HSP.out, HP.out] at this; simp only [hq, Bool.not_true, Bool.and_false, Bool.false_and] at this; exact this.symm)
              unfold strLe at hq
              generalize l[j + 1] = x at *
              generalize l[j] = y at *
              go_wp2
              go_ret
              exact ⟨by rw [HBF.out]; rfl, rfl⟩
            | false =>
              have HN2 : Hid (riseFrom (prevOf l (j + 1 + 1)) (l.drop (j + 1 + 1)) = b) := Lib.hid (by have := HN.out; rw [HSP.out, HP.out, HK.out] at this; simp only [hq, Bool.not_false, Bool.true_and] at this; exact this)
              unfold strLe at hq
              generalize l[j + 1] = x at *
              generalize l[j] = y at *
              go_wp2
              go_roundw
              case rel => exact ⟨j + 1 + 1, by omega, by go_num, trivial, HN2⟩
              case measure => simp [intOf]; omega
        · have HBF : Hid (b = false) := Lib.hid (by have := HN.out; rw [HSP.out] at this; unfold keyOk at this; rw [decide_eq_false q2] at this; simpa using this.symm)
          have r1 : (1 : Int) ≤ (l[k].size : Int) := by omega
          have r2 : (48 : Int) < (l[k].size : Int) := by omega
          generalize l[k] = x at *
          go_wp2
          go_ret
          exact ⟨by rw [HBF.out]; rfl, rfl⟩
      · have HBF : Hid (b = false) := Lib.hid (by have := HN.out; rw [HSP.out] at this; unfold keyOk at this; rw [decide_eq_false q1] at this; simpa using this.symm)
        have r1 : (l[k].size : Int) < 1 := by omega
        generalize l[k] = x at *
        go_wp2
        go_ret
        exact ⟨by rw [HBF.out]; rfl, rfl⟩
    · have hkI : ¬ (k : Int) < (l.length : Int) := by omega
      have HBT : Hid (b = true) := Lib.hid (by have := HN.out; rw [List.drop_of_length_le (by omega)] at this; rw [← this]; rfl)
      go_wp2
      go_ret
      exact ⟨by rw [HBT.out]; rfl, rfl⟩
end Go.Proofs.YtgpohemcfgepeaaGreat

namespace Go.Proofs.YtgpohemcfgepeaaGreat
open Go.RowKit Go.MapKept
abbrev PairD := ByteArray × ByteArray
def prCells (l : List PairD) : List Value := l.flatMap fun p => [.string p.1, .string p.2]
theorem prCells_length (l : List PairD) : (prCells l).length = l.length * 2 := by
  induction l with
  | nil => rfl
  | cons x l ih => unfold prCells at *; rw [List.flatMap_cons, List.length_append, ih, List.length_cons]; simp; omega
theorem prCells_at {l : List PairD} {i : Nat} (hi : i < l.length) : (prCells l)[2 * i]? = some (.string l[i].1) ∧ (prCells l)[2 * i + 1]? = some (.string l[i].2) := by
  induction l generalizing i with
  | nil => simp at hi
  | cons x l ih =>
    have e : prCells (x :: l) = .string x.1 :: .string x.2 :: prCells l := rfl
    rw [e]
    cases i with
    | zero => exact ⟨rfl, rfl⟩
    | succ j =>
      have := ih (i := j) (by simpa using hi)
      rw [show 2 * (j + 1) = 2 * j + 1 + 1 by omega]
      simpa using this
def Prs (S : List Nat) (w : World) (v : Value) (l : List PairD) : Prop := Slc S w v l.length (prCells l)
theorem Prs.kept {S : List Nat} {w w' : World} {v : Value} {l : List PairD} (h : Prs S w v l) (hf : Fr S w w') : Prs S w' v l := Slc.kept h hf
theorem Prs.mono {S S' : List Nat} {w : World} {v : Value} {l : List PairD} (h : Prs S w v l) (hs : ∀ x, x ∈ S' → x ∈ S) : Prs S' w v l := Slc.mono h hs
theorem Prs.at {S : List Nat} {w : World} {B off n cap : Nat} {l : List PairD} (h : Prs S w (.slice (some ⟨B, off, none⟩) n cap) l) {i : Nat} (hi : i < l.length) :
    w.cell? ⟨B, off + i * 2, none⟩ = some (.string l[i].1) ∧ w.cell? ⟨B, off + i * 2 + 1, none⟩ = some (.string l[i].2) := by
  rcases h with ⟨_, _, _, h0, _⟩ | ⟨B', off', cap', h, _, _, hcs⟩
  · omega
  · simp only [Value.slice.injEq, Option.some.injEq, Addr.mk.injEq] at h
    obtain ⟨⟨rfl, rfl, _⟩, _, rfl⟩ := h
    have hc := prCells_at hi
    have e1 := hcs (2 * i) _ hc.1
    have e2 := hcs (2 * i + 1) _ hc.2
    rw [show off + 2 * i = off + i * 2 by omega] at e1
    rw [show off + (2 * i + 1) = off + i * 2 + 1 by omega] at e2
    exact ⟨e1, e2⟩
theorem Tryz.infoStr : (Tryz.prog.info? 9).map (fun i => (i.zero, i.size, i.bytes)) = some (some (.string ByteArray.empty), 1, 16) := by kernel_rfl
def leafP (l : List PairD) : Bool := l.all (fun p => decide (p.2.size ≤ 100)) && decide (1 ≤ l.length) && decide (l.length ≤ 6) && riseP (l.map (·.1))
set_option maxRecDepth 100000 in
set_option maxHeartbeats 1000000 in
theorem leaf_k {S : List Nat} {v : Value} {l : List PairD} {b : Bool} (w : World) (h : Prs S w v l) (hl : l.length ≤ 100000) (hb : leafP l = b) :
    Calls Tryz.prog 127 #[v] w fun e w' => e = .returned (.bool b) ∧ Fr [] w w' := by
  obtain ⟨a, c, rfl, _⟩ := Slc.form h
  have HH := Lib.hid (h.mono (S' := []) (by simp))
  have HB := Lib.hid hb
  have HL := Lib.hid hl
  have hlJ : (l.length : Int) ≤ 100000 := by omega
  clear h hb hl
  go_enter Tryz.func127, Tryz.ntmps127
  go_wp2_with fail
  go_loopw [3, 8] (fun x i wr => ∃ k : Nat, k ≤ l.length ∧ i = .int .i64 k ∧ wr.ownsRow w.heap.size 9 1 x k ((l.take k).map fun p => .string p.1) ∧ Fr [] w wr ∧ Hid ((l.take k).all (fun p => decide (p.2.size ≤ 100)) = true)) (fun _ i _ => l.length - (intOf i).toNat)
  case atStart => exact ⟨0, Nat.zero_le _, rfl, World.ownsRow_nil _ _ _ _, Fr.refl _ _, Lib.hid (by simp)⟩
  case round =>
    obtain ⟨k, hkl, rfl, hown, hfr, HA⟩ := hrel
    by_cases hlt : k < l.length
    · have hkI : (k : Int) < (l.length : Int) := by omega
      obtain ⟨B, off, rfl⟩ : ∃ B off, a = some ⟨B, off, none⟩ := by
        rcases HH.out with ⟨_, _, _, h0, _⟩ | ⟨B, off, cap, h, _⟩
        · omega
        · cases h; exact ⟨B, off, rfl⟩
      obtain ⟨hc1, hc2⟩ := (HH.out.kept hfr).at hlt
      have htk := List.take_succ_eq_append_getElem hlt
      by_cases q : l[k].2.size ≤ 100
      · have hq : (l[k].2.size : Int) ≤ 100 := by omega
        have HA2 : Hid ((l.take (k + 1)).all (fun p => decide (p.2.size ≤ 100)) = true) := Lib.hid (by rw [htk, List.all_append, HA.out]; simp [q])
        have hal := Fr.alloc1 wr (.cells #[.string l[k].1, .string l[k].2] 36)
        have hal2 := Fr.alloc1 (wr.alloc (.cells #[.string l[k].1, .string l[k].2] 36)) (.cells #[.string l[k].1] 9)
        have hone : Slc [] ((wr.alloc (.cells #[.string l[k].1, .string l[k].2] 36)).alloc (.cells #[.string l[k].1] 9)) (.slice (some ⟨(wr.alloc (.cells #[.string l[k].1, .string l[k].2] 36)).heap.size, 0, none⟩) 1 1) 1 [.string l[k].1] :=
          Slc.ofBlock (blk_new _ (.cells #[.string l[k].1] 9)) (by simp) 1 1 (Nat.le_refl _)
        have hz : (wr.alloc (.cells #[.string l[k].1, .string l[k].2] 36)).heap.size = wr.heap.size + 1 := by simp
        rw [hz] at hone
        obtain ⟨v', w5, hap, hrow, hf5, _⟩ := run_append_slc (P := Tryz.prog) (t := 53) (ty := 53) Tryz.underlying53 Tryz.infoStr rfl (by decide) (ownsKept (ownsKept hown hal (by simp)) hal2 (by simp)) hone (by simp) (by simp [Value.oneCell']) (by unfold maxLen; omega) (by omega) (by have := hfr.size; simp; omega)
        have hrow' : w5.ownsRow w.heap.size 9 1 v' (k + 1) ((l.take (k + 1)).map fun p => .string p.1) := by rw [htk, List.map_append]; exact hrow
        have HROW := Lib.hid (And.intro hrow' (((hfr.trans hal).trans hal2).andThen hf5 (fun y hy => .inr (by
          cases hb : u3.ownBlock with
          | none => rw [hb] at hy; cases hy
          | some g => rw [hb] at hy; simp at hy; rw [hy]; exact (hown.lt g hb).1))))
        have HAP := Lib.hid hap
        clear hown hfr htk hal hal2 hone hz hap hrow hf5 hrow' q
        generalize l[k] = x at *
        obtain ⟨x1, x2⟩ := x
        simp only at hc1 hc2 hq HAP
        go_wp2_with (at_builtin; refine wpList_append_run rfl _ _ _ rfl HAP.out ?_)
        go_roundw
        case rel => exact ⟨k + 1, by omega, by go_num, HROW.out.1, HROW.out.2, HA2⟩
        case measure => simp [intOf]; omega
      · have hq : (100 : Int) < (l[k].2.size : Int) := by omega
        have HBF : Hid (b = false) := Lib.hid (by
          rw [← HB.out]
          unfold leafP
          have : l.all (fun p => decide (p.2.size ≤ 100)) = false := by
            rw [List.all_eq_false]
            exact ⟨l[k], List.getElem_mem hlt, by simpa using q⟩
          rw [this]; rfl)
        have HFR := Lib.hid hfr
        clear hown hfr htk q
        generalize l[k] = x at *
        obtain ⟨x1, x2⟩ := x
        simp only at hc1 hc2 hq
        go_wp2
        go_ret
        exact ⟨by rw [HBF.out]; rfl, HFR.out.alloc _⟩
    · obtain rfl : k = l.length := by omega
      rw [List.take_length] at hown HA
      have HFR := Lib.hid hfr
      have HT : Hid (Txts [] wr u3 (l.map (·.1))) := Lib.hid (by
        have := Slc.ofOwns (S := []) hown (by simp)
        unfold Txts
        rw [List.length_map, List.map_map]
        exact this)
      have hown' := hown
      clear hown hfr
      by_cases q1 : 1 ≤ l.length
      · by_cases q2 : l.length ≤ 6
        · obtain ⟨b1, hb1⟩ : ∃ b1, riseP (l.map (·.1)) = b1 := ⟨_, rfl⟩
          obtain rfl : b = b1 := by rw [← HB.out, ← hb1]; unfold leafP; rw [HA.out, decide_eq_true q1, decide_eq_true q2]; rfl
          have HR := Lib.hid (rise_k _ HT.out (by simp; omega) hb1)
          have r1 : (1 : Int) ≤ (l.length : Int) := by omega
          have r2 : (l.length : Int) ≤ 6 := by omega
          clear hb1 hown' q1 q2
          go_wp2_with fail
          refine HR.out.mono ?_
          rintro e w' ⟨rfl, rfl⟩
          go_wp2
          go_ret
          exact ⟨rfl, HFR.out⟩
        · have HBF : Hid (b = false) := Lib.hid (by rw [← HB.out]; unfold leafP; rw [decide_eq_false q2]; simp)
          have r1 : (1 : Int) ≤ (l.length : Int) := by omega
          have r2 : (6 : Int) < (l.length : Int) := by omega
          clear hown' q1 q2
          go_wp2
          go_ret
          exact ⟨by rw [HBF.out]; rfl, HFR.out⟩
      · have HBF : Hid (b = false) := Lib.hid (by rw [← HB.out]; unfold leafP; rw [decide_eq_false q1]; simp)
        have r1 : (l.length : Int) < 1 := by omega
        clear hown' q1
        go_wp2
        go_ret
        exact ⟨by rw [HBF.out]; rfl, HFR.out⟩
end Go.Proofs.YtgpohemcfgepeaaGreat

namespace Go.Proofs.YtgpohemcfgepeaaGreat
open Go.RowKit Go.MapKept
theorem quietM {P : Program} {f : FuncId} {args : Array Value} {w : World} {n : Nat} {v : Value} (h : Calls P f args (w.drewN n) fun e w' => e = .returned v ∧ w.drewN n = w') :
    Calls P f args (w.drewN n) fun e w'' => e = .returned v ∧ ∃ m, w'' = w.drewN m := h.mono fun _ _ ⟨he, hm⟩ => ⟨he, n, hm.symm⟩
theorem frN (w : World) (n : Nat) : Fr [] w (w.drewN n) := ⟨rfl, rfl, rfl, Nat.le_refl _, fun _ _ _ => rfl⟩
theorem nan_k (n : Int) (w : World) : Calls Tryz.prog 193 #[.int .i64 n] w fun e w' => e = .returned (.bool false) ∧ w = w' := by
  go_enter Tryz.func193, Tryz.ntmps193
  go_wp2
  go_ret
  exact ⟨rfl, rfl⟩
theorem less_k {b : Bool} (x y : Int) (w : World) (hb : decide (x < y) = b) : Calls Tryz.prog 160 #[.int .i64 x, .int .i64 y] w fun e w' => e = .returned (.bool b) ∧ w = w' := by
  have HB := Lib.hid hb
  clear hb
  go_enter Tryz.func160, Tryz.ntmps160
  go_wp2_with fail
  refine (nan_k x _).mono ?_
  rintro e w' ⟨rfl, rfl⟩
  go_wp2
  go_ret
  exact ⟨by rw [← HB.out]; rfl, rfl⟩
def DrN (w w' : World) : Prop := ∃ m, w' = w.drewN m
theorem DrN.fr {w w' : World} (h : DrN w w') : Fr [] w w' := by obtain ⟨m, rfl⟩ := h; exact frN w m
theorem DrN.next {w w' : World} (h : DrN w w') (n : Nat) : DrN w (w'.drewN n) := by obtain ⟨m, rfl⟩ := h; exact ⟨m + n, by rw [World.drewN_drewN]⟩
theorem DrN.out {w w' : World} (h : DrN w w') : ∃ m, w' = w.drewN m := h
def sortedB : List Int → Bool
  | x :: y :: l => !decide (y < x) && sortedB (y :: l)
  | _ => true
theorem sortedB_drop {l : List Int} {j : Nat} (hj : j + 1 < l.length) : sortedB (l.drop j) = (!decide (l[j + 1] < l[j]) && sortedB (l.drop (j + 1))) := by
  rw [List.drop_eq_getElem_cons (show j < l.length by omega), List.drop_eq_getElem_cons hj]
  rfl
theorem sortedB_false {l : List Int} {j : Nat} (hj : j + 1 < l.length) (h : l[j + 1] < l[j]) : sortedB l = false := by
  induction l generalizing j with
  | nil => simp at hj
  | cons x l ih =>
    cases l with
    | nil => simp at hj
    | cons y l =>
      unfold sortedB
      cases j with
      | zero => simp only [List.getElem_cons_zero, List.getElem_cons_succ] at h; rw [decide_eq_true h]; rfl
      | succ j =>
        have := ih (j := j) (by simp at hj ⊢; omega) (by simpa using h)
        rw [this, Bool.and_false]
set_option maxRecDepth 100000 in
set_option maxHeartbeats 1000000 in
theorem sorted_i {S : List Nat} {v : Value} {l : List Int} {b : Bool} (w : World) (h : Ints S w v l) (hl : l.length ≤ 1048576) (hb : sortedB l = b) :
    Calls Tryz.prog 129 #[v] w fun e w' => e = .returned (.bool b) ∧ ∃ m, w' = w.drewN m := by
  obtain ⟨a, c, rfl, _⟩ := Slc.form h
  have HH := Lib.hid (h.mono (S' := []) (by simp))
  have HB := Lib.hid hb
  have hlJ : (l.length : Int) ≤ 1048576 := by omega
  clear h hb hl
  have HST : Hid (sortedB (l.drop ((l.length : Int) - 1).toNat) = true) := Lib.hid (by
    have hd : (l.drop ((l.length : Int) - 1).toNat).length ≤ 1 := by rw [List.length_drop]; omega
    generalize l.drop ((l.length : Int) - 1).toNat = d at hd
    match d, hd with
    | [], _ => rfl
    | [_], _ => rfl)
  have HF0 : Hid (DrN w w) := Lib.hid ⟨0, rfl⟩
  go_enter Tryz.func129, Tryz.ntmps129
  go_wp2_with fail
  go_loopw [3] (fun i wr => ∃ k : Int, -1 ≤ k ∧ k < l.length + 1 ∧ (0 ≤ k → k < l.length) ∧ i = .int .i64 k ∧ DrN w wr ∧ Hid (sortedB (l.drop k.toNat) = true)) (fun i _ => (intOf i).toNat)
  case atStart => exact ⟨(l.length : Int) - 1, by omega, by omega, fun _ => by omega, rfl, HF0.out, HST⟩
  case round =>
    obtain ⟨k, hk1, hk2, hk3, rfl, hfr, HN⟩ := hrel
    have HFR := Lib.hid hfr
    have hfr := hfr.fr
    by_cases hk : 0 < k
    · obtain ⟨j, rfl⟩ : ∃ j : Nat, k = (j : Int) + 1 := ⟨(k - 1).toNat, by omega⟩
      have hj : j + 1 < l.length := by have := hk3 (by omega); omega
      obtain ⟨B, off, rfl⟩ : ∃ B off, a = some ⟨B, off, none⟩ := by
        rcases HH.out with ⟨_, _, _, h0, _⟩ | ⟨B, off, cap, h, _⟩
        · omega
        · cases h; exact ⟨B, off, rfl⟩
      have hc1 := (HH.out.kept hfr).at hj
      have hc0 := (HH.out.kept hfr).at (show j < l.length by omega)
      have hsd := sortedB_drop hj
      have hbe : IntKind.i64.wrap ((j : Int) + 1 - 1) = (j : Int) := by rw [IntKind.wrap_i64]; omega
      have hj0 : (0 : Int) ≤ (j : Int) := by omega
      have hjl : (j : Int) + 1 < (l.length : Int) := by omega
      have hjl2 : (j : Int) < (l.length : Int) := by omega
      have hjt : ((j : Int) + 1).toNat = j + 1 := by omega
      rw [hjt] at HN
      have HJT := Lib.hid hjt
      clear hjt
      by_cases hlt : l[j + 1] < l[j]
      · have HBF : Hid (b = false) := Lib.hid (by rw [← HB.out]; exact sortedB_false hj hlt)
        have hdd := decide_eq_true hlt
        have HDD := Lib.hid hdd
        clear hsd hfr hdd
        generalize l[j + 1] = x at *
        generalize l[j] = y at *
        clear hlt
        go_wp2_with fail
        go_quiet ((go_at_call 160; exact quietM (less_k x y _ HDD.out)))
        go_wp2
        go_ret
        exact ⟨by rw [HBF.out]; rfl, (HFR.out.next _).out⟩
      · have HN2 : Hid (sortedB (l.drop (j : Int).toNat) = true) := Lib.hid (by rw [Int.toNat_natCast, hsd, HN.out, decide_eq_false hlt]; rfl)
        have hdd := decide_eq_false hlt
        have HDD := Lib.hid hdd
        clear hsd hfr hdd
        generalize l[j + 1] = x at *
        generalize l[j] = y at *
        clear hlt
        go_wp2_with fail
        go_quiet ((go_at_call 160; exact quietM (less_k x y _ HDD.out)))
        go_wp2
        go_roundw
        case rel => exact ⟨j, by omega, by omega, fun _ => by omega, by simp, HFR.out.next _, HN2⟩
        case measure => simp [intOf]
    · have HBT : Hid (b = true) := Lib.hid (by rw [← HB.out]; have := HN.out; rw [show k.toNat = 0 by omega] at this; simpa using this)
      clear hfr
      go_wp2
      go_ret
      exact ⟨by rw [HBT.out]; rfl, HFR.out.out⟩
theorem sorted_f {S : List Nat} {v : Value} {l : List Int} {b : Bool} (w : World) (h : Ints S w v l) (hl : l.length ≤ 1048576) (hb : sortedB l = b) :
    Calls Tryz.prog 129 #[v] w fun e w' => e = .returned (.bool b) ∧ Fr [] w w' :=
  (sorted_i w h hl hb).mono fun _ _ ⟨he, m, hm⟩ => ⟨he, by rw [hm]; exact frN w m⟩
end Go.Proofs.YtgpohemcfgepeaaGreat

namespace Go.Proofs.YtgpohemcfgepeaaGreat
open Go.RowKit Go.MapKept
set_option maxRecDepth 100000 in
set_option maxHeartbeats 1000000 in
theorem clone_own {S : List Nat} {v : Value} {l : List Int} (w : World) (h : Ints S w v l) (hl : l.length ≤ 1048576) :
    Calls Tryz.prog 110 #[v] w fun e w' => ∃ v', e = .returned v' ∧ w'.ownsRow w.heap.size 3 1 v' l.length (l.map intV) ∧ Fr [] w w' := by
  obtain ⟨a, c, rfl, _⟩ := Slc.form h
  have hown : (w.alloc (.cells #[] 3)).ownsRow w.heap.size 3 1 (.slice (some ⟨w.heap.size, 0, none⟩) 0 0) 0 [] :=
    ⟨rfl, .inr ⟨w.heap.size, 0, #[], rfl, Nat.le_refl _, heap_alloc_new w _, Nat.le_refl _, Nat.zero_le _, rfl, rfl⟩⟩
  obtain ⟨v1, w2, hr1, ho1, hf1, hn1⟩ := run_append_slc (P := Tryz.prog) (t := 70) (ty := 70) Tryz.underlying70 Tryz.info3i rfl (by decide) hown (Ints.kept (h.mono (S' := []) (by simp)) (Fr.alloc1 w _)) (by simp) (ints_one l) (by unfold maxLen; omega) (by omega) (by simp)
  rw [Nat.zero_add, List.nil_append] at ho1
  have hfa : Fr [] w w2 := (Fr.alloc1 w _).andThen hf1 (by simp [Value.ownBlock])
  have HLL := Lib.hid hl
  clear hl
  have HR := Lib.hid hr1
  have hni := fun w => Lib.run_eql_slice_nil (P := Tryz.prog) w 70 3 a l.length c 0 0 Tryz.underlying70
  have HN := Lib.hid (And.intro ho1 hfa)
  cases a with
  | none =>
    have hl0 : l.length = 0 ∧ c = 0 := by
      rcases h with ⟨a, c', h, h0, _, hc⟩ | ⟨B, off, cap, h, _⟩
      · simp only [Value.slice.injEq] at h; obtain ⟨rfl, _, rfl⟩ := h; exact ⟨h0, hc rfl⟩
      · simp at h
    obtain rfl : l = [] := List.eq_nil_of_length_eq_zero hl0.1
    obtain rfl : c = 0 := hl0.2
    simp only [List.length_nil, Option.isNone_none] at hni
    have HE := Lib.hid (World.ownsRow_nil w w.heap.size 3 1)
    clear h hown hr1 ho1 hf1 hn1 hfa hl0
    go_enter Tryz.func110, Tryz.ntmps110
    go_wp2
    go_ret
    exact ⟨_, rfl, HE.out, Fr.refl _ _⟩
  | some a =>
    clear h hown hr1 ho1 hf1 hn1 hfa
    go_enter Tryz.func110, Tryz.ntmps110
    go_wp2_with (at_builtin; refine wpList_append_run rfl _ _ _ rfl HR.out ?_)
    go_ret
    exact ⟨_, rfl, HN.out⟩
def NoAdj (l : List Int) : Prop := ∀ i, i + 1 < l.length → l.getD (i + 1) 0 ≠ l.getD i 0
structure RowN (wr : World) (g cap len : Nat) : Prop where
  blk : ∃ cur : Array Value, wr.heap[g]? = some (.cells cur 3 (0, 0)) ∧ cur.size = cap ∧ ∀ i, i < len → ∃ n : Int, cur[i]? = some (.int .i64 n)
theorem RowN.set {wr : World} {g cap len : Nat} (h : RowN wr g cap len) (k : Nat) (n : Int) : RowN (wr.setCell ⟨g, k, none⟩ (.int .i64 n)) g cap len := by
  obtain ⟨cur, hb, hs, hc⟩ := h.blk
  refine ⟨_, blk_set hb k _, by simpa using hs, fun i hi => ?_⟩
  obtain ⟨m, hm⟩ := hc i hi
  rw [Array.getElem?_setIfInBounds]
  have hlt := (Array.getElem?_eq_some_iff.1 hm).1
  by_cases e : k = i
  · subst e; rw [if_pos rfl, if_pos hlt]; exact ⟨n, rfl⟩
  · rw [if_neg e]; exact ⟨m, hm⟩
theorem Fr.setCells (g : Nat) : ∀ (vs : List Value) (o : Nat) (w : World), Fr [g] w (w.setCells g o vs)
  | [], _, w => Fr.refl _ w
  | v :: r, o, w => (Fr.setCell w ⟨g, o, none⟩ v).trans (Fr.setCells g r (o + 1) _)
theorem zero_int (w : World) : (zeroValue 3).run Tryz.prog w = .ok (.int .i64 0) w := by kernel_rfl
def CompactP (l : List Int) (S : List Nat) (w : World) (e : Ending) (w' : World) : Prop := ∃ (n : Nat) (a : Option Addr) (c : Nat), e = .returned (.slice a n c) ∧ (n = l.length ↔ NoAdj l) ∧ Fr S w w'
set_option maxRecDepth 100000 in
set_option maxHeartbeats 2000000 in
theorem compact_k {base : Nat} {v : Value} {l : List Int} (w : World) (h : w.ownsRow base 3 1 v l.length (l.map intV)) (hl : l.length ≤ 1048576) :
    Calls Tryz.prog 130 #[v] w (CompactP l v.ownBlock.toList w) := by
  by_cases h2 : l.length < 2
  · obtain ⟨a, c, rfl, _⟩ := Slc.form (Slc.ofOwns (S := []) h (by simp))
    have HQ : Hid (CompactP l (Value.slice a l.length c).ownBlock.toList w (.returned (.slice a l.length c)) w) := Lib.hid ⟨_, _, _, rfl, ⟨fun _ i hi => by omega, fun _ => rfl⟩, Fr.refl _ _⟩
    have hlI : (l.length : Int) < 2 := by omega
    clear h h2 hl
    go_enter Tryz.func130, Tryz.ntmps130
    go_wp2
    go_ret
    exact HQ.out
  · obtain ⟨g, cap, cur, rfl, _, hb, hcap, hcm, hcs, hct⟩ : ∃ g cap cur, v = .slice (some ⟨g, 0, none⟩) l.length cap ∧ base ≤ g ∧ w.heap[g]? = some (.cells cur 3 (0, 0)) ∧ l.length ≤ cap ∧ cap ≤ maxLen ∧ cur.size = cap * 1 ∧ cur.toList.take (l.length * 1) = l.map intV := by
      rcases h.2 with ⟨_, h0⟩ | h
      · omega
      · exact h
    rw [Nat.mul_one] at hcs hct
    have hcell : ∀ i (hi : i < l.length), w.cell? ⟨g, i, none⟩ = some (.int .i64 l[i]) := fun i hi => by
      rw [blk_cell hb]
      have h1 : (cur.toList.take l.length)[i]? = (l.map intV)[i]? := by rw [hct]
      rw [List.getElem?_take, if_pos hi, List.getElem?_map, List.getElem?_eq_getElem hi] at h1
      rw [← Array.getElem?_toList]
      exact h1
    have HCELL := Lib.hid hcell
    have HROW : Hid (RowN w g cap l.length) := Lib.hid ⟨cur, hb, hcs, fun i hi => ⟨l[i], by have := hcell i hi; rw [blk_cell hb] at this; exact this⟩⟩
    have HLT : Hid (g < w.heap.size) := Lib.hid (lt_of_heap hb)
    have HL := Lib.hid (And.intro hcap hcm)
    have hlJ : (l.length : Int) ≤ 1048576 := by omega
    have hlI : ¬ (l.length : Int) < 2 := by omega
    have HL2 : Hid (2 ≤ l.length) := Lib.hid (by omega)
    clear h h2 hl hb hcap hcm hcs hct hcell
    go_enter Tryz.func130, Tryz.ntmps130
    go_wp2_with fail
    go_loopw [3] (fun i wr => ∃ k : Nat, 1 ≤ k ∧ k ≤ l.length ∧ i = .int .i64 k ∧ Fr [] w wr ∧ Hid (∀ j, j + 1 < k → l.getD (j + 1) 0 ≠ l.getD j 0)) (fun i _ => l.length - (intOf i).toNat)
    case atStart => exact ⟨1, by omega, by have := HL2.out; omega, rfl, Fr.refl _ _, Lib.hid (fun j hj => by omega)⟩
    case round =>
      obtain ⟨k, hk1, hkl, rfl, hfr, HN⟩ := hrel
      have HFR := Lib.hid hfr
      by_cases hlt : k < l.length
      · have hkI : (k : Int) < (l.length : Int) := by omega
        have hk0 : (0 : Int) ≤ (k : Int) - 1 := by omega
        have hk1' : (1 : Int) ≤ (k : Int) := by omega
        have hc1 := hfr.cellSome (HCELL.out k hlt) (by simp)
        have hc0 := hfr.cellSome (HCELL.out (k - 1) (by omega)) (by simp)
        have hkt : ((k : Int) - 1).toNat = k - 1 := by omega
        have hkq : (k : Int) - 1 < (l.length : Int) := by omega
        have hg1 : l.getD k 0 = l[k] := by simp [List.getD, hlt]
        have hg0 : l.getD (k - 1) 0 = l[k - 1] := by rw [List.getD, List.getElem?_eq_getElem (by omega)]; rfl
        by_cases heq : l[k] = l[k - 1]
        · have HNA : Hid (¬ NoAdj l) := Lib.hid (fun h => h (k - 1) (by omega) (by rw [show k - 1 + 1 = k by omega, hg1, hg0]; exact heq))
          have hlc := HL.out.1
          have hkc : (k : Int) ≤ (cap : Int) := by omega
          have hkn : ¬ cap = k := by omega
          have HRW : Hid (RowN wr g cap l.length) := Lib.hid (by
            obtain ⟨cur, hb, h⟩ := HROW.out.blk
            exact ⟨cur, hfr.heap hb (by simp), h⟩)
          clear hg1 hg0 hfr
          rw [← heq] at hc0
          generalize l[k] = x at *
          clear heq
          go_wp2_with fail
          go_quiet (fail)
          go_wp2_with fail
          go_loopw [3, 5] (fun p q wx => ∃ K J : Nat, p = .int .i64 K ∧ q = .int .i64 J ∧ 1 ≤ J ∧ J ≤ l.length - k ∧ k ≤ K ∧ K + 1 ≤ k + J ∧ RowN wx g cap l.length ∧ Fr [g] w wx) (fun _ q _ => l.length - (intOf q).toNat)
          case atStart => exact ⟨k, 1, rfl, rfl, by omega, by omega, by omega, by omega, ⟨by
            obtain ⟨cur, hb, h⟩ := HRW.out.blk
            exact ⟨cur, (frN wr nq).heap hb (by simp), h⟩⟩, (HFR.out.trans (frN _ _)).nil⟩
          case round =>
            obtain ⟨K, J, rfl, rfl, hJ1, hJl, hKk, hKJ, hrow, hfx⟩ := hrel
            by_cases hJ : J < l.length - k
            · have hJI : (J : Int) < ((l.length - k : Nat) : Int) := by omega
              obtain ⟨cur, hb, hsz, hcc⟩ := hrow.blk
              obtain ⟨n1, hn1⟩ := hcc (k + J) (by omega)
              obtain ⟨n0, hn0⟩ := hcc (k + (J - 1)) (by omega)
              have e1 := blk_cell hb (k + J)
              rw [hn1] at e1
              have e0 := blk_cell hb (k + (J - 1))
              rw [hn0] at e0
              have f0 := blk_free hb K
              obtain ⟨nK, hnK⟩ := hcc K (by omega)
              have eK := blk_cell hb K
              rw [hnK] at eK
              have hj0 : (0 : Int) ≤ (J : Int) - 1 := by omega
              have hj1 : (1 : Int) ≤ (J : Int) := by omega
              have hj2 : (J : Int) - 1 < ((l.length - k : Nat) : Int) := by omega
              have hKI : (K : Int) < (l.length : Int) := by omega
              have HST := Lib.hid (hrow.set K n1)
              have HFX := Lib.hid hfx
              have HRX := Lib.hid hrow
              clear hb hsz hcc hn1 hn0 hnK hrow hfx
              by_cases hnn : n1 = n0
              · subst hnn
                go_wp2_with fail
                go_quiet (fail)
                go_wp2
                go_roundw
                case rel => exact ⟨K, J + 1, rfl, by go_num, by omega, by omega, by omega, by omega, ⟨by
                  obtain ⟨cur, hb, h⟩ := HRX.out.blk
                  exact ⟨cur, (frN _ nq).heap hb (by simp), h⟩⟩, HFX.out.trans (frN _ _).nil⟩
                case measure => simp [intOf]; omega
              · go_wp2_with fail
                go_quiet (fail)
                go_wp2
                go_roundw
                case rel => exact ⟨K + 1, J + 1, by go_num, by go_num, by omega, by omega, by omega, by omega, ⟨by
                  obtain ⟨cur, hb, h⟩ := HST.out.blk
                  exact ⟨cur, hb, h⟩⟩, (HFX.out.trans (Fr.setCell _ ⟨g, K, none⟩ (.int .i64 n1))).trans (frN _ _).nil⟩
                case measure => simp [intOf]; omega
            · have hJI : ¬ (J : Int) < ((l.length - k : Nat) : Int) := by omega
              obtain ⟨cur, hb, hsz, hcc⟩ := hrow.blk
              have hKc : ¬ cap = K := by omega
              have hKI : (K : Int) ≤ (l.length : Int) := by omega
              have hKI2 : (K : Int) ≤ (cap : Int) := by omega
              have hcl := Lib.run_clear_slice (P := Tryz.prog) _ 70 3 0 (.int .i64 0) Tryz.underlying70 zero_int rfl rfl g K (l.length - K) (cap - K) (by omega)
                (fun j hj => by obtain ⟨n, hn⟩ := hcc (K + j) (by omega); rw [blk_cell hb, hn]; rfl) (fun j hj => blk_free hb (K + j))
              have HCL := Lib.hid hcl
              have HQ : Hid (CompactP l [g] w (.returned (.slice (some ⟨g, 0, none⟩) K cap)) _) := Lib.hid ⟨_, _, _, rfl, ⟨fun h => by omega, fun h => absurd h HNA.out⟩, hfx.trans (Fr.setCells g (List.replicate (l.length - K) (.int .i64 0)) K _)⟩
              clear hb hsz hcc hrow hfx hcl
              have hcl := HCL.out
              go_wp2
              go_ret
              exact HQ.out
        · have HN2 : Hid (∀ j, j + 1 < k + 1 → l.getD (j + 1) 0 ≠ l.getD j 0) := Lib.hid (fun j hj => by
            by_cases e : j + 1 = k
            · obtain rfl : j = k - 1 := by omega
              rw [e, hg1, hg0]; exact heq
            · exact HN.out j (by omega))
          clear hg1 hg0 hfr
          generalize l[k] = x at *
          generalize l[k - 1] = y at *
          go_wp2_with fail
          go_quiet (fail)
          go_wp2
          go_roundw
          case rel => exact ⟨k + 1, by omega, by omega, by go_num, HFR.out.trans (frN _ _), HN2⟩
          case measure => simp [intOf]; omega
      · have HQ : Hid (CompactP l [g] w (.returned (.slice (some ⟨g, 0, none⟩) l.length cap)) wr) := Lib.hid ⟨_, _, _, rfl, ⟨fun _ i hi => HN.out i (by omega), fun _ => rfl⟩, hfr.nil⟩
        clear hfr
        go_wp2
        go_ret
        exact HQ.out
end Go.Proofs.YtgpohemcfgepeaaGreat

namespace Go.Proofs.YtgpohemcfgepeaaGreat
open Go.RowKit Go.MapKept
def u8I (x : Int) : UInt8 := UInt8.ofNat (x % 256).toNat
theorem byteV_u8I (x : Int) : byteV (u8I x) = .int .u8 (x % 256) := by
  unfold byteV u8I
  have h : (x % 256).toNat < 256 := by omega
  rw [UInt8.toNat_ofNat_of_lt' h]
  congr 1
  omega
def twoL (l : List Int) : List UInt8 := l.flatMap fun x => [u8I (x / 256), u8I x]
theorem twoL_length (l : List Int) : (twoL l).length = l.length * 2 := by
  induction l with
  | nil => rfl
  | cons x l ih => unfold twoL at *; rw [List.flatMap_cons, List.length_append, ih, List.length_cons]; simp; omega
theorem twoL_snoc {l : List Int} {k : Nat} (hk : k < l.length) : twoL (l.take (k + 1)) = twoL (l.take k) ++ [u8I (l[k] / 256), u8I l[k]] := by
  unfold twoL
  rw [List.take_succ_eq_append_getElem hk, List.flatMap_append]; simp
def OwnB (w w' : World) (v : Value) (l : List UInt8) : Prop := w'.ownsRow w.heap.size 5 1 v l.length (l.map byteV)
theorem OwnB.bytes {w w' : World} {v : Value} {l : List UInt8} (h : OwnB w w' v l) (S : List Nat) (hS : ∀ x, x ∈ S → x < w.heap.size) : Bytes S w' v l := Slc.ofOwns (S := S) h hS
theorem OwnB.form {w w' : World} {v : Value} {l : List UInt8} (h : OwnB w w' v l) : ∃ a c, v = .slice a l.length c ∧ l.length ≤ c := Slc.form (h.bytes [] (by simp))
theorem OwnB.less {w0 w w' : World} {v : Value} {l : List UInt8} (h : OwnB w w' v l) (hs : w0.heap.size ≤ w.heap.size) : OwnB w0 w' v l := ownsBase h hs
theorem OwnB.append {w w1 : World} {v vx : Value} {l m : List UInt8} {S : List Nat} (h : OwnB w w1 v l) (hx : Bytes S w1 vx m) (hl : l.length + m.length ≤ 10000000) (hs : w.heap.size ≤ w1.heap.size) (ty : TypeId) :
    ∃ v' w', (Builtin.append_ #[117, 117] ty #[v, vx]).run Tryz.prog w1 = .ok v' w' ∧ OwnB w w' v' (l ++ m) ∧ Fr v.ownBlock.toList w1 w' := by
  obtain ⟨v', w', hr, ho, hf, _⟩ := run_append_slc (P := Tryz.prog) (t := 117) (ty := ty) Tryz.underlying117 Tryz.info5 rfl (by decide) h hx (by simp) (bytes_one m) (by unfold maxLen; omega) (by omega) hs
  refine ⟨v', w', hr, ?_, hf⟩
  unfold OwnB
  rw [List.length_append, List.map_append]
  exact ho
theorem OwnB.after {w w1 w' : World} {v : Value} {l : List UInt8} (h : OwnB w w1 v l) (hf0 : Fr [] w w1) (hf : Fr v.ownBlock.toList w1 w') : Fr [] w w' :=
  hf0.andThen hf (fun y hy => .inr (by
    cases hb : v.ownBlock with
    | none => rw [hb] at hy; cases hy
    | some g => rw [hb] at hy; simp at hy; rw [hy]; exact (h.lt g hb).1))
set_option maxRecDepth 100000 in
set_option maxHeartbeats 1000000 in
theorem two_k {S : List Nat} {v : Value} {l : List Int} (w : World) (h : Ints S w v l) (hl : l.length ≤ 100000) :
    Calls Tryz.prog 177 #[v] w fun e w' => ∃ v', e = .returned v' ∧ OwnB w w' v' (twoL l) ∧ Fr [] w w' := by
  obtain ⟨a, c, rfl, _⟩ := Slc.form h
  have HH := Lib.hid (h.mono (S' := []) (by simp))
  have HL := Lib.hid hl
  have hlJ : (l.length : Int) ≤ 100000 := by omega
  clear h hl
  go_enter Tryz.func177, Tryz.ntmps177
  go_wp2_with fail
  go_loopw [2, 7] (fun x i wr => ∃ k : Nat, k ≤ l.length ∧ i = .int .i64 k ∧ OwnB w wr x (twoL (l.take k)) ∧ Fr [] w wr) (fun _ i _ => l.length - (intOf i).toNat)
  case atStart => exact ⟨0, Nat.zero_le _, rfl, World.ownsRow_nil _ _ _ _, Fr.refl _ _⟩
  case round =>
    obtain ⟨k, hkl, rfl, hown, hfr⟩ := hrel
    by_cases hlt : k < l.length
    · have hkI : (k : Int) < (l.length : Int) := by omega
      obtain ⟨B, off, rfl⟩ : ∃ B off, a = some ⟨B, off, none⟩ := by
        rcases HH.out with ⟨_, _, _, h0, _⟩ | ⟨B, off, cap, h, _⟩
        · omega
        · cases h; exact ⟨B, off, rfl⟩
      have hc := (HH.out.kept hfr).at hlt
      have hsn := twoL_snoc hlt
      have hln : (twoL (l.take k)).length ≤ 200000 := by rw [twoL_length, List.length_take]; have := HL.out; omega
      generalize l[k] = x at *
      have hal := Fr.alloc1 wr (.cells #[.int .u8 (x / 256 % 256), .int .u8 (x % 256)] 5)
      have hone : Bytes [] (wr.alloc (.cells #[.int .u8 (x / 256 % 256), .int .u8 (x % 256)] 5)) (.slice (some ⟨wr.heap.size, 0, none⟩) 2 2) [u8I (x / 256), u8I x] := by
        have := Slc.ofBlock (S := []) (blk_new wr (.cells #[.int .u8 (x / 256 % 256), .int .u8 (x % 256)] 5)) (by simp) 2 2 (Nat.le_refl _)
        unfold Bytes
        simp only [List.map_cons, List.map_nil, byteV_u8I, List.length_cons, List.length_nil]
        exact this
      have hown2 : OwnB w (wr.alloc (.cells #[.int .u8 (x / 256 % 256), .int .u8 (x % 256)] 5)) u2 (twoL (l.take k)) := ownsKept hown hal (by simp)
      obtain ⟨v', w5, hap, hrow, hf5⟩ := hown2.append hone (by simp; omega) (by have := hfr.size; simp; omega) 117
      rw [← hsn] at hrow
      have HNX := Lib.hid (And.intro hrow (hown2.after (hfr.trans hal) hf5))
      have HAP := Lib.hid hap
      clear hown hown2 hfr hal hone hap hrow hf5 hsn hln
      go_wp2_with (at_builtin; refine wpList_append_run rfl _ _ _ rfl HAP.out ?_)
      go_roundw
      case rel => exact ⟨k + 1, by omega, by go_num, HNX.out⟩
      case measure => simp [intOf]; omega
    · obtain rfl : k = l.length := by omega
      rw [List.take_length] at hown
      have HE := Lib.hid (And.intro hown hfr)
      clear hown hfr
      go_wp2
      go_ret
      exact ⟨_, rfl, HE.out⟩
end Go.Proofs.YtgpohemcfgepeaaGreat

namespace Go.Proofs.YtgpohemcfgepeaaGreat
open Go.RowKit Go.MapKept
theorem ints_pair (w : World) (x y : Int) : Ints [] (w.alloc (.cells #[.int .i64 x, .int .i64 y] 3)) (.slice (some ⟨w.heap.size, 0, none⟩) 2 2) [x, y] :=
  Slc.ofBlock (blk_new w (.cells #[.int .i64 x, .int .i64 y] 3)) (by simp) 2 2 (Nat.le_refl _)
def eightL (n : Int) : List UInt8 := twoL [n / 281474976710656, n / 4294967296] ++ twoL [n / 65536, wrap64 n]
theorem eightL_length (n : Int) : (eightL n).length = 8 := by unfold eightL; rw [List.length_append, twoL_length, twoL_length]; rfl
def MadeB (w : World) (l : List UInt8) (e : Ending) (w' : World) : Prop := ∃ v, e = .returned v ∧ OwnB w w' v l ∧ Fr [] w w'
set_option maxRecDepth 100000 in
set_option maxHeartbeats 1000000 in
theorem eight_k (n : Int) (w : World) (h0 : 0 ≤ n) (h1 : n < 18446744073709551616) :
    Calls Tryz.prog 179 #[.int .u64 n] w (MadeB w (eightL n)) := by
  have HP1 := Lib.hid (two_k _ (ints_pair w (n / 281474976710656) (n / 4294967296)) (by simp))
  have HA1 := Lib.hid (Fr.alloc1 w (.cells #[.int .i64 (n / 281474976710656), .int .i64 (n / 4294967296)] 3))
  go_enter Tryz.func179, Tryz.ntmps179
  go_wp2_with fail
  refine HP1.out.mono ?_
  rintro e w1 ⟨v1, rfl, ho1, hf1⟩
  have hal := Fr.alloc1 w1 (.cells #[.int .i64 (n / 65536), .int .i64 (wrap64 n)] 3)
  have HP2 := Lib.hid (two_k _ (ints_pair w1 (n / 65536) (wrap64 n)) (by simp))
  have HO1 : Hid (OwnB w (w1.alloc (.cells #[.int .i64 (n / 65536), .int .i64 (wrap64 n)] 3)) v1 (twoL [n / 281474976710656, n / 4294967296])) := Lib.hid (OwnB.less (ownsKept ho1 hal (by simp)) HA1.out.size)
  have HF1 := Lib.hid ((HA1.out.trans hf1).trans hal)
  clear ho1 hf1 hal HP1
  go_wp2_with fail
  refine HP2.out.mono ?_
  rintro e w2 ⟨v2, rfl, ho2, hf2⟩
  have hO2 : OwnB w w2 v1 (twoL [n / 281474976710656, n / 4294967296]) := ownsKept HO1.out hf2 (by simp)
  have hF2 := HF1.out.trans hf2
  obtain ⟨v3, w3, hap, ho3, hf3⟩ := hO2.append (ho2.bytes [] (by simp)) (by rw [twoL_length, twoL_length]; simp) hF2.size 117
  have HAP := Lib.hid hap
  have HQ : Hid (MadeB w (eightL n) (.returned v3) w3) := Lib.hid ⟨v3, rfl, ho3, hO2.after hF2 hf3⟩
  clear ho2 hf2 hO2 hF2 hap ho3 hf3 HP2
  go_wp2_with (at_builtin; refine wpList_append_run rfl _ _ _ rfl HAP.out ?_)
  go_ret
  exact HQ.out
end Go.Proofs.YtgpohemcfgepeaaGreat

namespace Go.Proofs.YtgpohemcfgepeaaGreat
open Go.RowKit Go.MapKept
def strL (s : ByteArray) : List UInt8 := s.data.toList
theorem strL_length (s : ByteArray) : (strL s).length = s.size := by unfold strL; rw [Array.length_toList]; rfl
theorem OwnB.appendStr {w w1 : World} {v : Value} {l : List UInt8} {s : ByteArray} (h : OwnB w w1 v l) (hl : l.length + s.size ≤ 10000000) (hs : w.heap.size ≤ w1.heap.size) (ty : TypeId) :
    ∃ v' w', (Builtin.append_ #[117, 9] ty #[v, .string s]).run Tryz.prog w1 = .ok v' w' ∧ OwnB w w' v' (l ++ strL s) ∧ Fr v.ownBlock.toList w1 w' := by
  obtain ⟨i, hi0, hz, hs1, hb⟩ := info_parts Tryz.info5
  obtain ⟨v', w', hr, ho, hg, _⟩ := Lib.run_append_own_string (P := Tryz.prog) w1 w.heap.size 117 9 ty 5 i Tryz.underlying117 Tryz.underlying9 hi0 hz hs1 hb v l.length (l.map byteV) h s (by unfold maxLen; omega) (by omega) hs
  refine ⟨v', w', hr, ?_, Fr.grown hg⟩
  unfold OwnB
  rw [List.length_append, List.map_append, strL_length]
  exact ho
def textL (s : ByteArray) : List UInt8 := [u8I s.size] ++ strL s
theorem textL_length (s : ByteArray) : (textL s).length = s.size + 1 := by unfold textL; rw [List.length_append, strL_length]; simp; omega
def KeepT (w w' : World) : Prop := ∀ (n : Nat) (cs : Array Value) (T : TypeId), T ≠ 5 → w.heap[n]? = some (.cells cs T (0, 0)) → w'.heap[n]? = some (.cells cs T (0, 0))
theorem KeepT.trans {a b c : World} (h : KeepT a b) (k : KeepT b c) : KeepT a c := fun n cs T ht hb => k n cs T ht (h n cs T ht hb)
theorem Fr.keepT {w w' : World} (h : Fr [] w w') : KeepT w w' := fun _ _ _ _ hb => h.heap hb (by simp)
theorem OwnB.keepT {w0 w w' : World} {v : Value} {l : List UInt8} (h : OwnB w0 w v l) (hf : Fr v.ownBlock.toList w w') : KeepT w w' := by
  intro n cs T ht hb
  refine hf.heap hb ?_
  rcases h.2 with ⟨rfl, _⟩ | ⟨g, cap, cur, rfl, _, hg, _⟩
  · simp [Value.ownBlock]
  · simp only [Value.ownBlock, Option.toList_some, List.mem_singleton]
    rintro rfl
    rw [hg] at hb
    cases hb
    exact ht rfl
set_option maxRecDepth 100000 in
set_option maxHeartbeats 1000000 in
theorem text_t {w0 : World} {v : Value} {l : List UInt8} (s : ByteArray) (w : World) (h : OwnB w0 w v l) (hf : Fr [] w0 w) (hl : l.length + s.size ≤ 1000000) :
    Calls Tryz.prog 198 #[v, .string s] w (fun e w' => MadeB w0 (l ++ textL s) e w' ∧ KeepT w w') := by
  have hal := Fr.alloc1 w (.cells #[.int .u8 ((s.size : Int) % 256)] 5)
  have hone : Bytes [] (w.alloc (.cells #[.int .u8 ((s.size : Int) % 256)] 5)) (.slice (some ⟨w.heap.size, 0, none⟩) 1 1) [u8I s.size] := by
    have := Slc.ofBlock (S := []) (blk_new w (.cells #[.int .u8 ((s.size : Int) % 256)] 5)) (by simp) 1 1 (Nat.le_refl _)
    unfold Bytes
    simp only [List.map_cons, List.map_nil, byteV_u8I, List.length_cons, List.length_nil]
    exact this
  have hown2 : OwnB w0 (w.alloc (.cells #[.int .u8 ((s.size : Int) % 256)] 5)) v l := ownsKept h hal (by simp)
  have hf2 := hf.trans hal
  obtain ⟨v1, w1, hr1, ho1, hg1⟩ := hown2.append hone (by simp; omega) hf2.size 117
  have hf3 := hown2.after hf2 hg1
  obtain ⟨v2, w2, hr2, ho2, hg2⟩ := ho1.appendStr (s := s) (by simp; omega) hf3.size 117
  have HR1 := Lib.hid hr1
  have HR2 := Lib.hid hr2
  have HQ : Hid (MadeB w0 (l ++ textL s) (.returned v2) w2 ∧ KeepT w w2) := Lib.hid ⟨⟨v2, rfl, by unfold textL; rw [← List.append_assoc]; exact ho2, ho1.after hf3 hg2⟩, (Fr.keepT hal).trans ((hown2.keepT hg1).trans (ho1.keepT hg2))⟩
  obtain ⟨a, c, rfl, _⟩ := h.form
  have hsz : (s.size : Int) ≤ 1000000 := by omega
  clear h hf hal hone hown2 hf2 hr1 ho1 hg1 hf3 hr2 ho2 hg2 hl
  go_enter Tryz.func198, Tryz.ntmps198
  go_wp2_with (first
    | (at_builtin; refine wpList_append_run rfl _ _ _ rfl HR1.out ?_)
    | (at_builtin; refine wpList_append_run2 rfl _ _ _ _ rfl HR2.out ?_))
  go_ret
  exact HQ.out
end Go.Proofs.YtgpohemcfgepeaaGreat
