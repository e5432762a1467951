/- The document's helpers on lists of numbers and pools: in, Known, Ints, Same. -/
import Derived.Test.YtgpeoonpoogniaaG2
import Derived.Deep.QuietTactic
import Derived.BigQuiet
import Derived.Test.YtgpeoonpoogniaaG3
import Derived.Test.YtgpeoonpoogniaaG4
namespace Go.Proofs.Ytgpeoonpoogniaa
open Go.RowKit Go.MapKept

set_option maxHeartbeats 1000000 in
theorem in_k {S : List Nat} {v : Value} {l : List Int} {b : Bool} (n : Int) (w : World) (h : Ints S w v l) (hl : l.length ≤ 1048576) (hb : decide (n ∈ l) = b) :
    Calls Try.prog 37 #[v, .int .i64 n] w fun e w' => e = .returned (.bool b) ∧ w = w' := by
  obtain ⟨a, c, rfl, _⟩ := Slc.form h
  have HH := Lib.hid h
  have HB := Lib.hid hb
  clear h hb
  go_enter Try.func37, Try.ntmps37
  go_wp2_with fail
  go_loopw [5] (fun i wr => ∃ k : Nat, k ≤ l.length ∧ i = .int .i64 k ∧ w = wr ∧ Hid (decide (n ∈ l.drop k) = b)) (fun i _ => l.length - (intOf i).toNat)
  case atStart => exact ⟨0, Nat.zero_le _, rfl, rfl, HB⟩
  case round =>
    obtain ⟨k, hkl, rfl, rfl, HN⟩ := hrel
    by_cases hlt : k < l.length
    · have hkI : (k : Int) < (l.length : Int) := by omega
      obtain ⟨B, off, rfl⟩ : ∃ B off, a = some ⟨B, off, none⟩ := by
        rcases HH.out with ⟨_, _, _, h0, _⟩ | ⟨B, off, cap, h, _⟩
        · omega
        · cases h; exact ⟨B, off, rfl⟩
      have hc := HH.out.at hlt
      have HS := Lib.hid (List.drop_eq_getElem_cons hlt)
      by_cases h1 : l[k] = n
      · have HBT : Hid (b = true) := Lib.hid (by have := HN.out; rw [HS.out, h1] at this; simpa using this.symm)
        generalize l[k] = x at *
        subst h1
        go_wp2
        go_ret
        exact ⟨by rw [HBT.out]; rfl, rfl⟩
      · have HN2 : Hid (decide (n ∈ l.drop (k + 1)) = b) := Lib.hid (by
          have h2 := HN.out
          rw [HS.out] at h2
          rw [← h2]
          have h3 : ¬ n = l[k] := fun e => h1 e.symm
          rw [decide_eq_decide, List.mem_cons]
          exact ⟨.inr, fun h => h.resolve_left h3⟩)
        generalize l[k] = x at *
        go_wp2
        go_roundw
        case rel => exact ⟨k + 1, by omega, by go_num, trivial, HN2⟩
        case measure => simp [intOf]; omega
    · have hkI : ¬ (k : Int) < (l.length : Int) := by omega
      have HBF : Hid (b = false) := Lib.hid (by have := HN.out; rw [List.drop_of_length_le (by omega)] at this; simpa using this.symm)
      go_wp2
      go_ret
      exact ⟨by rw [HBF.out]; rfl, rfl⟩

set_option maxRecDepth 100000 in
set_option maxHeartbeats 1000000 in
theorem known_k {S : List Nat} {v : Value} {p : PoolD} {b : Bool} (n : Int) (w : World) (h : PoolAt S w v p) (hs : p.small) (hb : (decide (n ∈ p.free) || decide (n ∈ p.limbo)) = b) :
    Calls Try.prog 17 #[v, .int .i64 n] w fun e w' => e = .returned (.bool b) ∧ Fr [] w w' := by
  obtain ⟨fv, lv, rfl, h1, h2⟩ := h.mono (S' := []) (by simp)
  obtain ⟨fa, fc, rfl, _⟩ := Slc.form h1
  obtain ⟨la, lc, rfl, _⟩ := Slc.form h2
  obtain ⟨W1, hW1⟩ : ∃ W1, w.alloc (.cells #[.int .i64 p.high, .slice fa p.free.length fc, .slice la p.limbo.length lc] 34) = W1 := ⟨_, rfl⟩
  have hal : Fr [] w W1 := by rw [← hW1]; exact Fr.alloc1 _ _
  have hbk := blk_new w (.cells #[.int .i64 p.high, .slice fa p.free.length fc, .slice la p.limbo.length lc] 34)
  rw [hW1] at hbk
  have c1 : W1.cell? ⟨w.heap.size, 1, none⟩ = some (.slice fa p.free.length fc) := by rw [blk_cell hbk 1]; rfl
  have c2 : W1.cell? ⟨w.heap.size, 2, none⟩ = some (.slice la p.limbo.length lc) := by rw [blk_cell hbk 2]; rfl
  obtain ⟨b1, hb1⟩ : ∃ b1, decide (n ∈ p.free) = b1 := ⟨_, rfl⟩
  obtain ⟨b2, hb2⟩ : ∃ b2, decide (n ∈ p.limbo) = b2 := ⟨_, rfl⟩
  have H1 := Lib.hid (in_k (S := []) n W1 (h1.kept hal) (by have := hs.1; omega) hb1)
  have H2 := Lib.hid (in_k (S := []) n W1 (h2.kept hal) (by have := hs.2; omega) hb2)
  have HAL := Lib.hid hal
  rw [hb1, hb2] at hb
  have HB := Lib.hid hb
  clear h h1 h2 hal hbk hb1 hb2 hb hs
  go_enter Try.func17, Try.ntmps17
  go_wp2_with fail
  refine H1.out.mono ?_
  rintro e w' ⟨rfl, rfl⟩
  go_wp2_with fail
  refine H2.out.mono ?_
  rintro e w' ⟨rfl, rfl⟩
  cases b1
  · go_wp2_with fail
    go_ret
    exact ⟨by rw [← HB.out]; rfl, HAL.out⟩
  · go_wp2_with fail
    go_ret
    exact ⟨by rw [← HB.out]; rfl, HAL.out⟩
/-- Two lists, compared as the document does. -/
def eqInts (a b : List Int) : Bool := decide (a = b)
theorem eq_drop {a b : List Int} (hl : a.length = b.length) {k : Nat} (hk : k < a.length) : (a.drop k = b.drop k) ↔ (a[k] = b[k]'(by omega) ∧ a.drop (k + 1) = b.drop (k + 1)) := by
  rw [List.drop_eq_getElem_cons hk, List.drop_eq_getElem_cons (show k < b.length by omega)]
  simp only [List.cons.injEq]
set_option maxRecDepth 100000 in
set_option maxHeartbeats 1000000 in
theorem ints6_k {S S' : List Nat} {v v' : Value} {l l' : List Int} {b : Bool} (w : World) (h : Ints S w v l) (h' : Ints S' w v' l') (hl : l.length ≤ 1048576) (_ : l'.length ≤ 1048576) (hb : eqInts l l' = b) :
    Calls Try.prog 31 #[v, v'] w fun e w' => e = .returned (.bool b) ∧ ∃ m, w' = w.drewN m := by
  obtain ⟨a, c, rfl, _⟩ := Slc.form h
  obtain ⟨a', c', rfl, _⟩ := Slc.form h'
  have HH := Lib.hid (h.mono (S' := []) (by simp))
  have HH' := Lib.hid (h'.mono (S' := []) (by simp))
  have HB := Lib.hid hb
  clear h h' hb
  by_cases hll : l.length = l'.length
  · have hlI : (l.length : Int) = (l'.length : Int) := by omega
    have HLL := Lib.hid hll
    have bn : decide ((l.length : Int) = (l'.length : Int)) = true := decide_eq_true hlI
    go_enter Try.func31, Try.ntmps31
    go_wp2_with fail
    go_loopw [5] (fun i wr => ∃ k : Nat, k ≤ l.length ∧ i = .int .i64 k ∧ (∃ m, wr = w.drewN m) ∧ Hid (decide (l.drop k = l'.drop k) = b)) (fun i _ => l.length - (intOf i).toNat)
    case atStart => exact ⟨0, Nat.zero_le _, rfl, ⟨0, rfl⟩, HB⟩
    case round =>
      obtain ⟨k, hkl, rfl, ⟨m, rfl⟩, HN⟩ := hrel
      by_cases hlt : k < l.length
      · have hkI : (k : Int) < (l.length : Int) := by omega
        have hkI' : (k : Int) < (l'.length : Int) := by omega
        obtain ⟨B, off, rfl⟩ : ∃ B off, a = some ⟨B, off, none⟩ := by
          rcases HH.out with ⟨_, _, _, h0, _⟩ | ⟨B, off, cap, h, _⟩
          · omega
          · cases h; exact ⟨B, off, rfl⟩
        obtain ⟨B', off', rfl⟩ : ∃ B off, a' = some ⟨B, off, none⟩ := by
          rcases HH'.out with ⟨_, _, _, h0, _⟩ | ⟨B, off, cap, h, _⟩
          · have := HLL.out; omega
          · cases h; exact ⟨B, off, rfl⟩
        have hc1 := HH.out.at hlt
        have hc2 := HH'.out.at (show k < l'.length by omega)
        have HE := Lib.hid (eq_drop HLL.out hlt)
        by_cases h1 : l[k] = l'[k]'(by omega)
        · have HN2 : Hid (decide (l.drop (k + 1) = l'.drop (k + 1)) = b) := Lib.hid (by
            rw [← HN.out, decide_eq_decide, HE.out]
            exact ⟨fun h => ⟨h1, h⟩, fun h => h.2⟩)
          clear HE
          generalize l[k] = x at *
          generalize l'[k]'(by omega) = y at *
          subst h1
          go_wp2_with fail
          go_quiet (fail)
          go_wp2
          go_roundw
          case rel => exact ⟨k + 1, by omega, by go_num, ⟨_, rfl⟩, HN2⟩
          case measure => simp [intOf]; omega
        · have HBF : Hid (b = false) := Lib.hid (by
            rw [← HN.out, decide_eq_false]
            rw [HE.out]
            exact fun h => h1 h.1)
          clear HE
          generalize l[k] = x at *
          generalize l'[k]'(by omega) = y at *
          go_wp2_with fail
          go_quiet (fail)
          go_wp2
          go_ret
          exact ⟨by rw [HBF.out]; rfl, DrN.next ⟨m, rfl⟩ _⟩
      · have hkI : ¬ (k : Int) < (l.length : Int) := by omega
        have HBT : Hid (b = true) := Lib.hid (by have := HN.out; rw [List.drop_of_length_le (by omega), List.drop_of_length_le (by have := HLL.out; omega)] at this; simpa using this.symm)
        go_wp2
        go_ret
        exact ⟨by rw [HBT.out]; rfl, m, rfl⟩
  · have HBF : Hid (b = false) := Lib.hid (by rw [← HB.out]; unfold eqInts; rw [decide_eq_false]; intro e; exact hll (by rw [e]))
    have hlI : ¬ (l.length : Int) = (l'.length : Int) := by omega
    go_enter Try.func31, Try.ntmps31
    go_wp2_with fail
    go_ret
    exact ⟨by rw [HBF.out]; rfl, 0, rfl⟩
set_option maxRecDepth 100000 in
set_option maxHeartbeats 1000000 in
theorem ints5_k {S S' : List Nat} {v v' : Value} {l l' : List Int} {b : Bool} (w : World) (h : Ints S w v l) (h' : Ints S' w v' l') (hl : l.length ≤ 1048576) (_ : l'.length ≤ 1048576) (hb : eqInts l l' = b) :
    Calls Try.prog 50 #[v, v'] w fun e w' => e = .returned (.bool b) ∧ ∃ m, w' = w.drewN m := by
  obtain ⟨a, c, rfl, _⟩ := Slc.form h
  obtain ⟨a', c', rfl, _⟩ := Slc.form h'
  have HH := Lib.hid (h.mono (S' := []) (by simp))
  have HH' := Lib.hid (h'.mono (S' := []) (by simp))
  have HB := Lib.hid hb
  clear h h' hb
  by_cases hll : l.length = l'.length
  · have hlI : (l.length : Int) = (l'.length : Int) := by omega
    have HLL := Lib.hid hll
    have bn : decide ((l.length : Int) = (l'.length : Int)) = true := decide_eq_true hlI
    go_enter Try.func50, Try.ntmps50
    go_wp2_with fail
    go_loopw [5] (fun i wr => ∃ k : Nat, k ≤ l.length ∧ i = .int .i64 k ∧ (∃ m, wr = w.drewN m) ∧ Hid (decide (l.drop k = l'.drop k) = b)) (fun i _ => l.length - (intOf i).toNat)
    case atStart => exact ⟨0, Nat.zero_le _, rfl, ⟨0, rfl⟩, HB⟩
    case round =>
      obtain ⟨k, hkl, rfl, ⟨m, rfl⟩, HN⟩ := hrel
      by_cases hlt : k < l.length
      · have hkI : (k : Int) < (l.length : Int) := by omega
        have hkI' : (k : Int) < (l'.length : Int) := by omega
        obtain ⟨B, off, rfl⟩ : ∃ B off, a = some ⟨B, off, none⟩ := by
          rcases HH.out with ⟨_, _, _, h0, _⟩ | ⟨B, off, cap, h, _⟩
          · omega
          · cases h; exact ⟨B, off, rfl⟩
        obtain ⟨B', off', rfl⟩ : ∃ B off, a' = some ⟨B, off, none⟩ := by
          rcases HH'.out with ⟨_, _, _, h0, _⟩ | ⟨B, off, cap, h, _⟩
          · have := HLL.out; omega
          · cases h; exact ⟨B, off, rfl⟩
        have hc1 := HH.out.at hlt
        have hc2 := HH'.out.at (show k < l'.length by omega)
        have HE := Lib.hid (eq_drop HLL.out hlt)
        by_cases h1 : l[k] = l'[k]'(by omega)
        · have HN2 : Hid (decide (l.drop (k + 1) = l'.drop (k + 1)) = b) := Lib.hid (by
            rw [← HN.out, decide_eq_decide, HE.out]
            exact ⟨fun h => ⟨h1, h⟩, fun h => h.2⟩)
          clear HE
          generalize l[k] = x at *
          generalize l'[k]'(by omega) = y at *
          subst h1
          go_wp2_with fail
          go_quiet (fail)
          go_wp2
          go_roundw
          case rel => exact ⟨k + 1, by omega, by go_num, ⟨_, rfl⟩, HN2⟩
          case measure => simp [intOf]; omega
        · have HBF : Hid (b = false) := Lib.hid (by
            rw [← HN.out, decide_eq_false]
            rw [HE.out]
            exact fun h => h1 h.1)
          clear HE
          generalize l[k] = x at *
          generalize l'[k]'(by omega) = y at *
          go_wp2_with fail
          go_quiet (fail)
          go_wp2
          go_ret
          exact ⟨by rw [HBF.out]; rfl, DrN.next ⟨m, rfl⟩ _⟩
      · have hkI : ¬ (k : Int) < (l.length : Int) := by omega
        have HBT : Hid (b = true) := Lib.hid (by have := HN.out; rw [List.drop_of_length_le (by omega), List.drop_of_length_le (by have := HLL.out; omega)] at this; simpa using this.symm)
        go_wp2
        go_ret
        exact ⟨by rw [HBT.out]; rfl, m, rfl⟩
  · have HBF : Hid (b = false) := Lib.hid (by rw [← HB.out]; unfold eqInts; rw [decide_eq_false]; intro e; exact hll (by rw [e]))
    have hlI : ¬ (l.length : Int) = (l'.length : Int) := by omega
    go_enter Try.func50, Try.ntmps50
    go_wp2_with fail
    go_ret
    exact ⟨by rw [HBF.out]; rfl, 0, rfl⟩

set_option maxRecDepth 100000 in
set_option maxHeartbeats 1000000 in
theorem same6_k {S S' : List Nat} {v v' : Value} {p q : PoolD} {b : Bool} (w : World) (h : PoolAt S w v p) (h' : PoolAt S' w v' q) (hs : p.small) (hs' : q.small) (hb : (eqInts p.free q.free && eqInts p.limbo q.limbo && (p.high == q.high)) = b) :
    Calls Try.prog 30 #[v, v'] w fun e w' => e = .returned (.bool b) ∧ Fr [] w w' := by
  obtain ⟨fv, lv, rfl, h1, h2⟩ := h.mono (S' := []) (by simp)
  obtain ⟨fv', lv', rfl, h1', h2'⟩ := h'.mono (S' := []) (by simp)
  obtain ⟨fa, fc, rfl, _⟩ := Slc.form h1
  obtain ⟨la, lc, rfl, _⟩ := Slc.form h2
  obtain ⟨fa', fc', rfl, _⟩ := Slc.form h1'
  obtain ⟨la', lc', rfl, _⟩ := Slc.form h2'
  obtain ⟨W1, hW1⟩ : ∃ W1, w.alloc (.cells #[.int .i64 p.high, .slice fa p.free.length fc, .slice la p.limbo.length lc] 34) = W1 := ⟨_, rfl⟩
  obtain ⟨W2, hW2⟩ : ∃ W2, W1.alloc (.cells #[.int .i64 q.high, .slice fa' q.free.length fc', .slice la' q.limbo.length lc'] 34) = W2 := ⟨_, rfl⟩
  have hz1 : W1.heap.size = w.heap.size + 1 := by rw [← hW1]; simp
  have f1 : Fr [] w W1 := by rw [← hW1]; exact Fr.alloc1 _ _
  have f2 : Fr [] W1 W2 := by rw [← hW2]; exact Fr.alloc1 _ _
  have hb1 : W2.heap[w.heap.size]? = some (.cells #[.int .i64 p.high, .slice fa p.free.length fc, .slice la p.limbo.length lc] 34 (0, 0)) := f2.heap (by rw [← hW1]; exact blk_new _ _) (by simp)
  have hb2 : W2.heap[W1.heap.size]? = some (.cells #[.int .i64 q.high, .slice fa' q.free.length fc', .slice la' q.limbo.length lc'] 34 (0, 0)) := by rw [← hW2]; exact blk_new _ _
  have f12 := f1.trans f2
  obtain ⟨b1, hb1'⟩ : ∃ b, eqInts p.free q.free = b := ⟨_, rfl⟩
  obtain ⟨b2, hb2'⟩ : ∃ b, eqInts p.limbo q.limbo = b := ⟨_, rfl⟩
  have H1 := Lib.hid (ints6_k (S := []) (S' := []) W2 (h1.kept f12) (h1'.kept f12) (by have := hs.1; omega) (by have := hs'.1; omega) hb1')
  have H2 := Lib.hid (fun m => ints6_k (S := []) (S' := []) (W2.drewN m) ((h2.kept f12).kept (frN W2 m)) ((h2'.kept f12).kept (frN W2 m)) (by have := hs.2; omega) (by have := hs'.2; omega) hb2')
  have HF := Lib.hid f12
  have c10 := blk_cell hb1 0
  have c11 := blk_cell hb1 1
  have c12 := blk_cell hb1 2
  have c20 := blk_cell hb2 0
  have c21 := blk_cell hb2 1
  have c22 := blk_cell hb2 2
  simp only [List.getElem?_toArray, List.getElem?_cons_zero, List.getElem?_cons_succ] at c10 c11 c12 c20 c21 c22
  rw [hb1', hb2'] at hb
  have HB := Lib.hid hb
  clear h h' h1 h1' h2 h2' hs hs' f1 f2 f12 hb1 hb2 hb1' hb2' hz1 hb
  go_enter Try.func30, Try.ntmps30
  go_wp2_with fail
  refine H1.out.mono ?_
  rintro e w' ⟨rfl, m, rfl⟩
  have d12 := (frN W2 m).cellSome c12 (by simp)
  have d22 := (frN W2 m).cellSome c22 (by simp)
  go_wp2_with fail
  refine (H2.out m).mono ?_
  rintro e w' ⟨rfl, k, rfl⟩
  have HFK := Lib.hid ((HF.out.trans (frN W2 m)).trans (frN (W2.drewN m) k))
  have e10 := (frN (W2.drewN m) k).cellSome ((frN W2 m).cellSome c10 (by simp)) (by simp)
  have e20 := (frN (W2.drewN m) k).cellSome ((frN W2 m).cellSome c20 (by simp)) (by simp)
  clear d12 d22 c10 c11 c12 c20 c21 c22 H1 H2
  generalize (W2.drewN m).drewN k = W3 at *
  cases b1
  · go_wp2_with fail
    go_ret
    exact ⟨by rw [← HB.out]; rfl, HFK.out⟩
  · cases b2
    · go_wp2_with fail
      go_ret
      exact ⟨by rw [← HB.out]; rfl, HFK.out⟩
    · go_wp2_with fail
      go_ret
      exact ⟨by rw [← HB.out]; rfl, HFK.out⟩
end Go.Proofs.Ytgpeoonpoogniaa


/- The document's comparison of superblocks. -/
namespace Go.Proofs.Ytgpeoonpoogniaa
open Go.RowKit Go.MapKept

set_option maxHeartbeats 1000000 in
theorem pairs_none (a a' : Option Addr) (c c' : Nat) (w : World) : Calls Try.prog 49 #[.slice a 0 c, .slice a' 0 c'] w fun e w' => e = .returned (.bool true) ∧ w = w' := by
  go_enter Try.func49, Try.ntmps49
  go_wp2_with fail
  go_loopw [5] (fun i wr => i = .int .i64 0 ∧ w = wr) (fun _ _ => 0)
  case atStart => exact ⟨rfl, rfl⟩
  case round =>
    obtain ⟨rfl, rfl⟩ := hrel
    go_wp2
    go_ret
    exact ⟨rfl, rfl⟩
set_option maxHeartbeats 1000000 in
theorem ints5_none (a a' : Option Addr) (c c' : Nat) (w : World) : Calls Try.prog 50 #[.slice a 0 c, .slice a' 0 c'] w fun e w' => e = .returned (.bool true) ∧ w = w' := by
  go_enter Try.func50, Try.ntmps50
  go_wp2_with fail
  go_loopw [5] (fun i wr => i = .int .i64 0 ∧ w = wr) (fun _ _ => 0)
  case atStart => exact ⟨rfl, rfl⟩
  case round =>
    obtain ⟨rfl, rfl⟩ := hrel
    go_wp2
    go_ret
    exact ⟨rfl, rfl⟩
/-- A page that holds no list. -/
structure PageD.bare (p : PageD) : Prop where
  pairs : p.pairs = []
  keys : p.keys = []
  kids : p.kids = []
  pages : p.pages = []
theorem PageIn.bare {S : List Nat} {w : World} {p : PageD} {pv kv dv gv : Value} (h : PageIn S w p pv kv dv gv) (hb : p.bare) : ∃ a c k l d e g h', pv = .slice a 0 c ∧ kv = .slice k 0 l ∧ dv = .slice d 0 e ∧ gv = .slice g 0 h' := by
  have h1 := h.pairs
  have h2 := h.keys
  have h3 := h.kids
  have h4 := h.pages
  rw [hb.pairs] at h1
  rw [hb.keys] at h2
  rw [hb.kids] at h3
  rw [hb.pages] at h4
  obtain ⟨a, c, e1, _⟩ := Slc.form (n := 0) h1
  obtain ⟨k, l, e2, _⟩ := Slc.form (n := 0) h2
  obtain ⟨d, e, e3, _⟩ := Slc.form (n := 0) h3
  obtain ⟨g, h', e4, _⟩ := Slc.form (n := 0) h4
  exact ⟨a, c, k, l, d, e, g, h', e1, e2, e3, e4⟩
def eqSuper (p q : PageD) : Bool := (p.kind == q.kind) && (p.next == q.next) && (p.epoch == q.epoch) && (p.root == q.root) && (p.depth == q.depth) && (p.count == q.count) && (p.high == q.high)
theorem eqSuper_refl (p : PageD) : eqSuper p p = true := by unfold eqSuper; simp
set_option maxRecDepth 100000 in
set_option maxHeartbeats 4000000 in
theorem same5_k {S S' : List Nat} {v v' : Value} {p q : PageD} {b : Bool} (w : World) (h : PageAt S w v p) (h' : PageAt S' w v' q) (hp : p.bare) (hq : q.bare) (hb : eqSuper p q = b) :
    Calls Try.prog 23 #[v, v'] w fun e w' => e = .returned (.bool b) ∧ Fr [] w w' := by
  obtain ⟨pv, kv, dv, gv, rfl, hi⟩ := h
  obtain ⟨pv', kv', dv', gv', rfl, hi'⟩ := h'
  obtain ⟨xa, xc, xk, xl, xd, xe, xg, xh, rfl, rfl, rfl, rfl⟩ := hi.bare hp
  obtain ⟨ya, yc, yk, yl, yd, ye, yg, yh, rfl, rfl, rfl, rfl⟩ := hi'.bare hq
  clear hi hi' hp hq
  unfold pageCells
  obtain ⟨W1, hW1⟩ : ∃ W1, w.alloc (.cells #[.int .i64 p.kind, .slice xa 0 xc, .slice xk 0 xl, .slice xd 0 xe, .slice xg 0 xh, .int .i64 p.next, .int .u64 p.epoch, .int .i64 p.root, .int .i64 p.depth, .int .i64 p.count, .int .i64 p.high] 43) = W1 := ⟨_, rfl⟩
  obtain ⟨W2, hW2⟩ : ∃ W2, W1.alloc (.cells #[.int .i64 q.kind, .slice ya 0 yc, .slice yk 0 yl, .slice yd 0 ye, .slice yg 0 yh, .int .i64 q.next, .int .u64 q.epoch, .int .i64 q.root, .int .i64 q.depth, .int .i64 q.count, .int .i64 q.high] 43) = W2 := ⟨_, rfl⟩
  have f1 : Fr [] w W1 := by rw [← hW1]; exact Fr.alloc1 _ _
  have f2 : Fr [] W1 W2 := by rw [← hW2]; exact Fr.alloc1 _ _
  have hb1 : W2.heap[w.heap.size]? = some (.cells #[.int .i64 p.kind, .slice xa 0 xc, .slice xk 0 xl, .slice xd 0 xe, .slice xg 0 xh, .int .i64 p.next, .int .u64 p.epoch, .int .i64 p.root, .int .i64 p.depth, .int .i64 p.count, .int .i64 p.high] 43 (0, 0)) := f2.heap (by rw [← hW1]; exact blk_new _ _) (by simp)
  have hb2 : W2.heap[W1.heap.size]? = some (.cells #[.int .i64 q.kind, .slice ya 0 yc, .slice yk 0 yl, .slice yd 0 ye, .slice yg 0 yh, .int .i64 q.next, .int .u64 q.epoch, .int .i64 q.root, .int .i64 q.depth, .int .i64 q.count, .int .i64 q.high] 43 (0, 0)) := by rw [← hW2]; exact blk_new _ _
  have HFK := Lib.hid (f1.trans f2)
  have c0 := blk_cell hb1 0
  have d0 := blk_cell hb2 0
  have c1 := blk_cell hb1 1
  have d1 := blk_cell hb2 1
  have c2 := blk_cell hb1 2
  have d2 := blk_cell hb2 2
  have c3 := blk_cell hb1 3
  have d3 := blk_cell hb2 3
  have c4 := blk_cell hb1 4
  have d4 := blk_cell hb2 4
  have c5 := blk_cell hb1 5
  have d5 := blk_cell hb2 5
  have c6 := blk_cell hb1 6
  have d6 := blk_cell hb2 6
  have c7 := blk_cell hb1 7
  have d7 := blk_cell hb2 7
  have c8 := blk_cell hb1 8
  have d8 := blk_cell hb2 8
  have c9 := blk_cell hb1 9
  have d9 := blk_cell hb2 9
  have c10 := blk_cell hb1 10
  have d10 := blk_cell hb2 10
  simp only [List.getElem?_toArray, List.getElem?_cons_zero, List.getElem?_cons_succ] at c0 d0 c1 d1 c2 d2 c3 d3 c4 d4 c5 d5 c6 d6 c7 d7 c8 d8 c9 d9 c10 d10
  obtain ⟨k0, hk0⟩ : ∃ x, (p.kind == q.kind) = x := ⟨_, rfl⟩
  obtain ⟨k1, hk1⟩ : ∃ x, (p.next == q.next) = x := ⟨_, rfl⟩
  obtain ⟨k2, hk2⟩ : ∃ x, (p.epoch == q.epoch) = x := ⟨_, rfl⟩
  obtain ⟨k3, hk3⟩ : ∃ x, (p.root == q.root) = x := ⟨_, rfl⟩
  obtain ⟨k4, hk4⟩ : ∃ x, (p.depth == q.depth) = x := ⟨_, rfl⟩
  obtain ⟨k5, hk5⟩ : ∃ x, (p.count == q.count) = x := ⟨_, rfl⟩
  obtain ⟨k6, hk6⟩ : ∃ x, (p.high == q.high) = x := ⟨_, rfl⟩
  unfold eqSuper at hb
  rw [hk0, hk1, hk2, hk3, hk4, hk5, hk6] at hb
  have HB := Lib.hid hb
  clear f1 f2 hb1 hb2 hb
  go_enter Try.func23, Try.ntmps23
  go_wp2_with fail
  refine (pairs_none _ _ _ _ _).mono ?_
  rintro e w' ⟨rfl, rfl⟩
  go_wp2_with fail
  refine (ints5_none _ _ _ _ _).mono ?_
  rintro e w' ⟨rfl, rfl⟩
  go_wp2_with fail
  refine (ints5_none _ _ _ _ _).mono ?_
  rintro e w' ⟨rfl, rfl⟩
  go_wp2_with fail
  go_loopw [8] (fun i wr => i = .int .i64 0 ∧ W2 = wr) (fun _ _ => 0)
  case atStart => exact ⟨rfl, rfl⟩
  case round =>
    obtain ⟨rfl, rfl⟩ := hrel
    cases k0
    · go_wp2_with fail
      go_ret
      exact ⟨by rw [← HB.out]; rfl, HFK.out⟩
    · cases k1
      · go_wp2_with fail
        go_ret
        exact ⟨by rw [← HB.out]; rfl, HFK.out⟩
      · cases k2
        · go_wp2_with fail
          go_ret
          exact ⟨by rw [← HB.out]; rfl, HFK.out⟩
        · cases k3
          · go_wp2_with fail
            go_ret
            exact ⟨by rw [← HB.out]; rfl, HFK.out⟩
          · cases k4
            · go_wp2_with fail
              go_ret
              exact ⟨by rw [← HB.out]; rfl, HFK.out⟩
            · cases k5
              · go_wp2_with fail
                go_ret
                exact ⟨by rw [← HB.out]; rfl, HFK.out⟩
              · cases k6
                · go_wp2_with fail
                  go_ret
                  exact ⟨by rw [← HB.out]; rfl, HFK.out⟩
                · go_wp2_with fail
                  go_ret
                  exact ⟨by rw [← HB.out]; rfl, HFK.out⟩
end Go.Proofs.Ytgpeoonpoogniaa

