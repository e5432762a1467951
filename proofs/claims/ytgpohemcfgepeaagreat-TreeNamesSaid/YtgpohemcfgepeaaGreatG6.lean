/- a part. -/
import Derived.Test.YtgpohemcfgepeaaGreatG3
import Derived.Laws.BitsLemmas
import Derived.Deep.QuietTactic
import Derived.BigQuiet
import Derived.Test.YtgpohemcfgepeaaGreatG5
import Derived.RegionDies
namespace Go.Proofs.YtgpohemcfgepeaaGreat
open Go.RowKit Go.MapKept
def gaveUp : Ending := .panicked [{ v := .iface 39 (.int .i64 50), recovered := false }]
theorem needs_yes (w : World) : Calls Tryz.prog 148 #[.bool true] w fun e w' => e = .returned (.tuple #[]) ∧ w = w' := by
  go_enter Tryz.func148, Tryz.ntmps148
  go_wp2
  go_end0
  exact ⟨rfl, rfl⟩
theorem needs_no (w : World) : Calls Tryz.prog 148 #[.bool false] w fun e w' => e = gaveUp ∧ w = w' := by
  go_enter Tryz.func148, Tryz.ntmps148
  go_wp2
  exact ⟨rfl, rfl, rfl⟩
def BytesN (N rb : Nat) (w : World) (v : Value) (l : List UInt8) : Prop := ∀ S : List Nat, (∀ x, x ∈ S → x = rb ∨ N ≤ x) → Bytes S w v l
def SrcAt (w : World) (rb N : Nat) (T : TypeId) (cs : List Value) (l : List UInt8) : Prop :=
  ∃ sv, w.heap[rb]? = some (.cells (sv :: cs).toArray T (0, 0)) ∧ BytesN N rb w sv l
def TakeY (w : World) (rb N : Nat) (T : TypeId) (cs : List Value) (l : List UInt8) (n : Nat) (e : Ending) (w' : World) : Prop :=
  ∃ v, e = .returned v ∧ Bytes [rb] w' v (l.take n) ∧ SrcAt w' rb N T cs (l.drop n) ∧ Fr [rb] w w'
theorem BytesN.grown {N rb : Nat} {w w' : World} {v : Value} {l : List UInt8} {R : List Nat} (h : BytesN N rb w v l) (hf : Fr R w w') (hR : ∀ x, x ∈ R → x = rb ∨ N ≤ x) : BytesN N rb w' v l := fun S hS =>
  ((h (R ++ S) (fun x hx => by rcases List.mem_append.1 hx with hx | hx; exact hR x hx; exact hS x hx)).kept (hf.mono (fun x hx _ => List.mem_append.2 (.inl hx)))).mono (fun x hx => List.mem_append.2 (.inr hx))
theorem SrcAt.grown {w w' : World} {rb N : Nat} {T : TypeId} {cs : List Value} {l : List UInt8} {R : List Nat} (h : SrcAt w rb N T cs l) (hf : Fr R w w') (hR : ∀ x, x ∈ R → N ≤ x) (hN : rb < N) : SrcAt w' rb N T cs l := by
  obtain ⟨sv, hb, hv⟩ := h
  exact ⟨sv, hf.heap hb (fun hm => by have := hR rb hm; omega), hv.grown hf (fun x hx => .inr (hR x hx))⟩
theorem SrcAt.set {w : World} {rb N : Nat} {T : TypeId} {cs : List Value} {l : List UInt8} (h : SrcAt w rb N T cs l) (i : Nat) (v : Value) : SrcAt (w.setCell ⟨rb, i + 1, none⟩ v) rb N T (cs.set i v) l := by
  obtain ⟨sv, hb, hv⟩ := h
  refine ⟨sv, by rw [blk_set hb]; simp, hv.grown (Fr.setCell w ⟨rb, i + 1, none⟩ v) (fun x hx => .inl (List.mem_singleton.1 hx))⟩
theorem SrcAt.cell {w : World} {rb N : Nat} {T : TypeId} {cs : List Value} {l : List UInt8} (h : SrcAt w rb N T cs l) (i : Nat) : w.cell? ⟨rb, i + 1, none⟩ = cs[i]? ∧ w.frozen? ⟨rb, i + 1, none⟩ = false := by
  obtain ⟨sv, hb, hv⟩ := h
  exact ⟨by rw [blk_cell hb]; simp, blk_free hb _⟩
theorem src_cut {w : World} {rb N : Nat} {T : TypeId} {cs : List Value} {l : List UInt8} {a a' : Option Addr} {n c c' : Nat}
    (hb : w.heap[rb]? = some (.cells (.slice a l.length c :: cs).toArray T (0, 0))) (hv : BytesN N rb w (.slice a l.length c) l) (hn : n ≤ l.length) (hc : l.length ≤ c)
    (ha : (n = c ∧ a' = a ∧ c' = 0) ∨ (n ≠ c ∧ a' = a.map (fun x => x.add n) ∧ c' = c - n)) :
    TakeY w rb N T cs l n (.returned (.slice a n n)) (w.setCell ⟨rb, 0, none⟩ (.slice a' (l.length - n) c')) := by
  have hf : Fr [rb] w (w.setCell ⟨rb, 0, none⟩ (.slice a' (l.length - n) c')) := Fr.setCell w ⟨rb, 0, none⟩ _
  have hb' := blk_set hb 0 (.slice a' (l.length - n) c')
  refine ⟨_, rfl, Bytes.kept ?_ hf, ⟨.slice a' (l.length - n) c', by rw [hb']; simp, BytesN.grown (w := w) (fun S hS => ?_) hf (fun x hx => .inl (List.mem_singleton.1 hx))⟩, hf⟩
  · rcases hv [rb] (fun x hx => .inl (List.mem_singleton.1 hx)) with ⟨a0, c0, h, h0, hl, hna⟩ | ⟨B, off, cap, h, hcc, hs, hcs⟩
    · obtain rfl : l = [] := by simpa using hl
      obtain rfl : n = 0 := by simpa using hn
      exact .inl ⟨a, 0, rfl, rfl, rfl, fun _ => rfl⟩
    · cases h
      refine .inr ⟨B, off, n, ?_, ?_, ?_, ?_⟩
      · rw [List.length_take, Nat.min_eq_left hn]
      · rw [List.length_take]; omega
      · exact hs.imp (fun h => by simp at h; simp [h]) id
      · rw [List.map_take]; exact hcs.take n
  · rcases hv S hS with ⟨a0, c0, h, h0, hl, hna⟩ | ⟨B, off, cap, h, hcc, hs, hcs⟩
    · obtain rfl : l = [] := by simpa using hl
      obtain rfl : n = 0 := by simpa using hn
      obtain ⟨rfl, rfl⟩ : a = a0 ∧ c = c0 := by simpa using h
      refine .inl ⟨a', c', rfl, rfl, rfl, fun hq => ?_⟩
      rcases ha with ⟨h1, rfl, rfl⟩ | ⟨h1, rfl, rfl⟩
      · rfl
      · have := hna (by simpa using hq); omega
    · cases h
      rcases ha with ⟨h1, rfl, rfl⟩ | ⟨h1, rfl, rfl⟩
      · have : l.drop n = [] := List.drop_eq_nil_of_le (by omega)
        rw [this]
        refine .inl ⟨_, 0, by rw [show l.length - n = 0 by omega], rfl, rfl, fun _ => rfl⟩
      · refine .inr ⟨B, off + n, c - n, ?_, ?_, ?_, ?_⟩
        · rw [List.length_drop, Option.map_some, addr_add]
        · rw [List.length_drop]; omega
        · exact hs.imp (fun h => by simp at h; simp [h]) id
        · rw [List.map_drop]; exact hcs.drop n
set_option maxRecDepth 100000 in
set_option maxHeartbeats 1000000 in
theorem take_yes {rb N : Nat} {T : TypeId} {cs : List Value} {l : List UInt8} (n : Nat) (z : Int) (w : World) (hz : (n : Int) = z) (h : SrcAt w rb N T cs l) (hn : n ≤ l.length) (hl : l.length ≤ 1048576) :
    Calls Tryz.prog 149 #[.pointer (some ⟨rb, 0, none⟩), .int .i64 z] w (TakeY w rb N T cs l n) := by
  subst hz
  obtain ⟨sv, hb, hv⟩ := h
  obtain ⟨a, c, rfl, hc⟩ := Slc.form (hv [] (by simp))
  have c0 := blk_cell hb 0
  have f0 := blk_free hb 0
  simp only [List.getElem?_toArray, List.getElem?_cons_zero] at c0
  have HX : Hid (∀ a' c', (n = c ∧ a' = a ∧ c' = 0) ∨ (n ≠ c ∧ a' = a.map (fun x => x.add n) ∧ c' = c - n) → TakeY w rb N T cs l n (.returned (.slice a n n)) (w.setCell ⟨rb, 0, none⟩ (.slice a' (l.length - n) c'))) := Lib.hid fun _ _ ha => src_cut hb hv hn hc ha
  have hnI : (n : Int) ≤ (l.length : Int) := by omega
  have hlI : (l.length : Int) ≤ 1048576 := by omega
  have hcI : (n : Int) ≤ (c : Int) := by omega
  clear hb hv
  go_enter Tryz.func149, Tryz.ntmps149
  go_wp2_with fail
  refine (needs_yes _).mono ?_
  rintro e w1 ⟨rfl, rfl⟩
  go_wp2_with fail
  · go_ret
    exact HX.out _ _ (.inl ⟨(by assumption : c = n).symm, rfl, rfl⟩)
  · go_ret
    exact HX.out _ _ (.inr ⟨Ne.symm (by assumption), rfl, rfl⟩)
set_option maxRecDepth 100000 in
set_option maxHeartbeats 1000000 in
theorem take_no {rb N : Nat} {T : TypeId} {cs : List Value} {l : List UInt8} (n : Int) (w : World) (h : SrcAt w rb N T cs l) (hn : (l.length : Int) < n) :
    Calls Tryz.prog 149 #[.pointer (some ⟨rb, 0, none⟩), .int .i64 n] w (fun e w' => e = gaveUp ∧ w = w') := by
  obtain ⟨sv, hb, hv⟩ := h
  obtain ⟨a, c, rfl, hc⟩ := Slc.form (hv [] (by simp))
  have c0 := blk_cell hb 0
  simp only [List.getElem?_toArray, List.getElem?_cons_zero] at c0
  have hd : decide (n ≤ (l.length : Int)) = false := by simpa using hn
  clear hb hv
  unfold gaveUp
  go_enter Tryz.func149, Tryz.ntmps149
  go_wp2_with fail
  refine (needs_no _).mono ?_
  rintro e w1 ⟨rfl, rfl⟩
  unfold gaveUp
  go_wp2_with fail
  exact ⟨rfl, rfl, rfl⟩
def two16 (a b : UInt8) : Int := (a.toNat : Int) * 256 + (b.toNat : Int)
theorem or_two (a b : UInt8) : bits .or .i64 ((a.toNat : Int) * 256) (b.toNat : Int) = two16 a b := by
  have ha := a.toNat_lt
  have hb := b.toNat_lt
  exact bits_join .i64 63 (by decide) (fun n h0 h1 => IntWalk.i64_in n (by omega)) 8 _ _ (by omega) (by omega) (by omega) (by omega) (by omega) (by omega)
theorem two16_bd (a b : UInt8) : 0 ≤ two16 a b ∧ two16 a b < 65536 := by
  have ha := a.toNat_lt
  have hb := b.toNat_lt
  unfold two16
  omega
def TwoY (w : World) (rb N : Nat) (T : TypeId) (cs : List Value) (l : List UInt8) (n : Int) (e : Ending) (w' : World) : Prop := e = .returned (.int .i64 n) ∧ SrcAt w' rb N T cs l ∧ Fr [rb] w w'
theorem SrcAt.kept {w w' : World} {rb N : Nat} {T : TypeId} {cs : List Value} {l : List UInt8} (h : SrcAt w rb N T cs l) (hf : Fr [] w w') : SrcAt w' rb N T cs l := by
  obtain ⟨sv, hb, hv⟩ := h
  exact ⟨sv, hf.heap hb (by simp), hv.grown hf (by simp)⟩
theorem frDrewN (S : List Nat) (w : World) (n : Nat) : Fr S w (w.drewN n) := ⟨rfl, rfl, rfl, Nat.le_refl _, fun _ _ _ => rfl⟩
theorem TwoY.drewN {w w' : World} {rb N : Nat} {T : TypeId} {cs : List Value} {l : List UInt8} {n : Int} {e : Ending} (h : TwoY w rb N T cs l n e w') (k : Nat) : TwoY w rb N T cs l n e (w'.drewN k) :=
  ⟨h.1, h.2.1.kept (frDrewN _ _ _), h.2.2.trans (frDrewN _ _ _)⟩
set_option maxRecDepth 100000 in
set_option maxHeartbeats 1000000 in
theorem two_yes {rb N : Nat} {T : TypeId} {cs : List Value} {x y : UInt8} {l : List UInt8} (w : World) (h : SrcAt w rb N T cs (x :: y :: l)) (hl : l.length ≤ 1048500) :
    Calls Tryz.prog 186 #[.pointer (some ⟨rb, 0, none⟩)] w (TwoY w rb N T cs l (two16 x y)) := by
  have HT := Lib.hid (take_yes 2 2 w rfl h (by simp) (by simp; omega))
  have HO := Lib.hid (or_two x y)
  clear h
  have hx := x.toNat_lt
  have hy := y.toNat_lt
  go_enter Tryz.func186, Tryz.ntmps186
  go_wp2_with fail
  with_reducible refine HT.out.mono ?_
  rintro e w1 ⟨v, rfl, hv, hs, hf⟩
  obtain ⟨B, off, cp, rfl, hcp⟩ : ∃ B off c, v = .slice (some ⟨B, off, none⟩) 2 c ∧ 2 ≤ c := by
    rcases hv with ⟨_, _, _, h0, _⟩ | ⟨B, off, cap, h, hc, _⟩
    · simp at h0
    · exact ⟨B, off, cap, by simpa using h, by simpa using hc⟩
  have b0 := hv.at (i := 0) (by simp)
  have b1 := hv.at (i := 1) (by simp)
  simp only [List.take_succ_cons, List.take_zero, List.getElem_cons_zero, List.getElem_cons_succ, Nat.add_zero] at b0 b1
  have HS : Hid (TwoY w rb N T cs l (two16 x y) (.returned (.int .i64 (two16 x y))) w1) := Lib.hid ⟨rfl, by simpa using hs, hf⟩
  clear hv hs hf HT
  go_wp2_with fail
  go_quiet (fail)
  rw [HO.out]
  go_wp2
  go_ret
  exact HS.out.drewN _
set_option maxRecDepth 100000 in
set_option maxHeartbeats 1000000 in
theorem two_no {rb N : Nat} {T : TypeId} {cs : List Value} {l : List UInt8} (w : World) (h : SrcAt w rb N T cs l) (hl : l.length < 2) :
    Calls Tryz.prog 186 #[.pointer (some ⟨rb, 0, none⟩)] w (fun e w' => e = gaveUp ∧ w = w') := by
  have HT := Lib.hid (take_no 2 w h (by omega))
  clear h
  unfold gaveUp at *
  go_enter Tryz.func186, Tryz.ntmps186
  go_wp2_with fail
  with_reducible refine HT.out.mono ?_
  rintro e w1 ⟨rfl, rfl⟩
  go_wp2_with fail
  exact ⟨rfl, rfl, rfl⟩
def TextY (w : World) (rb N : Nat) (T : TypeId) (cs : List Value) (s : ByteArray) (l : List UInt8) (e : Ending) (w' : World) : Prop := e = .returned (.string s) ∧ SrcAt w' rb N T cs l ∧ Fr [rb] w w'
set_option maxRecDepth 100000 in
set_option maxHeartbeats 1000000 in
theorem texty_yes {rb N : Nat} {T : TypeId} {cs : List Value} {x : UInt8} {l : List UInt8} (w : World) (h : SrcAt w rb N T cs (x :: l)) (hx : x.toNat ≤ l.length) (hl : l.length ≤ 1048500) :
    Calls Tryz.prog 187 #[.pointer (some ⟨rb, 0, none⟩)] w (TextY w rb N T cs ⟨(l.take x.toNat).toArray⟩ (l.drop x.toNat)) := by
  have HT := Lib.hid (take_yes 1 1 w rfl h (by simp) (by simp; omega))
  have hx1 := x.toNat_lt
  clear h
  go_enter Tryz.func187, Tryz.ntmps187
  go_wp2_with fail
  with_reducible refine HT.out.mono ?_
  rintro e w1 ⟨v, rfl, hv, hs, hf⟩
  obtain ⟨B, off, cp, rfl, hcp⟩ : ∃ B off c, v = .slice (some ⟨B, off, none⟩) 1 c ∧ 1 ≤ c := by
    rcases hv with ⟨_, _, _, h0, _⟩ | ⟨B, off, cap, h, hc, _⟩
    · simp at h0
    · exact ⟨B, off, cap, by simpa using h, by simpa using hc⟩
  have b0 := hv.at (i := 0) (by simp)
  simp only [List.take_succ_cons, List.take_zero, List.getElem_cons_zero, Nat.add_zero] at b0
  have HT2 := Lib.hid (take_yes x.toNat x.toNat w1 rfl (l := l) (by simpa using hs) hx (by omega))
  have HF := Lib.hid hf
  clear hv hs hf HT
  go_wp2_with fail
  with_reducible refine HT2.out.mono ?_
  rintro e w2 ⟨v2, rfl, hv2, hs2, hf2⟩
  have hcv := run_string_bytes (P := Tryz.prog) Tryz.underlying117 Tryz.underlying5 Tryz.underlying9 hv2
  have HQ : Hid (TextY w rb N T cs ⟨(l.take x.toNat).toArray⟩ (l.drop x.toNat) (.returned (.string ⟨(l.take x.toNat).toArray⟩)) w2) := Lib.hid ⟨rfl, hs2, HF.out.trans hf2⟩
  clear hv2 hs2 hf2 HT2
  generalize (l.take x.toNat).toArray = q at *
  go_wp2
  go_ret
  exact HQ.out
set_option maxRecDepth 100000 in
set_option maxHeartbeats 1000000 in
theorem texty_no {rb N : Nat} {T : TypeId} {cs : List Value} {x : UInt8} {l : List UInt8} (w : World) (h : SrcAt w rb N T cs (x :: l)) (hx : l.length < x.toNat) (hl : l.length ≤ 1048500) :
    Calls Tryz.prog 187 #[.pointer (some ⟨rb, 0, none⟩)] w (fun e w' => e = gaveUp ∧ Fr [rb] w w') := by
  have HT := Lib.hid (take_yes 1 1 w rfl h (by simp) (by simp; omega))
  have hx1 := x.toNat_lt
  clear h
  unfold gaveUp
  go_enter Tryz.func187, Tryz.ntmps187
  go_wp2_with fail
  with_reducible refine HT.out.mono ?_
  rintro e w1 ⟨v, rfl, hv, hs, hf⟩
  obtain ⟨B, off, cp, rfl, hcp⟩ : ∃ B off c, v = .slice (some ⟨B, off, none⟩) 1 c ∧ 1 ≤ c := by
    rcases hv with ⟨_, _, _, h0, _⟩ | ⟨B, off, cap, h, hc, _⟩
    · simp at h0
    · exact ⟨B, off, cap, by simpa using h, by simpa using hc⟩
  have b0 := hv.at (i := 0) (by simp)
  simp only [List.take_succ_cons, List.take_zero, List.getElem_cons_zero, Nat.add_zero] at b0
  have HT2 := Lib.hid (take_no x.toNat w1 (l := l) (by simpa using hs) (by omega))
  have HF := Lib.hid hf
  clear hv hs hf HT
  go_wp2_with fail
  with_reducible refine HT2.out.mono ?_
  rintro e w2 ⟨rfl, rfl⟩
  unfold gaveUp
  go_wp2_with fail
  exact ⟨rfl, rfl, HF.out⟩
set_option maxRecDepth 100000 in
set_option maxHeartbeats 1000000 in
theorem texty_nil {rb N : Nat} {T : TypeId} {cs : List Value} (w : World) (h : SrcAt w rb N T cs []) :
    Calls Tryz.prog 187 #[.pointer (some ⟨rb, 0, none⟩)] w (fun e w' => e = gaveUp ∧ Fr [rb] w w') := by
  have HT := Lib.hid (take_no 1 w h (by simp))
  clear h
  unfold gaveUp at *
  go_enter Tryz.func187, Tryz.ntmps187
  go_wp2_with fail
  with_reducible refine HT.out.mono ?_
  rintro e w1 ⟨rfl, rfl⟩
  go_wp2_with fail
  exact ⟨rfl, rfl, Fr.refl _ _⟩
end Go.Proofs.YtgpohemcfgepeaaGreat

namespace Go.Proofs.YtgpohemcfgepeaaGreat
open Go.RowKit Go.MapKept
def ldOp (t : TypeId) (n : Nat) : Op := .load t (.tmp n)
attribute [local go_sem] ldOp
def twoP : List UInt8 → Option (Int × List UInt8)
  | x :: y :: l => some (two16 x y, l)
  | _ => none
def textP : List UInt8 → Option (ByteArray × List UInt8)
  | x :: l => if x.toNat ≤ l.length then some (⟨(l.take x.toNat).toArray⟩, l.drop x.toNat) else none
  | [] => none
def pairsP : Nat → List PairD → List UInt8 → Option (List PairD)
  | 0, acc, _ => some acc
  | n + 1, acc, l => if acc.length < 6 then (match textP l with | none => none | some (k, l1) => match textP l1 with | none => none | some (v, l2) => pairsP n (acc ++ [(k, v)]) l2) else none
def twoR (w : World) (rb N : Nat) (T : TypeId) (cs : List Value) (l : List UInt8) (e : Ending) (w' : World) : Prop :=
  match twoP l with
  | some (n, l') => TwoY w rb N T cs l' n e w'
  | none => e = gaveUp ∧ Fr [rb] w w'
theorem two_no' {l : List UInt8} (h : twoP l = none) : l.length < 2 := by
  match l with
  | [] => simp
  | [x] => simp
  | x :: y :: l => simp [twoP] at h
theorem two_r {rb N : Nat} {T : TypeId} {cs : List Value} {l : List UInt8} {r : Option (Int × List UInt8)} (w : World) (h : SrcAt w rb N T cs l) (hl : l.length ≤ 1048500) (hr : twoP l = r) :
    Calls Tryz.prog 186 #[.pointer (some ⟨rb, 0, none⟩)] w (twoR w rb N T cs l) := by
  cases hq : twoP l with
  | none => exact (two_no w h (two_no' hq)).mono fun e w' ⟨he, hw⟩ => by unfold twoR; rw [hq]; exact ⟨he, hw ▸ Fr.refl _ _⟩
  | some x =>
    match l, h, hl, hq with
    | x :: y :: l, h, hl, hq => exact (two_yes w h (by simp at hl; omega)).mono fun e w' h' => by unfold twoR twoP; exact h'
def textR (w : World) (rb N : Nat) (T : TypeId) (cs : List Value) (l : List UInt8) (e : Ending) (w' : World) : Prop :=
  match textP l with
  | some (s, l') => TextY w rb N T cs s l' e w'
  | none => e = gaveUp ∧ Fr [rb] w w'
theorem text_r {rb N : Nat} {T : TypeId} {cs : List Value} {l : List UInt8} (w : World) (h : SrcAt w rb N T cs l) (hl : l.length ≤ 1048500) :
    Calls Tryz.prog 187 #[.pointer (some ⟨rb, 0, none⟩)] w (textR w rb N T cs l) := by
  match l, h, hl with
  | [], h, hl => exact (texty_nil w h).mono fun e w' h' => by unfold textR textP; exact h'
  | x :: l, h, hl =>
    by_cases hx : x.toNat ≤ l.length
    · exact (texty_yes w h hx (by simp at hl; omega)).mono fun e w' h' => by
        have e1 : textP (x :: l) = some (⟨(l.take x.toNat).toArray⟩, l.drop x.toNat) := if_pos hx
        unfold textR; rw [e1]; exact h'
    · exact (texty_no w h (by omega) (by simp at hl; omega)).mono fun e w' h' => by
        have e1 : textP (x :: l) = none := if_neg hx
        unfold textR; rw [e1]; exact h'
abbrev nilV : Value := .slice none 0 0
def PgPost (w : World) (rb : Nat) (R : Option PageD) (e : Ending) (w' : World) : Prop :=
  Fr [rb] w w' ∧ ((∃ p, R = some p ∧ e = .returned (.tuple #[]) ∧ ∃ sv pv kv dv gv, w'.heap[rb]? = some (.cells (sv :: pageCells p pv kv dv gv).toArray 206 (0, 0)) ∧ ∀ S : List Nat, (∀ x, x ∈ S → x < w.heap.size) → PageIn S w' p pv kv dv gv) ∨ (R = none ∧ e = gaveUp))
def pgLeaf (ep : Int) (l : List PairD) : PageD := ⟨1, l, [], [], [], 0, ep, 0, 0, 0, 0⟩
def lfCells (pv : Value) (ep : Int) : List Value := [.int .i64 1, pv, nilV, nilV, nilV, .int .i64 0, .int .u64 ep, .int .i64 0, .int .i64 0, .int .i64 0, .int .i64 0]
structure LfAt (N rb : Nat) (w : World) (ep : Int) (acc : List PairD) (pv : Value) (l : List UInt8) : Prop where
  src : SrcAt w rb N 206 (lfCells pv ep) l
  row : w.ownsRow N 36 2 pv acc.length (prCells acc)
theorem textP_len {l l' : List UInt8} {s : ByteArray} (h : textP l = some (s, l')) : l'.length ≤ l.length := by
  match l, h with
  | [], h => cases h
  | x :: l, h =>
    by_cases hx : x.toNat ≤ l.length
    · rw [show textP (x :: l) = some (⟨(l.take x.toNat).toArray⟩, l.drop x.toNat) from if_pos hx] at h
      cases h
      rw [List.length_drop, List.length_cons]; omega
    · rw [show textP (x :: l) = none from if_neg hx] at h
      cases h
theorem twoP_len {l l' : List UInt8} {n : Int} (h : twoP l = some (n, l')) : l'.length ≤ l.length ∧ 0 ≤ n ∧ n < 65536 := by
  match l, h with
  | x :: y :: l, h => cases h; exact ⟨by simp; omega, two16_bd x y⟩
theorem pairsP_no {n : Nat} {acc : List PairD} {l : List UInt8} (h : ¬ acc.length < 6) : pairsP (n + 1) acc l = none := by unfold pairsP; rw [if_neg h]
theorem pairsP_no1 {n : Nat} {acc : List PairD} {l : List UInt8} (h : textP l = none) : pairsP (n + 1) acc l = none := by
  unfold pairsP; rw [h]; simp
theorem pairsP_no2 {n : Nat} {acc : List PairD} {l l1 : List UInt8} {k : ByteArray} (h : textP l = some (k, l1)) (h1 : textP l1 = none) : pairsP (n + 1) acc l = none := by
  unfold pairsP; rw [h]; simp [h1]
theorem pairsP_yes {n : Nat} {acc : List PairD} {l l1 l2 : List UInt8} {k v : ByteArray} (h0 : acc.length < 6) (h : textP l = some (k, l1)) (h1 : textP l1 = some (v, l2)) : pairsP (n + 1) acc l = pairsP n (acc ++ [(k, v)]) l2 := by
  conv => lhs; unfold pairsP
  rw [if_pos h0, h]
  simp [h1]
theorem Tryz.infoPair : (Tryz.prog.info? 36).map (fun i => (i.zero, i.size, i.bytes)) = some (some (.agg #[.string ByteArray.empty, .string ByteArray.empty]), 2, 32) := by kernel_rfl
theorem prCells_snoc (l : List PairD) (k v : ByteArray) : prCells (l ++ [(k, v)]) = prCells l ++ [.string k, .string v] := by unfold prCells; rw [List.flatMap_append]; rfl
theorem LfAt.end {N rb : Nat} {w0 w : World} {ep : Int} {acc : List PairD} {pv : Value} {l : List UInt8} (h : LfAt N rb w ep acc pv l) (hf : Fr [rb] w0 w) (hN : w0.heap.size ≤ N) :
    PgPost w0 rb (some (pgLeaf ep acc)) (.returned (.tuple #[])) w := by
  obtain ⟨sv, hb, _⟩ := h.src
  exact ⟨hf, .inl ⟨_, rfl, rfl, sv, pv, nilV, nilV, nilV, hb, fun S hS => ⟨Slc.ofOwns (S := S) h.row (fun x hx => Nat.lt_of_lt_of_le (hS x hx) hN), Slc.nil _ _, Slc.nil _ _, Slc.nil _ _⟩⟩⟩
set_option maxRecDepth 100000 in
set_option maxHeartbeats 1000000 in
theorem page_leaf {rb N : Nat} {l : List UInt8} {ep : Int} (w : World) (hs : SrcAt w rb N 206 [.int .i64 0, nilV, nilV, nilV, nilV, .int .i64 0, .int .u64 ep, .int .i64 0, .int .i64 0, .int .i64 0, .int .i64 0] l)
    (hN : rb < N) (hN2 : N = w.heap.size) (hl : l.length ≤ 100000) :
    Calls Tryz.prog 150 #[.pointer (some ⟨rb, 0, none⟩), .int .i64 1] w (PgPost w rb (match twoP l with | some (n, l') => (pairsP n.toNat [] l').map (pgLeaf ep) | none => none)) := by
  have hs1 : SrcAt (w.setCell ⟨rb, 1, none⟩ (.int .i64 1)) rb N 206 (lfCells nilV ep) l := hs.set 0 (.int .i64 1)
  have f1 : w.frozen? ⟨rb, 1, none⟩ = false := (hs.cell 0).2
  have c1 : w.cell? ⟨rb, 1, none⟩ = some (.int .i64 0) := (hs.cell 0).1
  have HF1 := Lib.hid (Fr.setCell w ⟨rb, 1, none⟩ (.int .i64 1))
  cases hq : twoP l with
  | none =>
    have HT := Lib.hid (two_r _ hs1 (by omega) hq)
    clear hs hs1
    go_enter Tryz.func150, Tryz.ntmps150
    go_wp2_with fail
    with_reducible refine HT.out.mono ?_
    intro e w1 h1
    unfold twoR at h1
    rw [hq] at h1
    obtain ⟨rfl, hf⟩ := h1
    have HQ : Hid (PgPost w rb none gaveUp w1) := Lib.hid ⟨HF1.out.trans hf, .inr ⟨rfl, rfl⟩⟩
    clear hf HT
    unfold gaveUp at *
    go_wp2_with fail
    exact ⟨rfl, HQ.out⟩
  | some r =>
    obtain ⟨n, l'⟩ := r
    have HT := Lib.hid (two_r _ hs1 (by omega) hq)
    obtain ⟨hl', hn0, hn1⟩ := twoP_len hq
    have hll : l'.length ≤ 100000 := by omega
    clear hs hs1 hl'
    obtain ⟨m, rfl⟩ : ∃ m : Nat, n = (m : Int) := ⟨n.toNat, by omega⟩
    simp only [Int.toNat_natCast]
    obtain ⟨R, hR⟩ : ∃ R, pairsP m [] l' = R := ⟨_, rfl⟩
    rw [hR]
    have HR := Lib.hid hR
    have HLL := Lib.hid hll
    have HN2 := Lib.hid (And.intro hN hN2)
    have hmI : (m : Int) < 65536 := hn1
    clear hR hll hn1 hl hN hN2
    go_enter Tryz.func150, Tryz.ntmps150
    go_wp2_with fail
    with_reducible refine HT.out.mono ?_
    intro e w1 h1
    unfold twoR at h1
    rw [hq] at h1
    obtain ⟨rfl, hsr, hf⟩ := h1
    have HF := Lib.hid (HF1.out.trans hf)
    have HS := Lib.hid hsr
    clear hf hsr HT c1 f1 hq
    go_wp2_with fail
    go_loopw [19] (fun i wr => ∃ k : Nat, i = .int .i64 k ∧ k ≤ m ∧ ∃ acc l2 pv, LfAt N rb wr ep acc pv l2 ∧ acc.length ≤ 6 ∧ l2.length ≤ 100000 ∧ pairsP (m - k) acc l2 = R ∧ Fr [rb] w wr) (fun i _ => m - (intOf i).toNat)
    case atStart => exact ⟨0, rfl, Nat.zero_le _, [], l', nilV, ⟨HS.out, World.ownsRow_nil _ _ _ _⟩, by simp, HLL.out, HR.out, HF.out⟩
    case round =>
      obtain ⟨k, rfl, hkm, acc, l2, pv, hat, h6, hll, hR, hfr⟩ := hrel
      by_cases hlt : k < m
      · obtain ⟨j, hj⟩ : ∃ j, m - k = j + 1 := ⟨m - k - 1, by omega⟩
        rw [hj] at hR
        have hj2 : m - (k + 1) = j := by omega
        have hkI : (k : Int) < (m : Int) := by omega
        obtain ⟨pa, pc, rfl, hpc⟩ := (Slc.ofOwns (S := []) hat.row (by simp)).form
        have c2 : wr.cell? ⟨rb, 2, none⟩ = some (.slice pa acc.length pc) := (hat.src.cell 1).1
        have h6I : (acc.length : Int) ≤ 6 := by omega
        by_cases h6' : acc.length < 6
        · have hd6 : decide ((acc.length : Int) < 6) = true := by simp; omega
          have HTX := Lib.hid (text_r _ hat.src (by omega))
          cases hq1 : textP l2 with
          | none =>
            have HX : Hid (R = none) := Lib.hid (by rw [← hR]; exact pairsP_no1 hq1)
            have HFR := Lib.hid hfr
            have HQ1 := Lib.hid hq1
            clear hat hfr hR hq1
            go_wp2_with fail
            refine (needs_yes _).mono ?_
            rintro e w2 ⟨rfl, rfl⟩
            go_wp2_with fail
            with_reducible refine HTX.out.mono ?_
            intro e w2 h2
            unfold textR at h2
            rw [HQ1.out] at h2
            obtain ⟨rfl, hf2⟩ := h2
            have HQ : Hid (PgPost w rb (R.map (pgLeaf ep)) gaveUp w2) := Lib.hid ⟨HFR.out.trans hf2, .inr ⟨by rw [HX.out]; rfl, rfl⟩⟩
            clear hf2 HTX
            unfold gaveUp at *
            go_wp2_with fail
            exact ⟨rfl, HQ.out⟩
          | some kk =>
            obtain ⟨kk, l3⟩ := kk
            have HFR := Lib.hid hfr
            have HQ1 := Lib.hid hq1
            have hl3 := textP_len hq1
            have HRW := Lib.hid hat.row
            have HR1 := Lib.hid hR
            have HAC := Lib.hid h6'
            clear hat hfr hR hq1
            go_wp2_with fail
            refine (needs_yes _).mono ?_
            rintro e w2 ⟨rfl, rfl⟩
            go_wp2_with fail
            with_reducible refine HTX.out.mono ?_
            intro e w2 h2
            unfold textR at h2
            rw [HQ1.out] at h2
            obtain ⟨rfl, hs2, hf2⟩ := h2
            have HS2 := Lib.hid hs2
            have HF2 := Lib.hid (HFR.out.trans hf2)
            have HRW2 : Hid (w2.ownsRow N 36 2 (.slice pa acc.length pc) acc.length (prCells acc)) := Lib.hid (ownsKept HRW.out hf2 (fun g hg hm => by
              have := (HRW.out.lt g hg).1
              have h3 := HN2.out.1
              rw [List.mem_singleton.1 hm] at this
              omega))
            have c3 : w2.cell? ⟨rb, 2, none⟩ = some (.slice pa acc.length pc) := (hs2.cell 1).1
            have f3 : w2.frozen? ⟨rb, 2, none⟩ = false := (hs2.cell 1).2
            have HTX2 := Lib.hid (text_r w2.drew (hs2.kept (Fr.refl [] _).drew) (by omega))
            clear hf2 hs2 HTX c2
            cases hq2 : textP l3 with
            | none =>
              have HX : Hid (R = none) := Lib.hid (by rw [← HR1.out]; exact pairsP_no2 HQ1.out hq2)
              have HQ2 := Lib.hid hq2
              clear hq2
              go_wp2_with fail
              go_region_dies
              all_goals
                with_reducible refine HTX2.out.mono ?_
                intro e w3 h3
                unfold textR at h3
                rw [HQ2.out] at h3
                obtain ⟨rfl, hf3⟩ := h3
                have HQ : Hid (PgPost w rb (R.map (pgLeaf ep)) gaveUp w3) := Lib.hid ⟨HF2.out.trans ((Fr.refl _ _).drew.trans hf3), .inr ⟨by rw [HX.out]; rfl, rfl⟩⟩
                clear hf3
                unfold gaveUp at *
                go_wp2_with fail
                exact ⟨rfl, HQ.out⟩
            | some vv =>
              obtain ⟨vv, l4⟩ := vv
              have HQ2 := Lib.hid hq2
              have hl4 := textP_len hq2
              clear hq2
              go_wp2_with fail
              rw [show Op.load 27 (.tmp 37) = ldOp 27 37 from rfl]
              go_region_held3 (fun _ => True) (trivial)
                (first
                | (go_at_call 187
                   with_reducible refine HTX2.out.mono ?_
                   intro e w3 h3
                   unfold textR at h3
                   rw [HQ2.out] at h3
                   obtain ⟨rfl, hs3, hf3⟩ := h3
                   have hf3' := (Fr.refl [rb] _).drew.trans hf3
                   have HF3 := Lib.hid (HF2.out.trans hf3')
                   have HS3 := Lib.hid hs3
                   have c4 : w3.cell? ⟨rb, 2, none⟩ = some (.slice pa acc.length pc) := (hs3.cell 1).1
                   have f4 : w3.frozen? ⟨rb, 2, none⟩ = false := (hs3.cell 1).2
                   have hal3 := Fr.alloc1 w3 (.cells #[.string kk, .string vv] 36)
                   have HRW3 : Hid ((w3.alloc (.cells #[.string kk, .string vv] 36)).ownsRow N 36 2 (.slice pa acc.length pc) acc.length (prCells acc)) := Lib.hid (ownsKept (ownsKept HRW2.out hf3' (fun g hg hm => by
                     have := (HRW2.out.lt g hg).1
                     have h3 := HN2.out.1
                     rw [List.mem_singleton.1 hm] at this
                     omega)) hal3 (by simp))
                   have c5 := hal3.cellSome c4 (by simp)
                   clear hf3 hs3 hf3')
                | (refine step_append_slc (S := []) rfl _ _ _ rfl Tryz.underlying27 Tryz.infoPair rfl (by decide) rfl HRW3.out rfl (Slc.ofBlock (blk_new w3 (.cells #[.string kk, .string vv] 36)) (by simp) 1 1 (Nat.le_refl _)) (by simp) (by simp [Value.oneCell']) rfl (by unfold maxLen; omega) (by omega) (by have h1 := HN2.out.2; have h2 := HF3.out.size; simp; omega) ?_
                   intro v5 w5 ho5 hf5 _
                   obtain ⟨pa5, pc5, rfl, _⟩ := (Slc.ofOwns (S := []) ho5 (by simp)).form
                   have HO5 := Lib.hid ho5
                   have hrb5 : rb ∉ (Value.slice pa acc.length pc).ownBlock.toList := fun hm => by
                     cases hb : (Value.slice pa acc.length pc).ownBlock with
                     | none => rw [hb] at hm; cases hm
                     | some g =>
                       rw [hb] at hm
                       have h1 := (HRW3.out.lt g hb).1
                       have h3 := HN2.out.1
                       rw [Option.toList_some, List.mem_singleton] at hm
                       omega
                   have c6 := hf5.cellSome c5 hrb5
                   have f6 : w5.frozen? ⟨rb, 2, none⟩ = false := by
                     rw [hf5.frozen (lt_of_cell c5) hrb5, hal3.frozen (lt_of_cell c4) (by simp)]
                     exact f4
                   have HF5 := Lib.hid hf5
                   clear ho5 hf5 hrb5))
              all_goals
                have HFIN : Hid (LfAt N rb (w5.setCell ⟨rb, 2, none⟩ (.slice pa5 (acc.length + 1) pc5)) ep (acc ++ [(kk, vv)]) (.slice pa5 (acc.length + 1) pc5) l4 ∧ Fr [rb] w (w5.setCell ⟨rb, 2, none⟩ (.slice pa5 (acc.length + 1) pc5))) := Lib.hid (by
                  have hown : ∀ x, x ∈ (Value.slice pa acc.length pc).ownBlock.toList → N ≤ x := fun x hx => by
                    cases hb : (Value.slice pa acc.length pc).ownBlock with
                    | none => rw [hb] at hx; cases hx
                    | some g => rw [hb] at hx; rw [List.mem_singleton.1 hx]; exact (HRW3.out.lt g hb).1
                  have h1 := ((HS3.out.kept (Fr.alloc1 w3 (.cells #[.string kk, .string vv] 36))).grown HF5.out hown HN2.out.1).set 1 (.slice pa5 (acc.length + 1) pc5)
                  have hfs := Fr.setCell w5 ⟨rb, 2, none⟩ (.slice pa5 (acc.length + 1) pc5)
                  refine ⟨⟨h1, ?_⟩, ?_⟩
                  · rw [prCells_snoc, List.length_append]
                    refine ownsKept HO5.out hfs (fun g hg hm => ?_)
                    have h1 := (HO5.out.lt g hg).1
                    have h3 := HN2.out.1
                    have h4 : g = rb := by simpa using hm
                    omega
                  · exact ((HF3.out.trans (Fr.alloc1 w3 _).nil).andThen HF5.out (fun x hx => .inr (by have := hown x hx; have := HN2.out.2; omega))).trans hfs)
                have HRR : Hid (pairsP j (acc ++ [(kk, vv)]) l4 = R) := Lib.hid (by rw [← HR1.out, pairsP_yes HAC.out HQ1.out HQ2.out])
                clear HO5 HF5 HS3 HF3 HRW3
                go_wp2
                go_roundw
                case rel => exact ⟨k + 1, by go_num, by omega, acc ++ [(kk, vv)], l4, _, HFIN.out.1, by have := HAC.out; simp; omega, by omega, by rw [hj2]; exact HRR.out, HFIN.out.2⟩
                case measure => simp [intOf]; omega
        · have hd6 : decide ((acc.length : Int) < 6) = false := by simp; omega
          have HQ : Hid (PgPost w rb (R.map (pgLeaf ep)) gaveUp wr) := Lib.hid ⟨hfr, .inr ⟨by rw [← hR, pairsP_no h6']; rfl, rfl⟩⟩
          clear hat hfr hR
          go_wp2_with fail
          refine (needs_no _).mono ?_
          rintro e w2 ⟨rfl, rfl⟩
          unfold gaveUp at *
          go_wp2_with fail
          exact ⟨rfl, HQ.out⟩
      · obtain rfl : k = m := by omega
        rw [Nat.sub_self] at hR
        have HQ : Hid (PgPost w rb (R.map (pgLeaf ep)) (.returned (.tuple #[])) wr) := Lib.hid (by rw [← hR]; exact hat.end hfr (by have := HN2.out.2; omega))
        clear hat hfr hR
        go_wp2
        go_end0
        exact HQ.out
end Go.Proofs.YtgpohemcfgepeaaGreat

namespace Go.Proofs.YtgpohemcfgepeaaGreat
open Go.RowKit Go.MapKept
attribute [local go_sem] ldOp
def intsP : Nat → List Int → List UInt8 → Option (List Int × List UInt8)
  | 0, acc, l => some (acc, l)
  | n + 1, acc, l => match twoP l with | none => none | some (x, l1) => intsP n (acc ++ [x]) l1
theorem intsP_no {n : Nat} {acc : List Int} {l : List UInt8} (h : twoP l = none) : intsP (n + 1) acc l = none := by unfold intsP; rw [h]
theorem intsP_yes {n : Nat} {acc : List Int} {l l1 : List UInt8} {x : Int} (h : twoP l = some (x, l1)) : intsP (n + 1) acc l = intsP n (acc ++ [x]) l1 := by
  conv => lhs; unfold intsP
  rw [h]
theorem twoP_len2 {l l' : List UInt8} {n : Int} (h : twoP l = some (n, l')) : l'.length + 2 = l.length := by
  match l, h with
  | x :: y :: l, h => cases h; simp
def pgFree (ep : Int) (l : List Int) (nx : Int) : PageD := ⟨3, [], [], [], l, nx, ep, 0, 0, 0, 0⟩
def freeP (ep : Int) (l : List UInt8) : Option PageD :=
  match twoP l with
  | none => none
  | some (n, l1) => match intsP n.toNat [] l1 with
    | none => none
    | some (xs, l2) => match twoP l2 with
      | none => none
      | some (nx, _) => some (pgFree ep xs nx)
def freeE (ep : Int) : Option (List Int × List UInt8) → Option PageD
  | none => none
  | some (xs, l2) => match twoP l2 with
      | none => none
      | some (nx, _) => some (pgFree ep xs nx)
def frCells (gv : Value) (nx ep : Int) : List Value := [.int .i64 3, nilV, nilV, nilV, gv, .int .i64 nx, .int .u64 ep, .int .i64 0, .int .i64 0, .int .i64 0, .int .i64 0]
structure FeAt (N rb : Nat) (w : World) (ep : Int) (acc : List Int) (gv : Value) (l : List UInt8) : Prop where
  src : SrcAt w rb N 206 (frCells gv 0 ep) l
  row : w.ownsRow N 3 1 gv acc.length (acc.map intV)
theorem FeAt.end {N rb : Nat} {w0 w1 w : World} {ep nx : Int} {acc : List Int} {gv : Value} {l l' : List UInt8} (h : FeAt N rb w1 ep acc gv l) (hf : Fr [rb] w0 w1) (hN : rb < N) (hs : SrcAt w rb N 206 (frCells gv nx ep) l') (hf2 : Fr [rb] w1 w) (hw : w0.heap.size ≤ N) :
    PgPost w0 rb (some (pgFree ep acc nx)) (.returned (.tuple #[])) w := by
  obtain ⟨sv, hb, _⟩ := hs
  refine ⟨hf.trans hf2, .inl ⟨_, rfl, rfl, sv, nilV, nilV, nilV, gv, hb, fun S hS => ⟨Slc.nil _ _, Slc.nil _ _, Slc.nil _ _, ?_⟩⟩⟩
  have h2 := ownsKept h.row hf2 (fun g hg hm => by
    have h1 := (h.row.lt g hg).1
    have h4 : g = rb := by simpa using hm
    omega)
  exact Slc.ofOwns (S := S) h2 (fun x hx => Nat.lt_of_lt_of_le (hS x hx) hw)
set_option maxRecDepth 100000 in
set_option maxHeartbeats 1000000 in
theorem page_free {rb N : Nat} {l : List UInt8} {ep : Int} (w : World) (hs : SrcAt w rb N 206 [.int .i64 0, nilV, nilV, nilV, nilV, .int .i64 0, .int .u64 ep, .int .i64 0, .int .i64 0, .int .i64 0, .int .i64 0] l)
    (hN : rb < N) (hN2 : N = w.heap.size) (hl : l.length ≤ 100000) :
    Calls Tryz.prog 150 #[.pointer (some ⟨rb, 0, none⟩), .int .i64 3] w (PgPost w rb (freeP ep l)) := by
  have hs1 : SrcAt (w.setCell ⟨rb, 1, none⟩ (.int .i64 3)) rb N 206 (frCells nilV 0 ep) l := hs.set 0 (.int .i64 3)
  have f1 : w.frozen? ⟨rb, 1, none⟩ = false := (hs.cell 0).2
  have c1 : w.cell? ⟨rb, 1, none⟩ = some (.int .i64 0) := (hs.cell 0).1
  have HF1 := Lib.hid (Fr.setCell w ⟨rb, 1, none⟩ (.int .i64 3))
  cases hq : twoP l with
  | none =>
    have HT := Lib.hid (two_r _ hs1 (by omega) hq)
    have HX : Hid (freeP ep l = none) := Lib.hid (by unfold freeP; rw [hq])
    clear hs hs1
    go_enter Tryz.func150, Tryz.ntmps150
    go_wp2_with fail
    with_reducible refine HT.out.mono ?_
    intro e w1 h1
    unfold twoR at h1
    rw [hq] at h1
    obtain ⟨rfl, hf⟩ := h1
    have HQ : Hid (PgPost w rb (freeP ep l) gaveUp w1) := Lib.hid ⟨HF1.out.trans hf, .inr ⟨HX.out, rfl⟩⟩
    clear hf HT
    unfold gaveUp at *
    go_wp2_with fail
    exact ⟨rfl, HQ.out⟩
  | some r =>
    obtain ⟨n, l'⟩ := r
    have HT := Lib.hid (two_r _ hs1 (by omega) hq)
    obtain ⟨hl', hn0, hn1⟩ := twoP_len hq
    have hll : l'.length ≤ 100000 := by omega
    clear hs hs1 hl'
    obtain ⟨m, rfl⟩ : ∃ m : Nat, n = (m : Int) := ⟨n.toNat, by omega⟩
    obtain ⟨R, hR⟩ : ∃ R, intsP m [] l' = R := ⟨_, rfl⟩
    have hfp : freeP ep l = freeE ep R := by unfold freeP freeE; rw [hq]; simp only [Int.toNat_natCast]; rw [hR]
    rw [hfp]
    have HR := Lib.hid hR
    have HLL := Lib.hid hll
    have HN2 := Lib.hid (And.intro hN hN2)
    have hmI : (m : Int) < 65536 := hn1
    clear hR hll hn1 hl hN hN2 hfp
    go_enter Tryz.func150, Tryz.ntmps150
    go_wp2_with fail
    with_reducible refine HT.out.mono ?_
    intro e w1 h1
    unfold twoR at h1
    rw [hq] at h1
    obtain ⟨rfl, hsr, hf⟩ := h1
    have HF := Lib.hid (HF1.out.trans hf)
    have HS := Lib.hid hsr
    clear hf hsr HT c1 f1 hq
    go_wp2_with fail
    go_loopw [120] (fun i wr => ∃ k : Nat, i = .int .i64 k ∧ k ≤ m ∧ ∃ acc l2 gv, FeAt N rb wr ep acc gv l2 ∧ acc.length + l2.length ≤ 100000 ∧ intsP (m - k) acc l2 = R ∧ Fr [rb] w wr) (fun i _ => m - (intOf i).toNat)
    case atStart => exact ⟨0, rfl, Nat.zero_le _, [], l', nilV, ⟨HS.out, World.ownsRow_nil _ _ _ _⟩, by simpa using HLL.out, HR.out, HF.out⟩
    case round =>
      obtain ⟨k, rfl, hkm, acc, l2, gv, hat, hll, hR, hfr⟩ := hrel
      by_cases hlt : k < m
      · obtain ⟨j, hj⟩ : ∃ j, m - k = j + 1 := ⟨m - k - 1, by omega⟩
        rw [hj] at hR
        have hj2 : m - (k + 1) = j := by omega
        have hkI : (k : Int) < (m : Int) := by omega
        obtain ⟨pa, pc, rfl, hpc⟩ := (Slc.ofOwns (S := []) hat.row (by simp)).form
        have c3 : wr.cell? ⟨rb, 5, none⟩ = some (.slice pa acc.length pc) := (hat.src.cell 4).1
        have f3 : wr.frozen? ⟨rb, 5, none⟩ = false := (hat.src.cell 4).2
        have HFR := Lib.hid hfr
        have HRW := Lib.hid hat.row
        cases hq1 : twoP l2 with
        | none =>
          have HX : Hid (R = none) := Lib.hid (by rw [← hR]; exact intsP_no hq1)
          have HTX := Lib.hid (two_r wr.drew (hat.src.kept (Fr.refl [] _).drew) (by omega) hq1)
          have HQ1 := Lib.hid hq1
          clear hat hfr hR hq1
          go_wp2_with fail
          go_region_dies
          all_goals
            with_reducible refine HTX.out.mono ?_
            intro e w3 h3
            unfold twoR at h3
            rw [HQ1.out] at h3
            obtain ⟨rfl, hf3⟩ := h3
            have HQ : Hid (PgPost w rb (freeE ep R) gaveUp w3) := Lib.hid ⟨HFR.out.trans ((Fr.refl _ _).drew.trans hf3), .inr ⟨by rw [HX.out]; rfl, rfl⟩⟩
            clear hf3
            unfold gaveUp at *
            go_wp2_with fail
            exact ⟨rfl, HQ.out⟩
        | some vv =>
          obtain ⟨vv, l4⟩ := vv
          have HTX := Lib.hid (two_r wr.drew (hat.src.kept (Fr.refl [] _).drew) (by omega) hq1)
          have HRR : Hid (intsP j (acc ++ [vv]) l4 = R) := Lib.hid (by rw [← hR, intsP_yes hq1])
          have HQ1 := Lib.hid hq1
          have hl4 := twoP_len2 hq1
          clear hat hfr hR hq1
          go_wp2_with fail
          rw [show Op.load 70 (.tmp 126) = ldOp 70 126 from rfl]
          go_region_held3 (fun _ => True) (trivial)
            (first
            | (go_at_call 186
               with_reducible refine HTX.out.mono ?_
               intro e w3 h3
               unfold twoR at h3
               rw [HQ1.out] at h3
               obtain ⟨rfl, hs3, hf3⟩ := h3
               have hf3' := (Fr.refl [rb] _).drew.trans hf3
               have HF3 := Lib.hid (HFR.out.trans hf3')
               have HS3 := Lib.hid hs3
               have c4 : w3.cell? ⟨rb, 5, none⟩ = some (.slice pa acc.length pc) := (hs3.cell 4).1
               have f4 : w3.frozen? ⟨rb, 5, none⟩ = false := (hs3.cell 4).2
               have hal3 := Fr.alloc1 w3 (.cells #[.int .i64 vv] 3)
               have HRW3 : Hid ((w3.alloc (.cells #[.int .i64 vv] 3)).ownsRow N 3 1 (.slice pa acc.length pc) acc.length (acc.map intV)) := Lib.hid (ownsKept (ownsKept HRW.out hf3' (fun g hg hm => by
                 have h1 := (HRW.out.lt g hg).1
                 have h3 := HN2.out.1
                 have h4 : g = rb := by simpa using hm
                 omega)) hal3 (by simp))
               have c5 := hal3.cellSome c4 (by simp)
               clear hf3 hs3 hf3')
            | (refine step_append_slc (S := []) rfl _ _ _ rfl Tryz.underlying70 Tryz.info3i rfl (by decide) rfl HRW3.out rfl (Slc.ofBlock (blk_new w3 (.cells #[.int .i64 vv] 3)) (by simp) 1 1 (Nat.le_refl _)) (by simp) (by simp [Value.oneCell']) rfl (by unfold maxLen; omega) (by omega) (by have h1 := HN2.out.2; have h2 := HF3.out.size; simp; omega) ?_
               intro v5 w5 ho5 hf5 _
               obtain ⟨pa5, pc5, rfl, _⟩ := (Slc.ofOwns (S := []) ho5 (by simp)).form
               have HO5 := Lib.hid ho5
               have hrb5 : rb ∉ (Value.slice pa acc.length pc).ownBlock.toList := fun hm => by
                 cases hb : (Value.slice pa acc.length pc).ownBlock with
                 | none => rw [hb] at hm; cases hm
                 | some g =>
                   rw [hb] at hm
                   have h1 := (HRW3.out.lt g hb).1
                   have h3 := HN2.out.1
                   rw [Option.toList_some, List.mem_singleton] at hm
                   omega
               have c6 := hf5.cellSome c5 hrb5
               have f6 : w5.frozen? ⟨rb, 5, none⟩ = false := by
                 rw [hf5.frozen (lt_of_cell c5) hrb5, hal3.frozen (lt_of_cell c4) (by simp)]
                 exact f4
               have HF5 := Lib.hid hf5
               clear ho5 hf5 hrb5))
          all_goals
            have HFIN : Hid (FeAt N rb (w5.setCell ⟨rb, 5, none⟩ (.slice pa5 (acc.length + 1) pc5)) ep (acc ++ [vv]) (.slice pa5 (acc.length + 1) pc5) l4 ∧ Fr [rb] w (w5.setCell ⟨rb, 5, none⟩ (.slice pa5 (acc.length + 1) pc5))) := Lib.hid (by
              have hown : ∀ x, x ∈ (Value.slice pa acc.length pc).ownBlock.toList → N ≤ x := fun x hx => by
                cases hb : (Value.slice pa acc.length pc).ownBlock with
                | none => rw [hb] at hx; cases hx
                | some g => rw [hb] at hx; rw [List.mem_singleton.1 hx]; exact (HRW3.out.lt g hb).1
              have h1 := ((HS3.out.kept (Fr.alloc1 w3 (.cells #[.int .i64 vv] 3))).grown HF5.out hown HN2.out.1).set 4 (.slice pa5 (acc.length + 1) pc5)
              have hfs := Fr.setCell w5 ⟨rb, 5, none⟩ (.slice pa5 (acc.length + 1) pc5)
              refine ⟨⟨h1, ?_⟩, ?_⟩
              · rw [List.map_append, List.length_append]
                refine ownsKept HO5.out hfs (fun g hg hm => ?_)
                have h1 := (HO5.out.lt g hg).1
                have h3 := HN2.out.1
                have h4 : g = rb := by simpa using hm
                omega
              · exact ((HF3.out.trans (Fr.alloc1 w3 _).nil).andThen HF5.out (fun x hx => .inr (by have := hown x hx; have := HN2.out.2; omega))).trans hfs)
            clear HO5 HF5 HS3 HF3 HRW3
            go_wp2
            go_roundw
            case rel => exact ⟨k + 1, by go_num, by omega, acc ++ [vv], l4, _, HFIN.out.1, by simp; omega, by rw [hj2]; exact HRR.out, HFIN.out.2⟩
            case measure => simp [intOf]; omega
      · obtain rfl : k = m := by omega
        rw [Nat.sub_self] at hR
        have hR2 : some (acc, l2) = R := hR
        cases hq1 : twoP l2 with
        | none =>
          have HX : Hid (freeE ep R = none) := Lib.hid (by rw [← hR2]; unfold freeE; simp only [hq1])
          have HTX := Lib.hid (two_r wr hat.src (by omega) hq1)
          have HQ1 := Lib.hid hq1
          have HFR := Lib.hid hfr
          clear hat hfr hR hR2 hq1
          go_wp2_with fail
          with_reducible refine HTX.out.mono ?_
          intro e w3 h3
          unfold twoR at h3
          rw [HQ1.out] at h3
          obtain ⟨rfl, hf3⟩ := h3
          have HQ : Hid (PgPost w rb (freeE ep R) gaveUp w3) := Lib.hid ⟨HFR.out.trans hf3, .inr ⟨HX.out, rfl⟩⟩
          clear hf3
          unfold gaveUp at *
          go_wp2_with fail
          exact ⟨rfl, HQ.out⟩
        | some vv =>
          obtain ⟨nx, l4⟩ := vv
          have HX : Hid (freeE ep R = some (pgFree ep acc nx)) := Lib.hid (by rw [← hR2]; unfold freeE; simp only [hq1])
          have HTX := Lib.hid (two_r wr hat.src (by omega) hq1)
          have HQ1 := Lib.hid hq1
          have HFR := Lib.hid hfr
          have HAT := Lib.hid hat
          clear hat hfr hR hR2 hq1
          go_wp2_with fail
          with_reducible refine HTX.out.mono ?_
          intro e w3 h3
          unfold twoR at h3
          rw [HQ1.out] at h3
          obtain ⟨rfl, hs3, hf3⟩ := h3
          have c4 : w3.cell? ⟨rb, 6, none⟩ = some (.int .i64 0) := (hs3.cell 5).1
          have f4 : w3.frozen? ⟨rb, 6, none⟩ = false := (hs3.cell 5).2
          have HQ : Hid (PgPost w rb (freeE ep R) (.returned (.tuple #[])) (w3.setCell ⟨rb, 6, none⟩ (.int .i64 nx))) := Lib.hid (by
            rw [HX.out]
            exact HAT.out.end HFR.out HN2.out.1 (hs3.set 5 (.int .i64 nx)) (hf3.trans (Fr.setCell w3 ⟨rb, 6, none⟩ (.int .i64 nx))) (by have := HN2.out.2; omega))
          clear hf3 hs3
          go_wp2_with fail
          go_end0
          exact HQ.out
end Go.Proofs.YtgpohemcfgepeaaGreat

namespace Go.Proofs.YtgpohemcfgepeaaGreat
open Go.RowKit Go.MapKept
attribute [local go_sem] ldOp
def pgSuper (ep rt dp ct hg nx : Int) : PageD := ⟨4, [], [], [], [], nx, ep, rt, dp, ct, hg⟩
def superE3 (ep a b c d h : Int) (l : List UInt8) : Option PageD := match twoP l with | none => none | some (nx, _) => some (pgSuper ep a b (c * 65536 + d) h nx)
def superE2 (ep a b c d : Int) (l : List UInt8) : Option PageD := match twoP l with | none => none | some (h, l) => superE3 ep a b c d h l
def superE1b (ep a b c : Int) (l : List UInt8) : Option PageD := match twoP l with | none => none | some (d, l) => superE2 ep a b c d l
def superE1 (ep a b : Int) (l : List UInt8) : Option PageD := match twoP l with | none => none | some (c, l) => superE1b ep a b c l
def superE0 (ep a : Int) (l : List UInt8) : Option PageD := match twoP l with | none => none | some (b, l) => superE1 ep a b l
def superP (ep : Int) (l : List UInt8) : Option PageD := match twoP l with | none => none | some (a, l) => superE0 ep a l
def suCells (nx ep rt dp ct hg : Int) : List Value := [.int .i64 4, nilV, nilV, nilV, nilV, .int .i64 nx, .int .u64 ep, .int .i64 rt, .int .i64 dp, .int .i64 ct, .int .i64 hg]
theorem superEnd {N rb : Nat} {w0 w : World} {nx ep rt dp ct hg : Int} {l : List UInt8} (hs : SrcAt w rb N 206 (suCells nx ep rt dp ct hg) l) (hf : Fr [rb] w0 w) :
    PgPost w0 rb (some (pgSuper ep rt dp ct hg nx)) (.returned (.tuple #[])) w := by
  obtain ⟨sv, hb, _⟩ := hs
  exact ⟨hf, .inl ⟨_, rfl, rfl, sv, nilV, nilV, nilV, nilV, hb, fun S _ => ⟨Slc.nil _ _, Slc.nil _ _, Slc.nil _ _, Slc.nil _ _⟩⟩⟩
theorem or_high {c d : Int} (h0 : 0 ≤ c) (h1 : c < 65536) (h2 : 0 ≤ d) (h3 : d < 65536) : bits .or .i64 (c * 65536) d = c * 65536 + d :=
  bits_join .i64 63 (by decide) (fun n h0 h1 => IntWalk.i64_in n (by omega)) 16 _ _ (by omega) (by omega) (by omega) (by omega) (by omega) (by omega)
set_option maxRecDepth 100000 in
set_option maxHeartbeats 2000000 in
theorem page_super {rb N : Nat} {l : List UInt8} {ep : Int} (w : World) (hs : SrcAt w rb N 206 [.int .i64 0, nilV, nilV, nilV, nilV, .int .i64 0, .int .u64 ep, .int .i64 0, .int .i64 0, .int .i64 0, .int .i64 0] l)
    (hl : l.length ≤ 100000) :
    Calls Tryz.prog 150 #[.pointer (some ⟨rb, 0, none⟩), .int .i64 4] w (PgPost w rb (superP ep l)) := by
  have hs1 : SrcAt (w.setCell ⟨rb, 1, none⟩ (.int .i64 4)) rb N 206 (suCells 0 ep 0 0 0 0) l := hs.set 0 (.int .i64 4)
  have f1 : w.frozen? ⟨rb, 1, none⟩ = false := (hs.cell 0).2
  have c1 : w.cell? ⟨rb, 1, none⟩ = some (.int .i64 0) := (hs.cell 0).1
  have HF1 := Lib.hid (Fr.setCell w ⟨rb, 1, none⟩ (.int .i64 4))
  obtain ⟨W, hW⟩ : ∃ W, w.setCell ⟨rb, 1, none⟩ (.int .i64 4) = W := ⟨_, rfl⟩
  rw [hW] at hs1 HF1
  have HS1 := Lib.hid hs1
  have HL := Lib.hid hl
  clear hs hs1 hl
  go_enter Tryz.func150, Tryz.ntmps150
  go_wp2_with fail
  cases hq1 : twoP l with
  | none =>
    have HT := Lib.hid (two_r W.drew (HS1.out.kept (Fr.refl [] _).drew) (by have := HL.out; omega) hq1)
    have HX : Hid (superP ep l = none) := Lib.hid (by unfold superP; rw [hq1])
    have HQ1 := Lib.hid hq1
    clear hq1
    go_region_dies
    all_goals
      with_reducible refine HT.out.mono ?_
      intro e w1 h1
      unfold twoR at h1
      rw [HQ1.out] at h1
      obtain ⟨rfl, hf⟩ := h1
      have HQ : Hid (PgPost w rb (superP ep l) gaveUp w1) := Lib.hid ⟨HF1.out.trans ((Fr.refl _ _).drew.trans hf), .inr ⟨HX.out, rfl⟩⟩
      clear hf HT
      unfold gaveUp at *
      go_wp2_with fail
      exact ⟨rfl, HQ.out⟩
  | some r =>
    obtain ⟨a, l1⟩ := r
    have HT := Lib.hid (two_r W.drew (HS1.out.kept (Fr.refl [] _).drew) (by have := HL.out; omega) hq1)
    have HX0 : Hid (superP ep l = superE0 ep a l1) := Lib.hid (by unfold superP; rw [hq1])
    have HQ1 := Lib.hid hq1
    have hl1 := twoP_len2 hq1
    clear hq1
    cases hq2 : twoP l1 with
    | none =>
      have HX : Hid (superP ep l = none) := Lib.hid (by rw [HX0.out]; unfold superE0; rw [hq2])
      have HQ2 := Lib.hid hq2
      clear hq2
      go_region_with
        (first
        | (go_at_call 186
           with_reducible refine HT.out.mono ?_
           intro e w1 h1
           unfold twoR at h1
           rw [HQ1.out] at h1
           obtain ⟨rfl, hs2, hf⟩ := h1
           have HF2 := Lib.hid (HF1.out.trans ((Fr.refl [rb] _).drew.trans hf))
           have HT2 := Lib.hid (two_r w1 hs2 (by have := HL.out; omega) HQ2.out)
           clear hs2 hf)
        | (go_at_call 186
           with_reducible refine HT2.out.mono ?_
           intro e w2 h2
           unfold twoR at h2
           rw [HQ2.out] at h2
           obtain ⟨rfl, hf2⟩ := h2
           have HQ : Hid (PgPost w rb (superP ep l) gaveUp w2) := Lib.hid ⟨HF2.out.trans hf2, .inr ⟨HX.out, rfl⟩⟩
           clear hf2
           unfold gaveUp at *
           go_wp2_with fail
           suffices hdum : wpAny Tryz.prog (default : Region.Mode) #[] (fun _ _ _ => True) 0 #[] { tmps := #[], defers := [] } w2 from ⟨rfl, HQ.out⟩))
      all_goals trivial
    | some r =>
      obtain ⟨b, l2⟩ := r
      have HX1 : Hid (superP ep l = superE1 ep a b l2) := Lib.hid (by rw [HX0.out]; unfold superE0; rw [hq2])
      have HQ2 := Lib.hid hq2
      have hl2 := twoP_len2 hq2
      clear hq2
      go_region_held3 (fun _ => True) (trivial)
        (first
        | (go_at_call 186
           with_reducible refine HT.out.mono ?_
           intro e w1 h1
           unfold twoR at h1
           rw [HQ1.out] at h1
           obtain ⟨rfl, hs2, hf⟩ := h1
           have HF2 := Lib.hid (HF1.out.trans ((Fr.refl [rb] _).drew.trans hf))
           have HT2 := Lib.hid (two_r w1 hs2 (by have := HL.out; omega) HQ2.out)
           clear hs2 hf)
        | (go_at_call 186
           with_reducible refine HT2.out.mono ?_
           intro e w2 h2
           unfold twoR at h2
           rw [HQ2.out] at h2
           obtain ⟨rfl, hs3, hf2⟩ := h2
           have c8 : w2.cell? ⟨rb, 8, none⟩ = some (.int .i64 0) := (hs3.cell 7).1
           have f8 : w2.frozen? ⟨rb, 8, none⟩ = false := (hs3.cell 7).2
           have c9 : w2.cell? ⟨rb, 9, none⟩ = some (.int .i64 0) := (hs3.cell 8).1
           have f9 : w2.frozen? ⟨rb, 9, none⟩ = false := (hs3.cell 8).2
           have HS3 := Lib.hid hs3
           have HF3 := Lib.hid (HF2.out.trans hf2)
           clear hs3 hf2))
      all_goals
        have HS4 : Hid (∀ W4, (W4 = (w2.setCell ⟨rb, 8, none⟩ (.int .i64 a)).setCell ⟨rb, 9, none⟩ (.int .i64 b) ∨ W4 = (w2.setCell ⟨rb, 9, none⟩ (.int .i64 b)).setCell ⟨rb, 8, none⟩ (.int .i64 a)) → SrcAt W4 rb N 206 (suCells 0 ep a b 0 0) l2 ∧ Fr [rb] w W4) := Lib.hid (by
          rintro W4 (rfl | rfl)
          · exact ⟨(HS3.out.set 7 (.int .i64 a)).set 8 (.int .i64 b), (HF3.out.trans (Fr.setCell w2 ⟨rb, 8, none⟩ _)).trans (Fr.setCell _ ⟨rb, 9, none⟩ _)⟩
          · exact ⟨(HS3.out.set 8 (.int .i64 b)).set 7 (.int .i64 a), (HF3.out.trans (Fr.setCell w2 ⟨rb, 9, none⟩ _)).trans (Fr.setCell _ ⟨rb, 8, none⟩ _)⟩)
        clear HS3 HF3 c8 c9 f8 f9
        go_wp2_with fail
        obtain ⟨W4, hW4⟩ : ∃ W4, (w2.setCell ⟨rb, 8, none⟩ (.int .i64 a)).setCell ⟨rb, 9, none⟩ (.int .i64 b) = W4 := ⟨_, rfl⟩
        have HS5 := HS4.out _ (.inl hW4.symm)
        rw [hW4]
        clear HS4 hW4
        have HF5 := Lib.hid HS5.2
        refine (two_r _ HS5.1 (by have := HL.out; omega) rfl).mono ?_
        intro e w5 h5
        clear HS5
        unfold twoR at h5
        cases hq3 : twoP l2 with
        | none =>
          have HX : Hid (superP ep l = none) := Lib.hid (by rw [HX1.out]; unfold superE1; rw [hq3])
          rw [hq3] at h5
          obtain ⟨rfl, hf⟩ := h5
          have HQ : Hid (PgPost w rb (superP ep l) gaveUp w5) := Lib.hid ⟨HF5.out.trans hf, .inr ⟨HX.out, rfl⟩⟩
          clear hf
          unfold gaveUp at *
          go_wp2_with fail
          exact ⟨rfl, HQ.out⟩
        | some r =>
          obtain ⟨c, l3⟩ := r
          rw [hq3] at h5
          obtain ⟨rfl, hs5, hf5⟩ := h5
          have HX2 : Hid (superP ep l = superE1b ep a b c l3) := Lib.hid (by rw [HX1.out]; unfold superE1; rw [hq3])
          have hl3 := twoP_len2 hq3
          have hc := (twoP_len hq3).2
          have HF6 := Lib.hid (HF5.out.trans hf5)
          have HS6 := Lib.hid hs5
          clear hq3 hf5 hs5
          go_wp2_with fail
          refine (two_r _ HS6.out (by have := HL.out; omega) rfl).mono ?_
          intro e w6 h6
          unfold twoR at h6
          cases hq4 : twoP l3 with
          | none =>
            have HX : Hid (superP ep l = none) := Lib.hid (by rw [HX2.out]; unfold superE1b; rw [hq4])
            rw [hq4] at h6
            obtain ⟨rfl, hf⟩ := h6
            have HQ : Hid (PgPost w rb (superP ep l) gaveUp w6) := Lib.hid ⟨HF6.out.trans hf, .inr ⟨HX.out, rfl⟩⟩
            clear hf
            unfold gaveUp at *
            go_wp2_with fail
            exact ⟨rfl, HQ.out⟩
          | some r =>
            obtain ⟨d, l4⟩ := r
            rw [hq4] at h6
            obtain ⟨rfl, hs6, hf6⟩ := h6
            have HX3 : Hid (superP ep l = superE2 ep a b c d l4) := Lib.hid (by rw [HX2.out]; unfold superE1b; rw [hq4])
            have hl4 := twoP_len2 hq4
            have hd := (twoP_len hq4).2
            have hor := or_high hc.1 hc.2 hd.1 hd.2
            have c10 : w6.cell? ⟨rb, 10, none⟩ = some (.int .i64 0) := (hs6.cell 9).1
            have f10 : w6.frozen? ⟨rb, 10, none⟩ = false := (hs6.cell 9).2
            have HS7 : Hid (SrcAt (w6.setCell ⟨rb, 10, none⟩ (.int .i64 (c * 65536 + d))) rb N 206 (suCells 0 ep a b (c * 65536 + d) 0) l4) := Lib.hid (hs6.set 9 (.int .i64 (c * 65536 + d)))
            have HF7 := Lib.hid ((HF6.out.trans hf6).trans (Fr.setCell w6 ⟨rb, 10, none⟩ (.int .i64 (c * 65536 + d))))
            clear hq4 hf6 hs6
            obtain ⟨hc0, hc1⟩ := hc
            obtain ⟨hd0, hd1⟩ := hd
            go_wp2_with fail
            obtain ⟨W8, hW8⟩ : ∃ W, w6.setCell ⟨rb, 10, none⟩ (.int .i64 (c * 65536 + d)) = W := ⟨_, rfl⟩
            rw [hW8] at HS7 HF7 ⊢
            clear hW8 hor c10 f10
            obtain ⟨ct, hct⟩ : ∃ ct, c * 65536 + d = ct := ⟨_, rfl⟩
            rw [hct] at HS7
            have HCT := Lib.hid hct
            clear hct
            cases hq5 : twoP l4 with
            | none =>
              have HT8 := Lib.hid (two_r W8.drew (HS7.out.kept (Fr.refl [] _).drew) (by have := HL.out; omega) hq5)
              have HX : Hid (superP ep l = none) := Lib.hid (by rw [HX3.out]; unfold superE2; rw [hq5])
              have HQ5 := Lib.hid hq5
              clear hq5
              go_region_dies
              all_goals
                with_reducible refine HT8.out.mono ?_
                intro e w7 h7
                unfold twoR at h7
                rw [HQ5.out] at h7
                obtain ⟨rfl, hf⟩ := h7
                have HQ : Hid (PgPost w rb (superP ep l) gaveUp w7) := Lib.hid ⟨HF7.out.trans ((Fr.refl _ _).drew.trans hf), .inr ⟨HX.out, rfl⟩⟩
                clear hf HT8
                unfold gaveUp at *
                go_wp2_with fail
                exact ⟨rfl, HQ.out⟩
            | some r =>
              obtain ⟨h, l5⟩ := r
              have HT8 := Lib.hid (two_r W8.drew (HS7.out.kept (Fr.refl [] _).drew) (by have := HL.out; omega) hq5)
              have HX4 : Hid (superP ep l = superE3 ep a b c d h l5) := Lib.hid (by rw [HX3.out]; unfold superE2; rw [hq5])
              have HQ5 := Lib.hid hq5
              have hl5 := twoP_len2 hq5
              clear hq5
              cases hq6 : twoP l5 with
              | none =>
                have HX : Hid (superP ep l = none) := Lib.hid (by rw [HX4.out]; unfold superE3; rw [hq6])
                have HQ6 := Lib.hid hq6
                clear hq6
                go_region_with
                  (first
                  | (go_at_call 186
                     with_reducible refine HT8.out.mono ?_
                     intro e w7 h7
                     unfold twoR at h7
                     rw [HQ5.out] at h7
                     obtain ⟨rfl, hs7, hf⟩ := h7
                     have HF8 := Lib.hid (HF7.out.trans ((Fr.refl [rb] _).drew.trans hf))
                     have HT9 := Lib.hid (two_r w7 hs7 (by have := HL.out; omega) HQ6.out)
                     clear hs7 hf)
                  | (go_at_call 186
                     with_reducible refine HT9.out.mono ?_
                     intro e w9 h9
                     unfold twoR at h9
                     rw [HQ6.out] at h9
                     obtain ⟨rfl, hf2⟩ := h9
                     have HQ : Hid (PgPost w rb (superP ep l) gaveUp w9) := Lib.hid ⟨HF8.out.trans hf2, .inr ⟨HX.out, rfl⟩⟩
                     clear hf2
                     unfold gaveUp at *
                     go_wp2_with fail
                     suffices hdum : wpAny Tryz.prog (default : Region.Mode) #[] (fun _ _ _ => True) 0 #[] { tmps := #[], defers := [] } w9 from ⟨rfl, HQ.out⟩))
                all_goals trivial
              | some r =>
                obtain ⟨nx, l6⟩ := r
                have HX5 : Hid (superP ep l = some (pgSuper ep a b ct h nx)) := Lib.hid (by rw [HX4.out]; unfold superE3; rw [hq6, HCT.out])
                have HQ6 := Lib.hid hq6
                clear hq6
                go_region_held3 (fun _ => True) (trivial)
                  (first
                  | (go_at_call 186
                     with_reducible refine HT8.out.mono ?_
                     intro e w7 h7
                     unfold twoR at h7
                     rw [HQ5.out] at h7
                     obtain ⟨rfl, hs7, hf⟩ := h7
                     have HF8 := Lib.hid (HF7.out.trans ((Fr.refl [rb] _).drew.trans hf))
                     have HT9 := Lib.hid (two_r w7 hs7 (by have := HL.out; omega) HQ6.out)
                     clear hs7 hf)
                  | (go_at_call 186
                     with_reducible refine HT9.out.mono ?_
                     intro e w9 h9
                     unfold twoR at h9
                     rw [HQ6.out] at h9
                     obtain ⟨rfl, hs9, hf9⟩ := h9
                     have c8 : w9.cell? ⟨rb, 11, none⟩ = some (.int .i64 0) := (hs9.cell 10).1
                     have f8 : w9.frozen? ⟨rb, 11, none⟩ = false := (hs9.cell 10).2
                     have c9 : w9.cell? ⟨rb, 6, none⟩ = some (.int .i64 0) := (hs9.cell 5).1
                     have f9 : w9.frozen? ⟨rb, 6, none⟩ = false := (hs9.cell 5).2
                     have HS9 := Lib.hid hs9
                     have HF9 := Lib.hid (HF8.out.trans hf9)
                     clear hs9 hf9))
                all_goals
                  have HQ : Hid (∀ W4, (W4 = (w9.setCell ⟨rb, 11, none⟩ (.int .i64 h)).setCell ⟨rb, 6, none⟩ (.int .i64 nx) ∨ W4 = (w9.setCell ⟨rb, 6, none⟩ (.int .i64 nx)).setCell ⟨rb, 11, none⟩ (.int .i64 h)) → PgPost w rb (superP ep l) (.returned (.tuple #[])) W4) := Lib.hid (by
                    rw [HX5.out]
                    rintro W4 (rfl | rfl)
                    · exact superEnd ((HS9.out.set 10 (.int .i64 h)).set 5 (.int .i64 nx)) ((HF9.out.trans (Fr.setCell w9 ⟨rb, 11, none⟩ _)).trans (Fr.setCell _ ⟨rb, 6, none⟩ _))
                    · exact superEnd ((HS9.out.set 5 (.int .i64 nx)).set 10 (.int .i64 h)) ((HF9.out.trans (Fr.setCell w9 ⟨rb, 6, none⟩ _)).trans (Fr.setCell _ ⟨rb, 11, none⟩ _)))
                  clear HS9 HF9 c8 c9 f8 f9
                  go_wp2_with fail
                  go_end0
                  first
                    | exact HQ.out _ (.inl rfl)
                    | exact HQ.out _ (.inr rfl)
end Go.Proofs.YtgpohemcfgepeaaGreat
