/- a part. -/
import Derived.Test.YtgpohemcfgepeaaGreatG6
import Derived.Defers
import Derived.Recover
import Derived.WalkSpells
namespace Go.Proofs.YtgpohemcfgepeaaGreat
open Go.RowKit Go.MapKept
attribute [local go_sem] ldOp
def keysP : Nat → List ByteArray → List Int → List UInt8 → Option (List ByteArray × List Int)
  | 0, ks, gs, _ => some (ks, gs)
  | n + 1, ks, gs, l => if ks.length < 12 then (match textP l with | none => none | some (k, l1) => match twoP l1 with | none => none | some (g, l2) => keysP n (ks ++ [k]) (gs ++ [g]) l2) else none
theorem keysP_no {n : Nat} {ks : List ByteArray} {gs : List Int} {l : List UInt8} (h : ¬ ks.length < 12) : keysP (n + 1) ks gs l = none := by unfold keysP; rw [if_neg h]
theorem keysP_no1 {n : Nat} {ks : List ByteArray} {gs : List Int} {l : List UInt8} (h : textP l = none) : keysP (n + 1) ks gs l = none := by
  unfold keysP; rw [h]; simp
theorem keysP_no2 {n : Nat} {ks : List ByteArray} {gs : List Int} {l l1 : List UInt8} {k : ByteArray} (h : textP l = some (k, l1)) (h1 : twoP l1 = none) : keysP (n + 1) ks gs l = none := by
  unfold keysP; rw [h]; simp [h1]
theorem keysP_yes {n : Nat} {ks : List ByteArray} {gs : List Int} {l l1 l2 : List UInt8} {k : ByteArray} {g : Int} (h0 : ks.length < 12) (h : textP l = some (k, l1)) (h1 : twoP l1 = some (g, l2)) : keysP (n + 1) ks gs l = keysP n (ks ++ [k]) (gs ++ [g]) l2 := by
  conv => lhs; unfold keysP
  rw [if_pos h0, h]
  simp [h1]
def pgBranch (ep : Int) (x : List ByteArray × List Int) : PageD := ⟨2, [], x.1, x.2, [], 0, ep, 0, 0, 0, 0⟩
def branchE (ep : Int) (m : Nat) (l : List UInt8) : Option PageD := match twoP l with | none => none | some (g0, l2) => (keysP m [] [g0] l2).map (pgBranch ep)
def branchP (ep : Int) (l : List UInt8) : Option PageD := match twoP l with | none => none | some (n, l1) => branchE ep n.toNat l1
def brCells (kv dv : Value) (ep : Int) : List Value := [.int .i64 2, nilV, kv, dv, nilV, .int .i64 0, .int .u64 ep, .int .i64 0, .int .i64 0, .int .i64 0, .int .i64 0]
structure BrAt (N rb : Nat) (w : World) (ep : Int) (ks : List ByteArray) (gs : List Int) (kv dv : Value) (l : List UInt8) : Prop where
  src : SrcAt w rb N 206 (brCells kv dv ep) l
  rowK : w.ownsRow N 9 1 kv ks.length (ks.map Value.string)
  rowD : w.ownsRow N 3 1 dv gs.length (gs.map intV)
theorem BrAt.end {N rb : Nat} {w0 w : World} {ep : Int} {ks : List ByteArray} {gs : List Int} {kv dv : Value} {l : List UInt8} (h : BrAt N rb w ep ks gs kv dv l) (hf : Fr [rb] w0 w) (hw : w0.heap.size ≤ N) :
    PgPost w0 rb (some (pgBranch ep (ks, gs))) (.returned (.tuple #[])) w := by
  obtain ⟨sv, hb, _⟩ := h.src
  exact ⟨hf, .inl ⟨_, rfl, rfl, sv, nilV, kv, dv, nilV, hb, fun S hS => ⟨Slc.nil _ _, Slc.ofOwns (S := S) h.rowK (fun x hx => Nat.lt_of_lt_of_le (hS x hx) hw), Slc.ofOwns (S := S) h.rowD (fun x hx => Nat.lt_of_lt_of_le (hS x hx) hw), Slc.nil _ _⟩⟩⟩
theorem rowsApart {w w' : World} {N e1 e2 s1 s2 n1 n2 : Nat} {v1 v2 : Value} {x1 x2 : List Value} (h1 : w.ownsRow N e1 s1 v1 n1 x1) (h2 : w.ownsRow N e2 s2 v2 n2 x2) (hne : e1 ≠ e2) (hf : Fr v1.ownBlock.toList w w') : w'.ownsRow N e2 s2 v2 n2 x2 := by
  refine ownsKept h2 hf (fun k hk hm => ?_)
  rcases h1.2 with ⟨rfl, _⟩ | ⟨g, cap, cur, rfl, _, hg, _⟩
  · simp [Value.ownBlock] at hm
  · rcases h2.2 with ⟨rfl, _⟩ | ⟨g2, cap2, cur2, rfl, _, hg2, _⟩
    · simp [Value.ownBlock] at hk
    · simp only [Value.ownBlock, Option.toList_some, List.mem_singleton, Option.some.injEq] at hm hk
      subst hk
      rw [hm, hg] at hg2
      cases hg2
      exact hne rfl
theorem rowNot {w : World} {N e s n rb : Nat} {v : Value} {x : List Value} (h : w.ownsRow N e s v n x) (hN : rb < N) : (∀ k, v.ownBlock = some k → k ∉ [rb]) ∧ rb ∉ v.ownBlock.toList ∧ ∀ x, x ∈ v.ownBlock.toList → N ≤ x := by
  refine ⟨fun k hk hm => ?_, fun hm => ?_, fun x hx => ?_⟩
  · have := (h.lt k hk).1
    have h4 : k = rb := by simpa using hm
    omega
  · cases hb : v.ownBlock with
    | none => rw [hb] at hm; cases hm
    | some g =>
      rw [hb] at hm
      have h1 := (h.lt g hb).1
      rw [Option.toList_some, List.mem_singleton] at hm
      omega
  · cases hb : v.ownBlock with
    | none => rw [hb] at hx; cases hx
    | some g => rw [hb] at hx; rw [List.mem_singleton.1 hx]; exact (h.lt g hb).1
theorem BrAt.kid {N rb : Nat} {w w3 w5 : World} {ep : Int} {ks : List ByteArray} {gs : List Int} {kv dv : Value} {l l4 : List UInt8} {g : Int} {pa5 : Option Addr} {pc5 : Nat} (h : BrAt N rb w ep ks gs kv dv l) (hN : rb < N) (hs3 : SrcAt w3 rb N 206 (brCells kv dv ep) l4) (hf3 : Fr [rb] w w3)
    (ho5 : w5.ownsRow N 3 1 (.slice pa5 (gs.length + 1) pc5) (gs.length + 1) (gs.map intV ++ [.int .i64 g])) (hf5 : Fr dv.ownBlock.toList (w3.alloc (.cells #[.int .i64 g] 3)) w5) :
    BrAt N rb (w5.setCell ⟨rb, 4, none⟩ (.slice pa5 (gs.length + 1) pc5)) ep ks (gs ++ [g]) kv (.slice pa5 (gs.length + 1) pc5) l4 := by
  have hr := rowNot h.rowD hN
  have hfs := Fr.setCell w5 ⟨rb, 4, none⟩ (.slice pa5 (gs.length + 1) pc5)
  have hal := Fr.alloc1 w3 (.cells #[.int .i64 g] 3)
  have hD := ownsKept (ownsKept h.rowD hf3 hr.1) hal (by simp)
  have hK := ownsKept (ownsKept h.rowK hf3 (rowNot h.rowK hN).1) hal (by simp)
  refine ⟨((hs3.kept hal).grown hf5 hr.2.2 hN).set 3 _, ownsKept (rowsApart hD hK (by decide) hf5) hfs (rowNot h.rowK hN).1, ?_⟩
  rw [List.map_append, List.length_append]
  exact ownsKept ho5 hfs (rowNot ho5 hN).1
theorem BrAt.key {N rb : Nat} {w w3 w5 : World} {ep : Int} {ks : List ByteArray} {gs : List Int} {kv dv : Value} {l l4 : List UInt8} {x : ByteArray} {pa5 : Option Addr} {pc5 : Nat} (h : BrAt N rb w ep ks gs kv dv l) (hN : rb < N) (hs3 : SrcAt w3 rb N 206 (brCells kv dv ep) l4) (hf3 : Fr [rb] w w3)
    (ho5 : w5.ownsRow N 9 1 (.slice pa5 (ks.length + 1) pc5) (ks.length + 1) (ks.map Value.string ++ [.string x])) (hf5 : Fr kv.ownBlock.toList (w3.alloc (.cells #[.string x] 9)) w5) :
    BrAt N rb (w5.setCell ⟨rb, 3, none⟩ (.slice pa5 (ks.length + 1) pc5)) ep (ks ++ [x]) gs (.slice pa5 (ks.length + 1) pc5) dv l4 := by
  have hr := rowNot h.rowK hN
  have hfs := Fr.setCell w5 ⟨rb, 3, none⟩ (.slice pa5 (ks.length + 1) pc5)
  have hal := Fr.alloc1 w3 (.cells #[.string x] 9)
  have hD := ownsKept (ownsKept h.rowD hf3 (rowNot h.rowD hN).1) hal (by simp)
  have hK := ownsKept (ownsKept h.rowK hf3 hr.1) hal (by simp)
  refine ⟨((hs3.kept hal).grown hf5 hr.2.2 hN).set 2 _, ?_, ownsKept (rowsApart hK hD (by decide) hf5) hfs (rowNot h.rowD hN).1⟩
  rw [List.map_append, List.length_append]
  exact ownsKept ho5 hfs (rowNot ho5 hN).1
theorem grownFr {N rb : Nat} {w w3 w5 : World} {e s n : Nat} {v v5 : Value} {xs : List Value} {o : Obj} {i : Nat} (h : w.ownsRow N e s v n xs) (hN : rb < N) (hf : Fr [rb] w w3) (hf5 : Fr v.ownBlock.toList (w3.alloc o) w5) {w0 : World} (h0 : Fr [rb] w0 w) (hw : N = w0.heap.size) :
    Fr [rb] w0 (w5.setCell ⟨rb, i, none⟩ v5) :=
  (((h0.trans hf).trans (Fr.alloc1 w3 o).nil).andThen hf5 (fun x hx => .inr (by have := (rowNot h hN).2.2 x hx; omega))).trans (Fr.setCell w5 ⟨rb, i, none⟩ v5)
set_option maxRecDepth 100000 in
set_option maxHeartbeats 2000000 in
theorem page_branch {rb N : Nat} {l : List UInt8} {ep : Int} (w : World) (hs : SrcAt w rb N 206 [.int .i64 0, nilV, nilV, nilV, nilV, .int .i64 0, .int .u64 ep, .int .i64 0, .int .i64 0, .int .i64 0, .int .i64 0] l)
    (hN : rb < N) (hN2 : N = w.heap.size) (hl : l.length ≤ 100000) :
    Calls Tryz.prog 150 #[.pointer (some ⟨rb, 0, none⟩), .int .i64 2] w (PgPost w rb (branchP ep l)) := by
  have hs1 : SrcAt (w.setCell ⟨rb, 1, none⟩ (.int .i64 2)) rb N 206 (brCells nilV nilV ep) l := hs.set 0 (.int .i64 2)
  have f1 : w.frozen? ⟨rb, 1, none⟩ = false := (hs.cell 0).2
  have c1 : w.cell? ⟨rb, 1, none⟩ = some (.int .i64 0) := (hs.cell 0).1
  have HF1 := Lib.hid (Fr.setCell w ⟨rb, 1, none⟩ (.int .i64 2))
  have HT := Lib.hid (two_r _ hs1 (by omega) rfl)
  have HN2 := Lib.hid (And.intro hN hN2)
  have HL := Lib.hid hl
  clear hs hs1 hN hN2 hl
  go_enter Tryz.func150, Tryz.ntmps150
  go_wp2_with fail
  with_reducible refine HT.out.mono ?_
  intro e w1 h1
  unfold twoR at h1
  cases hq1 : twoP l with
  | none =>
    rw [hq1] at h1
    obtain ⟨rfl, hf⟩ := h1
    have HQ : Hid (PgPost w rb (branchP ep l) gaveUp w1) := Lib.hid ⟨HF1.out.trans hf, .inr ⟨by unfold branchP; rw [hq1], rfl⟩⟩
    clear hf HT
    unfold gaveUp at *
    go_wp2_with fail
    exact ⟨rfl, HQ.out⟩
  | some r =>
    obtain ⟨n, l1⟩ := r
    rw [hq1] at h1
    obtain ⟨rfl, hs1, hf1⟩ := h1
    obtain ⟨hl1, hn0, hn1⟩ := twoP_len hq1
    obtain ⟨m, rfl⟩ : ∃ m : Nat, n = (m : Int) := ⟨n.toNat, by omega⟩
    have HX : Hid (branchP ep l = branchE ep m l1) := Lib.hid (by unfold branchP; rw [hq1]; rfl)
    have HF := Lib.hid (HF1.out.trans hf1)
    have HAT : Hid (BrAt N rb w1 ep [] [] nilV nilV l1) := Lib.hid ⟨hs1, World.ownsRow_nil _ _ _ _, World.ownsRow_nil _ _ _ _⟩
    have c3 : w1.cell? ⟨rb, 4, none⟩ = some (.slice none 0 0) := (hs1.cell 3).1
    have f3 : w1.frozen? ⟨rb, 4, none⟩ = false := (hs1.cell 3).2
    have hmI : (m : Int) < 65536 := hn1
    have HLL : Hid (l1.length ≤ 100000) := Lib.hid (by have := HL.out; omega)
    clear hq1 hs1 hf1 hl1 hn1 c1 f1 HT
    cases hq2 : twoP l1 with
    | none =>
      have HT := Lib.hid (two_r w1.drew (HAT.out.src.kept (Fr.refl [] _).drew) (by have := HLL.out; omega) hq2)
      have HX2 : Hid (branchP ep l = none) := Lib.hid (by rw [HX.out]; unfold branchE; rw [hq2])
      have HQ2 := Lib.hid hq2
      clear hq2
      go_wp2_with fail
      go_region_dies
      all_goals
        with_reducible refine HT.out.mono ?_
        intro e x3 h3
        unfold twoR at h3
        rw [HQ2.out] at h3
        obtain ⟨rfl, hf3⟩ := h3
        have HQ : Hid (PgPost w rb (branchP ep l) gaveUp x3) := Lib.hid ⟨HF.out.trans ((Fr.refl _ _).drew.trans hf3), .inr ⟨HX2.out, rfl⟩⟩
        clear hf3
        unfold gaveUp at *
        go_wp2_with fail
        exact ⟨rfl, HQ.out⟩
    | some r =>
      obtain ⟨g0, l2⟩ := r
      have HT := Lib.hid (two_r w1.drew (HAT.out.src.kept (Fr.refl [] _).drew) (by have := HLL.out; omega) hq2)
      obtain ⟨R, hR⟩ : ∃ R, keysP m [] [g0] l2 = R := ⟨_, rfl⟩
      have HX2 : Hid (branchP ep l = R.map (pgBranch ep)) := Lib.hid (by rw [HX.out]; unfold branchE; rw [hq2]; simp only; rw [hR])
      have HR := Lib.hid hR
      have HL2 : Hid (l2.length ≤ 100000) := Lib.hid (by have := twoP_len2 hq2; have := HLL.out; omega)
      have HQ2 := Lib.hid hq2
      clear hq2 hR
      go_wp2_with fail
      go_cut [] from 57 to 71 (fun wr => ∃ dv', BrAt N rb wr ep [] [g0] nilV dv' l2 ∧ Fr [rb] w wr)
      case first =>
        rw [show Op.load 70 (.tmp 61) = ldOp 70 61 from rfl]
        go_region_held3 (fun _ => True) (trivial)
          (first
          | (go_at_call 186
             with_reducible refine HT.out.mono ?_
             intro e x3 h3
             unfold twoR at h3
             rw [HQ2.out] at h3
             obtain ⟨rfl, hs3, hf3⟩ := h3
             have hf3' := (Fr.refl [rb] _).drew.trans hf3
             have HF3 := Lib.hid hf3'
             have HS3 := Lib.hid hs3
             have c4 : x3.cell? ⟨rb, 4, none⟩ = some (.slice none 0 0) := (hs3.cell 3).1
             have f4 : x3.frozen? ⟨rb, 4, none⟩ = false := (hs3.cell 3).2
             have hal3 := Fr.alloc1 x3 (.cells #[.int .i64 g0] 3)
             have HRW3 := Lib.hid (ownsKept (ownsKept HAT.out.rowD hf3' (rowNot HAT.out.rowD HN2.out.1).1) hal3 (by simp))
             have c5 := hal3.cellSome c4 (by simp)
             clear hf3 hs3 hf3')
          | (refine step_append_slc (S := []) rfl _ _ _ rfl Tryz.underlying70 Tryz.info3i rfl (by decide) rfl HRW3.out rfl (Slc.ofBlock (blk_new x3 (.cells #[.int .i64 g0] 3)) (by simp) 1 1 (Nat.le_refl _)) (by simp) (by simp [Value.oneCell']) rfl (by unfold maxLen; first | omega | (simp; done)) (by first | omega | (simp; done)) (by have h1 := HN2.out.2; have h2 := HF.out.size; have h3 := HF3.out.size; simp; omega) ?_
             intro v5 x5 ho5 hf5 _
             obtain ⟨pa5, pc5, rfl, _⟩ := (Slc.ofOwns (S := []) ho5 (by simp)).form
             have HO5 := Lib.hid ho5
             have hrb5 := (rowNot HRW3.out HN2.out.1).2.1
             have c6 := hf5.cellSome c5 hrb5
             have f6 : x5.frozen? ⟨rb, 4, none⟩ = false := by
               rw [hf5.frozen (lt_of_cell c5) hrb5, hal3.frozen (lt_of_cell c4) (by simp)]
               exact f4
             have HF5 := Lib.hid hf5
             clear ho5 hf5 hrb5))
        all_goals
          have HBR : Hid (BrAt N rb (x5.setCell ⟨rb, 4, none⟩ (.slice pa5 1 pc5)) ep [] [g0] nilV (.slice pa5 1 pc5) l2) := Lib.hid (HAT.out.kid HN2.out.1 HS3.out HF3.out HO5.out HF5.out)
          have HFR2 : Hid (Fr [rb] w (x5.setCell ⟨rb, 4, none⟩ (.slice pa5 1 pc5))) := Lib.hid (grownFr (i := 4) HAT.out.rowD HN2.out.1 HF3.out HF5.out HF.out HN2.out.2)
          clear HO5 HF5 HS3 HF3 HRW3 c3 f3 c4 f4 c5 c6 f6 HAT HT
          go_wp2_with fail
          go_meet
          exact ⟨_, HBR.out, HFR2.out⟩
      case rest =>
        obtain ⟨dv', hbr, hfr2⟩ := hcut
        have HBR := Lib.hid hbr
        have HFR2 := Lib.hid hfr2
        clear hbr hfr2 c3 f3 HAT HT
        go_wp2_with fail
        go_loopw [73] (fun i wr => ∃ k : Nat, i = .int .i64 k ∧ k ≤ m ∧ ∃ ks gs kv dv l3, BrAt N rb wr ep ks gs kv dv l3 ∧ ks.length ≤ 12 ∧ gs.length = ks.length + 1 ∧ l3.length ≤ 100000 ∧ keysP (m - k) ks gs l3 = R ∧ Fr [rb] w wr) (fun i _ => m - (intOf i).toNat)
        case atStart => exact ⟨0, rfl, Nat.zero_le _, [], [g0], nilV, _, l2, HBR.out, by simp, rfl, HL2.out, HR.out, HFR2.out⟩
        case round =>
          obtain ⟨k, rfl, hkm, ks, gs, kv, dv, l3, hat, h12, hgs, hll, hR, hfr⟩ := hrel
          by_cases hlt : k < m
          · obtain ⟨j, hj⟩ : ∃ j, m - k = j + 1 := ⟨m - k - 1, by omega⟩
            rw [hj] at hR
            have hj2 : m - (k + 1) = j := by omega
            have hkI : (k : Int) < (m : Int) := by omega
            obtain ⟨ka, kc, rfl, hkc⟩ := (Slc.ofOwns (S := []) hat.rowK (by simp)).form
            have c3 : wr.cell? ⟨rb, 3, none⟩ = some (.slice ka ks.length kc) := (hat.src.cell 2).1
            have f3 : wr.frozen? ⟨rb, 3, none⟩ = false := (hat.src.cell 2).2
            have h12I : (ks.length : Int) ≤ 12 := by omega
            have HFR := Lib.hid hfr
            have HATR := Lib.hid hat
            have HRR := Lib.hid hR
            have HGS := Lib.hid hgs
            clear hgs hj
            by_cases h6' : ks.length < 12
            · have hd6 : decide ((ks.length : Int) < 12) = true := by simp; omega
              have HAC := Lib.hid h6'
              have HTX := Lib.hid (text_r wr.drew (hat.src.kept (Fr.refl [] _).drew) (by omega))
              cases hq3 : textP l3 with
              | none =>
                have HX3 : Hid (branchP ep l = none) := Lib.hid (by rw [HX2.out, ← hR, keysP_no1 hq3]; rfl)
                have HQ3 := Lib.hid hq3
                clear hat hfr hR hq3
                go_wp2_with fail
                refine (needs_yes _).mono ?_
                rintro e w2 ⟨rfl, rfl⟩
                go_wp2_with fail
                go_region_dies
                all_goals
                  with_reducible refine HTX.out.mono ?_
                  intro e x3 h3
                  unfold textR at h3
                  rw [HQ3.out] at h3
                  obtain ⟨rfl, hf3⟩ := h3
                  have HQ : Hid (PgPost w rb (branchP ep l) gaveUp x3) := Lib.hid ⟨HFR.out.trans ((Fr.refl _ _).drew.trans hf3), .inr ⟨HX3.out, rfl⟩⟩
                  clear hf3
                  unfold gaveUp at *
                  go_wp2_with fail
                  exact ⟨rfl, HQ.out⟩
              | some r =>
                obtain ⟨kk, l4⟩ := r
                have HQ3 := Lib.hid hq3
                have hl4 := textP_len hq3
                clear hat hfr hR hq3
                go_wp2_with fail
                refine (needs_yes _).mono ?_
                rintro e w2 ⟨rfl, rfl⟩
                go_wp2_with fail
                go_cut [] from 83 to 97 (fun wx => ∃ kv', BrAt N rb wx ep (ks ++ [kk]) gs kv' dv l4 ∧ Fr [rb] w wx)
                case first =>
                  rw [show Op.load 53 (.tmp 87) = ldOp 53 87 from rfl]
                  go_region_held3 (fun _ => True) (trivial)
                    (first
                    | (go_at_call 187
                       with_reducible refine HTX.out.mono ?_
                       intro e x3 h3
                       unfold textR at h3
                       rw [HQ3.out] at h3
                       obtain ⟨rfl, hs3, hf3⟩ := h3
                       have hf3' := (Fr.refl [rb] _).drew.trans hf3
                       have HF3 := Lib.hid hf3'
                       have HS3 := Lib.hid hs3
                       have c4 : x3.cell? ⟨rb, 3, none⟩ = some (.slice ka ks.length kc) := (hs3.cell 2).1
                       have f4 : x3.frozen? ⟨rb, 3, none⟩ = false := (hs3.cell 2).2
                       have hal3 := Fr.alloc1 x3 (.cells #[.string kk] 9)
                       have HRW3 := Lib.hid (ownsKept (ownsKept HATR.out.rowK hf3' (rowNot HATR.out.rowK HN2.out.1).1) hal3 (by simp))
                       have c5 := hal3.cellSome c4 (by simp)
                       clear hf3 hs3 hf3')
                    | (refine step_append_slc (S := []) rfl _ _ _ rfl Tryz.underlying53 Tryz.infoStr rfl (by decide) rfl HRW3.out rfl (Slc.ofBlock (blk_new x3 (.cells #[.string kk] 9)) (by simp) 1 1 (Nat.le_refl _)) (by simp) (by simp [Value.oneCell']) rfl (by unfold maxLen; first | omega | (simp; done)) (by first | omega | (simp; done)) (by have h1 := HN2.out.2; have h2 := HFR.out.size; have h3 := HF3.out.size; simp; omega) ?_
                       intro v5 x5 ho5 hf5 _
                       obtain ⟨pa5, pc5, rfl, _⟩ := (Slc.ofOwns (S := []) ho5 (by simp)).form
                       have HO5 := Lib.hid ho5
                       have hrb5 := (rowNot HRW3.out HN2.out.1).2.1
                       have c6 := hf5.cellSome c5 hrb5
                       have f6 : x5.frozen? ⟨rb, 3, none⟩ = false := by
                         rw [hf5.frozen (lt_of_cell c5) hrb5, hal3.frozen (lt_of_cell c4) (by simp)]
                         exact f4
                       have HF5 := Lib.hid hf5
                       clear ho5 hf5 hrb5))
                  all_goals
                    have HBK : Hid (BrAt N rb (x5.setCell ⟨rb, 3, none⟩ (.slice pa5 (ks.length + 1) pc5)) ep (ks ++ [kk]) gs (.slice pa5 (ks.length + 1) pc5) dv l4) := Lib.hid (HATR.out.key HN2.out.1 HS3.out HF3.out HO5.out HF5.out)
                    have HFK : Hid (Fr [rb] w (x5.setCell ⟨rb, 3, none⟩ (.slice pa5 (ks.length + 1) pc5))) := Lib.hid (grownFr (i := 3) HATR.out.rowK HN2.out.1 HF3.out HF5.out HFR.out HN2.out.2)
                    clear HO5 HF5 HS3 HF3 HRW3 c3 f3 c4 f4 c5 c6 f6 HATR HTX HFR
                    go_wp2_with fail
                    go_meet
                    exact ⟨_, HBK.out, HFK.out⟩
                case rest =>
                  obtain ⟨kv', hbk, hfk⟩ := hcut
                  have HBK := Lib.hid hbk
                  have HFK := Lib.hid hfk
                  obtain ⟨da, dc, hdv, hdc⟩ := (Slc.ofOwns (S := []) hbk.rowD (by simp)).form
                  subst hdv
                  clear hbk hfk c3 f3 HATR HTX HFR
                  have c3 : wc.cell? ⟨rb, 4, none⟩ = some (.slice da gs.length dc) := (HBK.out.src.cell 3).1
                  have f3 : wc.frozen? ⟨rb, 4, none⟩ = false := (HBK.out.src.cell 3).2
                  have hgl : gs.length ≤ 13 := by have := HGS.out; omega
                  go_wp2_with fail
                  have HT := Lib.hid (two_r wc.drew (HBK.out.src.kept (Fr.refl [] _).drew) (by omega) rfl)
                  cases hq4 : twoP l4 with
                  | none =>
                    have HX3 : Hid (branchP ep l = none) := Lib.hid (by rw [HX2.out, ← HRR.out, keysP_no2 HQ3.out hq4]; rfl)
                    have HQ4 := Lib.hid hq4
                    clear hq4
                    go_region_dies
                    all_goals
                      with_reducible refine HT.out.mono ?_
                      intro e x3 h3
                      unfold twoR at h3
                      rw [HQ4.out] at h3
                      obtain ⟨rfl, hf3⟩ := h3
                      have HQ : Hid (PgPost w rb (branchP ep l) gaveUp x3) := Lib.hid ⟨HFK.out.trans ((Fr.refl _ _).drew.trans hf3), .inr ⟨HX3.out, rfl⟩⟩
                      clear hf3
                      unfold gaveUp at *
                      go_wp2_with fail
                      exact ⟨rfl, HQ.out⟩
                  | some r =>
                    obtain ⟨gg, l5⟩ := r
                    have HR2 : Hid (keysP j (ks ++ [kk]) (gs ++ [gg]) l5 = R) := Lib.hid (by rw [← HRR.out, keysP_yes HAC.out HQ3.out hq4])
                    have HQ4 := Lib.hid hq4
                    have hl5 := twoP_len2 hq4
                    clear hq4
                    rw [show Op.load 70 (.tmp 102) = ldOp 70 102 from rfl]
                    go_region_held3 (fun _ => True) (trivial)
                      (first
                      | (go_at_call 186
                         with_reducible refine HT.out.mono ?_
                         intro e x3 h3
                         unfold twoR at h3
                         rw [HQ4.out] at h3
                         obtain ⟨rfl, hs3, hf3⟩ := h3
                         have hf3' := (Fr.refl [rb] _).drew.trans hf3
                         have HF3 := Lib.hid hf3'
                         have HS3 := Lib.hid hs3
                         have c4 : x3.cell? ⟨rb, 4, none⟩ = some (.slice da gs.length dc) := (hs3.cell 3).1
                         have f4 : x3.frozen? ⟨rb, 4, none⟩ = false := (hs3.cell 3).2
                         have hal3 := Fr.alloc1 x3 (.cells #[.int .i64 gg] 3)
                         have HRW3 := Lib.hid (ownsKept (ownsKept HBK.out.rowD hf3' (rowNot HBK.out.rowD HN2.out.1).1) hal3 (by simp))
                         have c5 := hal3.cellSome c4 (by simp)
                         clear hf3 hs3 hf3')
                      | (refine step_append_slc (S := []) rfl _ _ _ rfl Tryz.underlying70 Tryz.info3i rfl (by decide) rfl HRW3.out rfl (Slc.ofBlock (blk_new x3 (.cells #[.int .i64 gg] 3)) (by simp) 1 1 (Nat.le_refl _)) (by simp) (by simp [Value.oneCell']) rfl (by unfold maxLen; first | omega | (simp; done)) (by first | omega | (simp; done)) (by have h1 := HN2.out.2; have h2 := HFK.out.size; have h3 := HF3.out.size; simp; omega) ?_
                         intro v5 x5 ho5 hf5 _
                         obtain ⟨pa5, pc5, rfl, _⟩ := (Slc.ofOwns (S := []) ho5 (by simp)).form
                         have HO5 := Lib.hid ho5
                         have hrb5 := (rowNot HRW3.out HN2.out.1).2.1
                         have c6 := hf5.cellSome c5 hrb5
                         have f6 : x5.frozen? ⟨rb, 4, none⟩ = false := by
                           rw [hf5.frozen (lt_of_cell c5) hrb5, hal3.frozen (lt_of_cell c4) (by simp)]
                           exact f4
                         have HF5 := Lib.hid hf5
                         clear ho5 hf5 hrb5))
                    all_goals
                      have HBK2 : Hid (BrAt N rb (x5.setCell ⟨rb, 4, none⟩ (.slice pa5 (gs.length + 1) pc5)) ep (ks ++ [kk]) (gs ++ [gg]) _ (.slice pa5 (gs.length + 1) pc5) l5) := Lib.hid (HBK.out.kid HN2.out.1 HS3.out HF3.out HO5.out HF5.out)
                      have HFK2 : Hid (Fr [rb] w (x5.setCell ⟨rb, 4, none⟩ (.slice pa5 (gs.length + 1) pc5))) := Lib.hid (grownFr (i := 4) HBK.out.rowD HN2.out.1 HF3.out HF5.out HFK.out HN2.out.2)
                      clear HO5 HF5 HS3 HF3 HRW3 c3 f3 c4 f4 c5 c6 f6 HBK HT HFK
                      go_wp2
                      go_roundw
                      case rel => exact ⟨k + 1, by go_num, by omega, ks ++ [kk], gs ++ [gg], _, _, l5, HBK2.out, by have := HAC.out; simp; omega, by have := HGS.out; simp; omega, by omega, by rw [hj2]; exact HR2.out, HFK2.out⟩
                      case measure => simp [intOf]; omega
            · have hd6 : decide ((ks.length : Int) < 12) = false := by simp; omega
              have HQ : Hid (PgPost w rb (branchP ep l) gaveUp wr) := Lib.hid ⟨hfr, .inr ⟨by rw [HX2.out, ← hR, keysP_no h6']; rfl, rfl⟩⟩
              clear hat hfr hR
              go_wp2_with fail
              refine (needs_no _).mono ?_
              rintro e w2 ⟨rfl, rfl⟩
              unfold gaveUp at *
              go_wp2_with fail
              exact ⟨rfl, HQ.out⟩
          · obtain rfl : k = m := by omega
            rw [Nat.sub_self] at hR
            have HQ : Hid (PgPost w rb (branchP ep l) (.returned (.tuple #[])) wr) := Lib.hid (by rw [HX2.out, ← hR]; exact hat.end hfr (by have := HN2.out.2; omega))
            clear hat hfr hR
            go_wp2
            go_end0
            exact HQ.out
end Go.Proofs.YtgpohemcfgepeaaGreat

namespace Go.Proofs.YtgpohemcfgepeaaGreat
open Go.RowKit Go.MapKept
def pgOther (k ep : Int) : PageD := ⟨k, [], [], [], [], 0, ep, 0, 0, 0, 0⟩
set_option maxRecDepth 100000 in
set_option maxHeartbeats 1000000 in
theorem page_other {rb N : Nat} {l : List UInt8} {k ep : Int} (w : World) (hs : SrcAt w rb N 206 [.int .i64 0, nilV, nilV, nilV, nilV, .int .i64 0, .int .u64 ep, .int .i64 0, .int .i64 0, .int .i64 0, .int .i64 0] l)
    (k1 : k ≠ 1) (k2 : k ≠ 2) (k3 : k ≠ 3) (k4 : k ≠ 4) :
    Calls Tryz.prog 150 #[.pointer (some ⟨rb, 0, none⟩), .int .i64 k] w (PgPost w rb (some (pgOther k ep))) := by
  have hs1 := hs.set 0 (.int .i64 k)
  have f1 : w.frozen? ⟨rb, 1, none⟩ = false := (hs.cell 0).2
  have c1 : w.cell? ⟨rb, 1, none⟩ = some (.int .i64 0) := (hs.cell 0).1
  have HQ : Hid (PgPost w rb (some (pgOther k ep)) (.returned (.tuple #[])) (w.setCell ⟨rb, 1, none⟩ (.int .i64 k))) := Lib.hid (by
    obtain ⟨sv, hb, _⟩ := hs1
    exact ⟨Fr.setCell w ⟨rb, 1, none⟩ (.int .i64 k), .inl ⟨_, rfl, rfl, sv, nilV, nilV, nilV, nilV, hb, fun S _ => ⟨Slc.nil _ _, Slc.nil _ _, Slc.nil _ _, Slc.nil _ _⟩⟩⟩)
  have b1 : (k == 1) = false := by simpa using k1
  have b2 : (k == 2) = false := by simpa using k2
  have b3 : (k == 3) = false := by simpa using k3
  have b4 : (k == 4) = false := by simpa using k4
  clear hs hs1
  go_enter Tryz.func150, Tryz.ntmps150
  go_wp2
  go_end0
  exact HQ.out
def pageP (ep k : Int) (l : List UInt8) : Option PageD :=
  if k = 1 then (match twoP l with | some (n, l') => (pairsP n.toNat [] l').map (pgLeaf ep) | none => none)
  else if k = 2 then branchP ep l
  else if k = 3 then freeP ep l
  else if k = 4 then superP ep l
  else some (pgOther k ep)
theorem page_k {rb N : Nat} {l : List UInt8} {k ep : Int} (w : World) (hs : SrcAt w rb N 206 [.int .i64 0, nilV, nilV, nilV, nilV, .int .i64 0, .int .u64 ep, .int .i64 0, .int .i64 0, .int .i64 0, .int .i64 0] l)
    (hN : rb < N) (hN2 : N = w.heap.size) (hl : l.length ≤ 100000) :
    Calls Tryz.prog 150 #[.pointer (some ⟨rb, 0, none⟩), .int .i64 k] w (PgPost w rb (pageP ep k l)) := by
  unfold pageP
  by_cases k1 : k = 1
  · subst k1; rw [if_pos rfl]; exact page_leaf w hs hN hN2 hl
  rw [if_neg k1]
  by_cases k2 : k = 2
  · subst k2; rw [if_pos rfl]; exact page_branch w hs hN hN2 hl
  rw [if_neg k2]
  by_cases k3 : k = 3
  · subst k3; rw [if_pos rfl]; exact page_free w hs hN hN2 hl
  rw [if_neg k3]
  by_cases k4 : k = 4
  · subst k4; rw [if_pos rfl]; exact page_super w hs hl
  rw [if_neg k4]
  exact page_other w hs k1 k2 k3 k4
set_option maxRecDepth 100000 in
theorem caught_nil (w : World) : Calls Tryz.prog 147 #[.nilIface] w fun e w' => e = .returned (.int .i64 0) ∧ w = w' := by
  have hn : ∀ w : World, (binOp BinOp.eql 20 .nilIface .nilIface).run Tryz.prog w = .ok (.bool true) w := fun _ => by kernel_rfl
  go_enter Tryz.func147, Tryz.ntmps147
  go_wp2
  go_ret
  exact ⟨rfl, rfl⟩
set_option maxRecDepth 100000 in
theorem caught_err (w : World) : Calls Tryz.prog 147 #[.iface 39 (.int .i64 50)] w fun e w' => e = .returned (.int .i64 50) ∧ w = w' := by
  have hn : ∀ w : World, (binOp BinOp.eql 20 (.iface 39 (.int .i64 50)) .nilIface).run Tryz.prog w = .ok (.bool false) w := fun _ => by kernel_rfl
  have ht : ∀ w : World, (Instr.typeAssert (.iface 39 (.int .i64 50)) 20 39 true).run Tryz.prog w = .ok (.tuple #[.int .i64 50, .bool true]) w := fun _ => by kernel_rfl
  go_enter Tryz.func147, Tryz.ntmps147
  go_wp2
  go_ret
  exact ⟨rfl, rfl⟩
def zeroPage : List Value := [.int .i64 0, nilV, nilV, nilV, nilV, .int .i64 0, .int .u64 0, .int .i64 0, .int .i64 0, .int .i64 0, .int .i64 0]
def setsL : List Value → Nat → List Value → List Value
  | cs, _, [] => cs
  | cs, o, v :: r => setsL (cs.set o v) (o + 1) r
theorem blk_setCells {b : Nat} {T : TypeId} : ∀ (vs : List Value) (o : Nat) (w : World) (cs : List Value), w.heap[b]? = some (.cells cs.toArray T (0, 0)) → (w.setCells b o vs).heap[b]? = some (.cells (setsL cs o vs).toArray T (0, 0))
  | [], _, _, _, h => h
  | v :: r, o, w, cs, h => blk_setCells r (o + 1) _ (cs.set o v) (by rw [blk_set h o v]; simp)
theorem set11 {w : World} {b : Nat} {T : TypeId} {pc : List Value} (h : w.heap[b]? = some (.cells pc.toArray T (0, 0))) (hl : pc.length = 11) (x0 x1 x2 x3 x4 x5 x6 x7 x8 x9 x10 : Value) :
    ((((((((((((w).setCell ⟨b, 0, none⟩ x0).setCell ⟨b, 1, none⟩ x1).setCell ⟨b, 2, none⟩ x2).setCell ⟨b, 3, none⟩ x3).setCell ⟨b, 4, none⟩ x4).setCell ⟨b, 5, none⟩ x5).setCell ⟨b, 6, none⟩ x6).setCell ⟨b, 7, none⟩ x7).setCell ⟨b, 8, none⟩ x8).setCell ⟨b, 9, none⟩ x9).setCell ⟨b, 10, none⟩ x10).heap[b]? = some (.cells [x0, x1, x2, x3, x4, x5, x6, x7, x8, x9, x10].toArray T (0, 0)) ∧ Fr [b] w ((((((((((((w).setCell ⟨b, 0, none⟩ x0).setCell ⟨b, 1, none⟩ x1).setCell ⟨b, 2, none⟩ x2).setCell ⟨b, 3, none⟩ x3).setCell ⟨b, 4, none⟩ x4).setCell ⟨b, 5, none⟩ x5).setCell ⟨b, 6, none⟩ x6).setCell ⟨b, 7, none⟩ x7).setCell ⟨b, 8, none⟩ x8).setCell ⟨b, 9, none⟩ x9).setCell ⟨b, 10, none⟩ x10) := by
  have e : (((((((((((w).setCell ⟨b, 0, none⟩ x0).setCell ⟨b, 1, none⟩ x1).setCell ⟨b, 2, none⟩ x2).setCell ⟨b, 3, none⟩ x3).setCell ⟨b, 4, none⟩ x4).setCell ⟨b, 5, none⟩ x5).setCell ⟨b, 6, none⟩ x6).setCell ⟨b, 7, none⟩ x7).setCell ⟨b, 8, none⟩ x8).setCell ⟨b, 9, none⟩ x9).setCell ⟨b, 10, none⟩ x10 = w.setCells b 0 [x0, x1, x2, x3, x4, x5, x6, x7, x8, x9, x10] := rfl
  rw [e]
  refine ⟨?_, Fr.setCells b _ 0 w⟩
  rw [blk_setCells _ 0 w pc h]
  match pc, hl with
  | [p0, p1, p2, p3, p4, p5, p6, p7, p8, p9, p10], _ => rfl
theorem catch_idle (pb eb : Nat) (w : World) (x : Int) (he : w.heap[eb]? = some (.cells #[.int .i64 x] 39 (0, 0))) :
    CallsD Tryz.prog 146 #[.pointer (some ⟨eb, 0, none⟩), .pointer (some ⟨pb, 0, none⟩)] .returning w fun e u' w' =>
      e = .returned (.tuple #[]) ∧ u' = .returning ∧ w' = w.setCell ⟨eb, 0, none⟩ (.int .i64 0) := by
  have c0 : w.cell? ⟨eb, 0, none⟩ = some (.int .i64 x) := blk_cell he 0
  have f0 := blk_free he 0
  have d0 : (w.setCell ⟨eb, 0, none⟩ (.int .i64 0)).cell? ⟨eb, 0, none⟩ = some (.int .i64 0) := by rw [blk_cell (blk_set he 0 _) 0]; rfl
  refine callsD_of_wpS Tryz.func146 rfl fun c₀ cs hu => ?_
  apply wpS_seq
  apply wpS_region
  simp [wpOpsS, go_sem, recoverD, hu, Tryz.ntmps146, Exit.thenS]
  refine (caught_nil w).mono ?_
  rintro e w' ⟨rfl, rfl⟩
  simp [go_sem, c0, f0]
  apply wpS_seq
  apply wpS_region
  simp [wpOpsS, go_sem, d0, Exit.thenS]
  refine wpS_cond (t := false) (by simp [Act.eval, Array.replicate]) ?_
  simp only [Bool.false_eq_true, if_false]
  refine wpS_of_wp (wp_skip ?_)
  cases c₀
  simp_all [bodyPostS, results, Tryz.results146]
theorem catch_panicking (pb eb : Nat) (w : World) (x : Int) (pc : List Value) (he : w.heap[eb]? = some (.cells #[.int .i64 x] 39 (0, 0)))
    (hp : w.heap[pb]? = some (.cells pc.toArray 90 (0, 0))) (hpl : pc.length = 11) :
    CallsD Tryz.prog 146 #[.pointer (some ⟨eb, 0, none⟩), .pointer (some ⟨pb, 0, none⟩)] (.panicking ({ v := .iface 39 (.int .i64 50), recovered := false } :: [])) w fun e u' w' =>
      e = .returned (.tuple #[]) ∧ u' = .panicking ({ v := .iface 39 (.int .i64 50), recovered := true } :: []) ∧ Fr [eb, pb] w w' ∧ w'.heap[eb]? = some (.cells #[.int .i64 50] 39 (0, 0)) ∧ w'.heap[pb]? = some (.cells zeroPage.toArray 90 (0, 0)) := by
  have c0 : w.cell? ⟨eb, 0, none⟩ = some (.int .i64 x) := blk_cell he 0
  have f0 := blk_free he 0
  have hne : pb ≠ eb := by rintro rfl; rw [he] at hp; cases hp
  obtain ⟨W, hW⟩ : ∃ W, w.setCell ⟨eb, 0, none⟩ (.int .i64 50) = W := ⟨_, rfl⟩
  have he1 : W.heap[eb]? = some (.cells #[.int .i64 50] 39 (0, 0)) := by rw [← hW, blk_set he 0]; rfl
  have hp1 : W.heap[pb]? = some (.cells pc.toArray 90 (0, 0)) := by rw [← hW]; exact blk_set_ne hp hne 0 _
  have hf1 : Fr [eb] w W := by rw [← hW]; exact Fr.setCell w ⟨eb, 0, none⟩ _
  have d0 : W.cell? ⟨eb, 0, none⟩ = some (.int .i64 50) := blk_cell he1 0
  refine callsD_of_wpS Tryz.func146 rfl fun c₀ cs hu => ?_
  apply wpS_seq
  apply wpS_region
  simp [wpOpsS, go_sem, recoverD, hu, Tryz.ntmps146, Exit.thenS]
  refine (caught_err w).mono ?_
  rintro e w' ⟨rfl, rfl⟩
  simp [go_sem, c0, f0]
  rw [hW]
  clear hW
  apply wpS_seq
  apply wpS_region
  simp [wpOpsS, go_sem, d0, Exit.thenS]
  refine wpS_cond (t := true) (by simp [Act.eval, Array.replicate]) ?_
  simp only [if_true]
  refine wpS_of_wp ?_
  obtain ⟨p0, p1, p2, p3, p4, p5, p6, p7, p8, p9, p10, rfl⟩ : ∃ p0 p1 p2 p3 p4 p5 p6 p7 p8 p9 p10, pc = [p0, p1, p2, p3, p4, p5, p6, p7, p8, p9, p10] := by
    match pc, hpl with
    | [p0, p1, p2, p3, p4, p5, p6, p7, p8, p9, p10], _ => exact ⟨_, _, _, _, _, _, _, _, _, _, _, rfl⟩
  have HS := Lib.hid (set11 hp1 rfl (.int .i64 0) nilV nilV nilV nilV (.int .i64 0) (.int .u64 0) (.int .i64 0) (.int .i64 0) (.int .i64 0) (.int .i64 0))
  have q0 := blk_cell hp1 0
  have q1 := blk_cell hp1 1
  have q2 := blk_cell hp1 2
  have q3 := blk_cell hp1 3
  have q4 := blk_cell hp1 4
  have q5 := blk_cell hp1 5
  have q6 := blk_cell hp1 6
  have q7 := blk_cell hp1 7
  have q8 := blk_cell hp1 8
  have q9 := blk_cell hp1 9
  have q10 := blk_cell hp1 10
  have g0 := blk_free hp1 0
  have g1 := blk_free hp1 1
  have g2 := blk_free hp1 2
  have g3 := blk_free hp1 3
  have g4 := blk_free hp1 4
  have g5 := blk_free hp1 5
  have g6 := blk_free hp1 6
  have g7 := blk_free hp1 7
  have g8 := blk_free hp1 8
  have g9 := blk_free hp1 9
  have g10 := blk_free hp1 10
  simp only [List.getElem?_toArray, List.getElem?_cons_zero, List.getElem?_cons_succ] at q0 q1 q2 q3 q4 q5 q6 q7 q8 q9 q10
  simp only [Array.replicate, List.replicate]
  simp
  go_wp2
  have HR : Hid (∀ wz, Fr [pb] W wz → wz.heap[pb]? = some (.cells zeroPage.toArray 90 (0, 0)) → Fr [eb, pb] w wz ∧ wz.heap[eb]? = some (.cells #[.int .i64 50] 39 (0, 0)) ∧ wz.heap[pb]? = some (.cells zeroPage.toArray 90 (0, 0))) := Lib.hid fun wz hf hb =>
    ⟨(hf1.mono (by simp)).trans (hf.mono (S' := [eb, pb]) (by simp)), hf.heap he1 (by simpa using Ne.symm hne), hb⟩
  have HR2 := Lib.hid (HR.out _ HS.out.2 HS.out.1)
  unfold bodyPostS
  exact ⟨rfl, _, rfl, .tuple #[], results_none rfl _ _ _, rfl, rfl, HR2.out⟩
end Go.Proofs.YtgpohemcfgepeaaGreat

namespace Go.Proofs.YtgpohemcfgepeaaGreat
open Go.RowKit Go.MapKept
attribute [local go_sem] ldOp
def beI (l : List UInt8) : Int := l.foldl (fun n x => n * 256 + (x.toNat : Int)) 0
theorem beI_snoc {l : List UInt8} {k : Nat} (hk : k < l.length) : beI (l.take (k + 1)) = beI (l.take k) * 256 + (l[k].toNat : Int) := by
  unfold beI
  rw [List.take_succ_eq_append_getElem hk, List.foldl_append]; rfl
theorem beI_bd (l : List UInt8) (k : Nat) (hk : k ≤ 8) : 0 ≤ beI (l.take k) ∧ beI (l.take k) < 256 ^ k := by
  induction k with
  | zero => simp [beI]
  | succ k ih =>
    have hi := ih (by omega)
    by_cases h : k < l.length
    · rw [beI_snoc h]
      have := l[k].toNat_lt
      have e : (256 : Int) ^ (k + 1) = 256 ^ k * 256 := Int.pow_succ 256 k
      omega
    · rw [List.take_of_length_le (by omega)]
      rw [List.take_of_length_le (by omega)] at hi
      have e : (256 : Int) ^ (k + 1) = 256 ^ k * 256 := Int.pow_succ 256 k
      omega
theorem or_be {n : Int} {x : UInt8} (h0 : 0 ≤ n) (h1 : n < 72057594037927936) : bits .or .u64 (n * 256) (x.toNat : Int) = n * 256 + (x.toNat : Int) := by
  have := x.toNat_lt
  refine bits_join .u64 64 (by decide) (fun n h0 h1 => ?_) 8 _ _ (by omega) (by omega) (by omega) (by omega) (by omega) (by omega)
  simp only [IntKind.wrap, IntKind.bits, IntKind.signed, Bool.false_and, Bool.false_eq_true, if_false]
  omega
def epOf (s : Int) (l : List UInt8) : Int := if s = 0 ∨ s = 1 then beI (l.take 8) else 0
def restOf (s : Int) (l : List UInt8) : List UInt8 := if s = 0 ∨ s = 1 then l.drop 8 else l
def restP (ep : Int) : List UInt8 → Option PageD
  | k :: _ :: _ :: r => pageP ep (k.toNat : Int) r
  | _ => none
def rawP (s : Int) (l : List UInt8) : Option PageD := restP (epOf s l) (restOf s l)
def goodP (s : Int) (l : List UInt8) (p : PageD) : Bool := p.okAt s && decide (p.encL s = l)
def decP (s : Int) (l : List UInt8) : Option PageD :=
  if l.length = 1024 then (match rawP s l with | none => none | some p => if goodP s l p = true then some p else none) else none
def decPost (w : World) (R : Option PageD) (e : Ending) (w' : World) : Prop :=
  Fr [] w w' ∧ ((∃ p, R = some p ∧ ∃ pv kv dv gv, e = .returned (.tuple #[.agg (pageCells p pv kv dv gv).toArray, .int .i64 0]) ∧ ∀ S : List Nat, (∀ x, x ∈ S → x < w.heap.size) → PageIn S w' p pv kv dv gv) ∨ (R = none ∧ e = .returned (.tuple #[.agg zeroPage.toArray, .int .i64 50])))
set_option maxRecDepth 100000 in
theorem dec_results {tmps : Array Value} {w : World} {pb eb : Nat} {pc : List Value} {x : Int} (h4 : tmps.getD 4 undef = .pointer (some ⟨pb, 0, none⟩)) (h5 : tmps.getD 5 undef = .pointer (some ⟨eb, 0, none⟩))
    (hp : w.heap[pb]? = some (.cells pc.toArray 90 (0, 0))) (hpl : pc.length = 11) (he : w.heap[eb]? = some (.cells #[.int .i64 x] 39 (0, 0))) :
    (results Tryz.f113 tmps).run Tryz.prog w = .ok (.tuple #[.agg pc.toArray, .int .i64 x]) w := by
  obtain ⟨p0, p1, p2, p3, p4, p5, p6, p7, p8, p9, p10, rfl⟩ : ∃ p0 p1 p2 p3 p4 p5 p6 p7 p8 p9 p10, pc = [p0, p1, p2, p3, p4, p5, p6, p7, p8, p9, p10] := by
    match pc, hpl with
    | [p0, p1, p2, p3, p4, p5, p6, p7, p8, p9, p10], _ => exact ⟨_, _, _, _, _, _, _, _, _, _, _, rfl⟩
  have q0 := blk_cell hp 0
  have q1 := blk_cell hp 1
  have q2 := blk_cell hp 2
  have q3 := blk_cell hp 3
  have q4 := blk_cell hp 4
  have q5 := blk_cell hp 5
  have q6 := blk_cell hp 6
  have q7 := blk_cell hp 7
  have q8 := blk_cell hp 8
  have q9 := blk_cell hp 9
  have q10 := blk_cell hp 10
  have e0 := blk_cell he 0
  rw [Array.getD_eq_getD_getElem?] at h4 h5
  simp only [List.getElem?_toArray, List.getElem?_cons_zero, List.getElem?_cons_succ] at q0 q1 q2 q3 q4 q5 q6 q7 q8 q9 q10 e0
  simp [results, Tryz.results113, go_sem, h4, h5, q0, q1, q2, q3, q4, q5, q6, q7, q8, q9, q10, e0]
theorem dec_gave {tmps : Array Value} {w w1 : World} {pb eb : Nat} {x : Int} (h4 : tmps.getD 4 undef = .pointer (some ⟨pb, 0, none⟩)) (h5 : tmps.getD 5 undef = .pointer (some ⟨eb, 0, none⟩)) (hpb : w.heap.size ≤ pb) (heb : w.heap.size ≤ eb)
    (hf : Fr [] w w1) (hp : w1.heap[pb]? = some (.cells zeroPage.toArray 90 (0, 0))) (he : w1.heap[eb]? = some (.cells #[.int .i64 x] 39 (0, 0))) (R : Option PageD) (hR : R = none) :
    bodyPostD Tryz.prog Tryz.f113 (decPost w R) (Exit.panic [{ v := .iface 39 (.int .i64 50), recovered := false }])
      { tmps := tmps, defers := [{ target := Target.fn (Fn.func 146) #[.pointer (some ⟨eb, 0, none⟩), .pointer (some ⟨pb, 0, none⟩)], args := #[] }] } w1 := by
  refine leaves_cons (f := 146) (args := #[.pointer (some ⟨eb, 0, none⟩), .pointer (some ⟨pb, 0, none⟩)]) (by simp) (by simp [go_sem]) ?_
  refine (catch_panicking pb eb w1 x zeroPage he hp rfl).mono ?_
  rintro e u' w'' ⟨rfl, rfl, hf2, he2, hp2⟩
  exact ⟨_, dec_results h4 h5 hp2 rfl he2, (hf.nil.trans hf2).drop (by simp; omega), .inr ⟨hR, rfl⟩⟩
theorem dec_told {tmps : Array Value} {w w1 : World} {pb eb : Nat} (h4 : tmps.getD 4 undef = .pointer (some ⟨pb, 0, none⟩)) (h5 : tmps.getD 5 undef = .pointer (some ⟨eb, 0, none⟩)) (_ : w.heap.size ≤ pb) (heb : w.heap.size ≤ eb) {p : PageD} {pv kv dv gv : Value}
    (hf : Fr [] w w1) (hp : w1.heap[pb]? = some (.cells (pageCells p pv kv dv gv).toArray 90 (0, 0))) (he : w1.heap[eb]? = some (.cells #[.int .i64 0] 39 (0, 0))) (hi : ∀ S : List Nat, (∀ x, x ∈ S → x < w.heap.size) → PageIn (S ++ [eb]) w1 p pv kv dv gv) (R : Option PageD) (hR : R = some p) :
    bodyPostD Tryz.prog Tryz.f113 (decPost w R) Exit.ret
      { tmps := tmps, defers := [{ target := Target.fn (Fn.func 146) #[.pointer (some ⟨eb, 0, none⟩), .pointer (some ⟨pb, 0, none⟩)], args := #[] }] } w1 := by
  refine leaves_cons (f := 146) (args := #[.pointer (some ⟨eb, 0, none⟩), .pointer (some ⟨pb, 0, none⟩)]) (by simp) (by simp [go_sem]) ?_
  refine (catch_idle pb eb w1 0 he).mono ?_
  rintro e u' w'' ⟨rfl, rfl, rfl⟩
  have hf2 := Fr.setCell w1 ⟨eb, 0, none⟩ (.int .i64 0)
  have hne : pb ≠ eb := by
    rintro rfl
    rw [he] at hp
    injection hp with hp
    injection hp with _ ht _
    exact absurd ht (by decide)
  have he2 := blk_set he 0 (.int .i64 0)
  exact ⟨_, dec_results h4 h5 (blk_set_ne hp hne 0 _) rfl he2, (hf.nil.trans hf2).drop (by simp; omega), .inl ⟨p, hR, pv, kv, dv, gv, rfl, fun S hS => ((hi S hS).kept (hf2.mono (fun x hx _ => List.mem_append.2 (.inr hx)))).mono (fun x hx => List.mem_append.2 (.inl hx))⟩⟩
set_option maxRecDepth 100000 in
set_option maxHeartbeats 1000000 in
theorem dec_short {v : Value} {l : List UInt8} (s : Int) (w : World) (h : Bytes [] w v l) (hl : l.length ≠ 1024) (_ : l.length ≤ 1048576) :
    Calls Tryz.prog 113 #[.int .i64 s, v] w (decPost w none) := by
  obtain ⟨a, c, rfl, hc⟩ := Slc.form h
  have hd : ((l.length : Int) == 1024) = false := by simp; omega
  have hmf : ∀ (fn : Fn) (first cap : Array Value) (w : World), (Instr.makeFunc fn first cap).run Tryz.prog w = .ok (.func fn first cap) w := fun _ _ _ _ => rfl
  clear h hl
  go_enter_defers Tryz.func113, Tryz.ntmps113
  go_wp2_with fail
  refine (needs_no _).mono ?_
  rintro e w1 ⟨rfl, rfl⟩
  unfold gaveUp
  go_wp2_with fail
  refine dec_gave (x := 0) rfl rfl (Nat.le_refl _) (Nat.le_succ _) ((Fr.alloc1 w _).trans (Fr.alloc1 _ _)) ?_ ?_ _ rfl
  · exact (Fr.alloc1 (w.alloc (.cells zeroPage.toArray 90)) (.cells #[.int .i64 0] 39)).heap (blk_new w _) (by simp)
  · have := blk_new (w.alloc (.cells zeroPage.toArray 90)) (.cells #[.int .i64 0] 39)
    simpa [zeroPage] using this
end Go.Proofs.YtgpohemcfgepeaaGreat

namespace Go.Proofs.YtgpohemcfgepeaaGreat
open Go.RowKit Go.MapKept
attribute [local go_sem] ldOp
theorem equalB_k {S S' : List Nat} {a c : Value} {la lc : List UInt8} {b : Bool} (w : World) (ha : Bytes S w a la) (hc : Bytes S' w c lc) (hb : decide (la = lc) = b) :
    Calls Tryz.prog 151 #[a, c] w fun e w' => e = .returned (.bool b) ∧ w = w' := by
  have h1 := run_string_bytes (P := Tryz.prog) (src := 117) (dst := 9) (e := 5) Tryz.underlying117 Tryz.underlying5 Tryz.underlying9 ha
  have h2 := run_string_bytes (P := Tryz.prog) (src := 117) (dst := 9) (e := 5) Tryz.underlying117 Tryz.underlying5 Tryz.underlying9 hc
  clear ha hc
  go_enter Tryz.func151, Tryz.ntmps151
  go_wp2
  go_ret
  have hd : (la == lc) = decide (la = lc) := by rw [Bool.eq_iff_iff]; simp
  exact ⟨by rw [← hb, ← hd]; rfl, rfl⟩
def epCells (ep : Int) : List Value := [.int .i64 0, nilV, nilV, nilV, nilV, .int .i64 0, .int .u64 ep, .int .i64 0, .int .i64 0, .int .i64 0, .int .i64 0]
theorem SrcAt.raise {w : World} {rb N N' : Nat} {T : TypeId} {cs : List Value} {l : List UInt8} (h : SrcAt w rb N T cs l) (hN : N ≤ N') : SrcAt w rb N' T cs l := by
  obtain ⟨sv, hb, hv⟩ := h
  exact ⟨sv, hb, fun S hS => hv S (fun x hx => (hS x hx).imp id (Nat.le_trans hN))⟩
theorem epOf_bd (s : Int) (l : List UInt8) : 0 ≤ epOf s l ∧ epOf s l < 18446744073709551616 := by
  unfold epOf
  have := beI_bd l 8 (Nat.le_refl _)
  split <;> omega
theorem pairsP_len : ∀ (n : Nat) (acc : List PairD) (l : List UInt8) (x : List PairD), acc.length ≤ 6 → pairsP n acc l = some x → x.length ≤ 6
  | 0, acc, l, x, h, he => by unfold pairsP at he; cases he; exact h
  | n + 1, acc, l, x, h, he => by
    by_cases h6 : acc.length < 6
    · cases h1 : textP l with
      | none => rw [pairsP_no1 h1] at he; cases he
      | some k =>
        obtain ⟨k, l1⟩ := k
        cases h2 : textP l1 with
        | none => rw [pairsP_no2 h1 h2] at he; cases he
        | some v =>
          obtain ⟨v, l2⟩ := v
          rw [pairsP_yes h6 h1 h2] at he
          exact pairsP_len n _ l2 x (by simp; omega) he
    · rw [pairsP_no h6] at he; cases he
theorem keysP_len : ∀ (n : Nat) (ks : List ByteArray) (gs : List Int) (l : List UInt8) (x : List ByteArray × List Int), ks.length ≤ 12 → gs.length = ks.length + 1 → keysP n ks gs l = some x → x.1.length ≤ 12 ∧ x.2.length ≤ 13
  | 0, ks, gs, l, x, h, hg, he => by unfold keysP at he; cases he; exact ⟨h, by simp; omega⟩
  | n + 1, ks, gs, l, x, h, hg, he => by
    by_cases h6 : ks.length < 12
    · cases h1 : textP l with
      | none => rw [keysP_no1 h1] at he; cases he
      | some k =>
        obtain ⟨k, l1⟩ := k
        cases h2 : twoP l1 with
        | none => rw [keysP_no2 h1 h2] at he; cases he
        | some v =>
          obtain ⟨v, l2⟩ := v
          rw [keysP_yes h6 h1 h2] at he
          exact keysP_len n _ _ l2 x (by simp; omega) (by simp; omega) he
    · rw [keysP_no h6] at he; cases he
theorem intsP_len : ∀ (n : Nat) (acc : List Int) (l : List UInt8) (x : List Int × List UInt8), intsP n acc l = some x → x.1.length * 2 + x.2.length ≤ acc.length * 2 + l.length
  | 0, acc, l, x, he => by unfold intsP at he; cases he; exact Nat.le_refl _
  | n + 1, acc, l, x, he => by
    cases h1 : twoP l with
    | none => rw [intsP_no h1] at he; cases he
    | some k =>
      obtain ⟨k, l1⟩ := k
      rw [intsP_yes h1] at he
      have h2 := twoP_len2 h1
      have := intsP_len n _ l1 x he
      rw [List.length_append] at this
      simp at this
      omega
theorem superP_some {ep : Int} {l : List UInt8} {p : PageD} (h : superP ep l = some p) : p.pairs = [] ∧ p.keys = [] ∧ p.kids = [] ∧ p.pages = [] ∧ p.epoch = ep ∧ p.kind = 4 := by
  unfold superP at h; split at h; · cases h
  unfold superE0 at h; split at h; · cases h
  unfold superE1 at h; split at h; · cases h
  unfold superE1b at h; split at h; · cases h
  unfold superE2 at h; split at h; · cases h
  unfold superE3 at h; split at h; · cases h
  cases h
  exact ⟨rfl, rfl, rfl, rfl, rfl, rfl⟩
theorem pageP_small {ep k : Int} {l : List UInt8} {p : PageD} (hl : l.length ≤ 1024) (h : pageP ep k l = some p) : p.small ∧ p.epoch = ep := by
  unfold pageP at h
  by_cases k1 : k = 1
  · rw [if_pos k1] at h
    split at h
    · obtain ⟨x, hx, rfl⟩ := Option.map_eq_some_iff.1 h
      have := pairsP_len _ _ _ x (by simp) hx
      exact ⟨⟨by show x.length ≤ _; omega, by simp [pgLeaf], by simp [pgLeaf], by simp [pgLeaf]⟩, rfl⟩
    · cases h
  rw [if_neg k1] at h
  by_cases k2 : k = 2
  · rw [if_pos k2] at h
    unfold branchP at h; split at h; · cases h
    unfold branchE at h; split at h; · cases h
    obtain ⟨x, hx, rfl⟩ := Option.map_eq_some_iff.1 h
    have := keysP_len _ _ _ _ x (by simp) (by simp) hx
    exact ⟨⟨by simp [pgBranch], by show x.1.length ≤ _; omega, by show x.2.length ≤ _; omega, by simp [pgBranch]⟩, rfl⟩
  rw [if_neg k2] at h
  by_cases k3 : k = 3
  · rw [if_pos k3] at h
    unfold freeP at h
    split at h
    · cases h
    · rename_i n l1 h1
      split at h
      · cases h
      · rename_i xs l2 h2
        split at h
        · cases h
        · cases h
          have := intsP_len _ _ _ _ h2
          have := twoP_len2 h1
          simp at *
          exact ⟨⟨by simp [pgFree], by simp [pgFree], by simp [pgFree], by show xs.length ≤ _; omega⟩, rfl⟩
  rw [if_neg k3] at h
  by_cases k4 : k = 4
  · rw [if_pos k4] at h
    obtain ⟨h1, h2, h3, h4, h5, _⟩ := superP_some h
    exact ⟨⟨by simp [h1], by simp [h2], by simp [h3], by simp [h4]⟩, h5⟩
  rw [if_neg k4] at h
  cases h
  exact ⟨⟨by simp [pgOther], by simp [pgOther], by simp [pgOther], by simp [pgOther]⟩, rfl⟩
structure DcAt (w : World) (v : Value) (l : List UInt8) (W3 : World) : Prop where
  fr : Fr [] w W3
  pg : W3.heap[w.heap.size]? = some (.cells zeroPage.toArray 90 (0, 0))
  er : W3.heap[w.heap.size + 1]? = some (.cells #[.int .i64 0] 39 (0, 0))
  src : SrcAt W3 (w.heap.size + 2) (w.heap.size + 3) 206 (epCells 0) l
  size : W3.heap.size = w.heap.size + 3
  arg : ∀ S : List Nat, (∀ x, x ∈ S → w.heap.size ≤ x) → Bytes S W3 v l
theorem dcAt_made {w : World} {v : Value} {l : List UInt8} (h : Bytes [] w v l) {W3 : World}
    (hW : ((w.alloc (.cells zeroPage.toArray 90)).alloc (.cells #[.int .i64 0] 39)).alloc (.cells (v :: zeroPage).toArray 206) = W3) : DcAt w v l W3 := by
  subst hW
  have hf : Fr [] w (((w.alloc (.cells zeroPage.toArray 90)).alloc (.cells #[.int .i64 0] 39)).alloc (.cells (v :: zeroPage).toArray 206)) := ((Fr.alloc1 _ _).trans (Fr.alloc1 _ _)).trans (Fr.alloc1 _ _)
  have harg : ∀ S : List Nat, (∀ x, x ∈ S → w.heap.size ≤ x) → Bytes S (((w.alloc (.cells zeroPage.toArray 90)).alloc (.cells #[.int .i64 0] 39)).alloc (.cells (v :: zeroPage).toArray 206)) v l := fun S hS =>
    (Bytes.more h (fun x hx => .inr (hS x hx))).kept hf.nil
  have e1 : (w.alloc (.cells zeroPage.toArray 90)).heap.size = w.heap.size + 1 := by simp
  have e2 : ((w.alloc (.cells zeroPage.toArray 90)).alloc (.cells #[.int .i64 0] 39)).heap.size = w.heap.size + 2 := by simp
  refine ⟨hf, ((Fr.alloc1 _ _).trans (Fr.alloc1 _ _)).heap (blk_new w _) (by simp), ?_, ⟨v, ?_, fun S hS => harg S (fun x hx => by rcases hS x hx with h | h <;> omega)⟩, by simp, harg⟩
  · have := (Fr.alloc1 _ (.cells (v :: zeroPage).toArray 206)).heap (blk_new (w.alloc (.cells zeroPage.toArray 90)) (.cells #[.int .i64 0] 39)) (by simp)
    rw [e1] at this
    exact this
  · have := blk_new ((w.alloc (.cells zeroPage.toArray 90)).alloc (.cells #[.int .i64 0] 39)) (.cells (v :: zeroPage).toArray 206)
    rw [e2] at this
    exact this
set_option maxRecDepth 100000 in
set_option maxHeartbeats 2000000 in
theorem dec_long {v : Value} {l : List UInt8} (s : Int) (w : World) (h : Bytes [] w v l) (hl : l.length = 1024) :
    Calls Tryz.prog 113 #[.int .i64 s, v] w (decPost w (decP s l)) := by
  obtain ⟨a, c, rfl, hc⟩ := Slc.form h
  obtain ⟨W3, hW3⟩ : ∃ W3, ((w.alloc (.cells zeroPage.toArray 90)).alloc (.cells #[.int .i64 0] 39)).alloc (.cells (.slice a l.length c :: zeroPage).toArray 206) = W3 := ⟨_, rfl⟩
  have HD := Lib.hid (dcAt_made h hW3)
  have HW3 := Lib.hid hW3
  have HL := Lib.hid hl
  have hmf : ∀ (fn : Fn) (first cap : Array Value) (w : World), (Instr.makeFunc fn first cap).run Tryz.prog w = .ok (.func fn first cap) w := fun _ _ _ _ => rfl
  rw [hl] at HD HW3 ⊢
  rw [hl] at hc
  clear h hl hW3
  go_enter_defers Tryz.func113, Tryz.ntmps113
  go_wp2_with fail
  refine (needs_yes _).mono ?_
  rintro e w1 ⟨rfl, rfl⟩
  go_upto_region 4 with fail
  rw [show ((w.alloc (.cells #[.int .i64 0, .slice none 0 0, .slice none 0 0, .slice none 0 0, .slice none 0 0, .int .i64 0, .int .u64 0, .int .i64 0, .int .i64 0, .int .i64 0, .int .i64 0] 90)).alloc (.cells #[.int .i64 0] 39)).alloc (.cells #[.slice a 1024 c, .int .i64 0, .slice none 0 0, .slice none 0 0, .slice none 0 0, .slice none 0 0, .int .i64 0, .int .u64 0, .int .i64 0, .int .i64 0, .int .i64 0, .int .i64 0] 206) = W3 from HW3.out]
  clear HW3
  obtain ⟨rb, hrb⟩ : ∃ rb, w.heap.size + 1 + 1 = rb := ⟨_, rfl⟩
  rw [hrb]
  have HRB := Lib.hid hrb
  clear hrb
  have hsrc0 := HD.out.src
  rw [show w.heap.size + 2 = rb from HRB.out] at hsrc0
  have HS0 := Lib.hid hsrc0
  clear hsrc0
  go_cut [25] from 20 to 25 (fun x wr => x = .bool (decide (s = 0 ∨ s = 1)) ∧ W3 = wr)
  case first =>
    cases h0 : (s == 0)
    · cases h1 : (s == 1)
      · have HB : Hid (decide (s = 0 ∨ s = 1) = false) := Lib.hid (by simp at h0 h1; simp [h0, h1])
        go_wp2_with fail
        go_meet
        exact ⟨by rw [HB.out], rfl⟩
      · have HB : Hid (decide (s = 0 ∨ s = 1) = true) := Lib.hid (by simp at h1; simp [h1])
        go_wp2_with fail
        go_meet
        exact ⟨by rw [HB.out], rfl⟩
    · have HB : Hid (decide (s = 0 ∨ s = 1) = true) := Lib.hid (by simp at h0; simp [h0])
      go_wp2_with fail
      go_meet
      exact ⟨by rw [HB.out], rfl⟩
  case rest =>
    obtain ⟨rfl, rfl⟩ := hcut
    go_upto_if 25 with fail
    go_cut [] from 25 to 48 (fun wr => SrcAt wr rb (w.heap.size + 3) 206 (epCells (epOf s l)) (restOf s l) ∧ Fr [rb] W3 wr)
    case first =>
      by_cases hs : s = 0 ∨ s = 1
      · have hd : decide (s = 0 ∨ s = 1) = true := decide_eq_true hs
        have HE : Hid (epOf s l = beI (l.take 8) ∧ restOf s l = l.drop 8) := Lib.hid ⟨if_pos hs, if_pos hs⟩
        rw [hd]
        clear hs hd
        have HT := Lib.hid (take_yes 8 8 W3 rfl HS0.out (by have := HL.out; omega) (by have := HL.out; omega))
        go_wp2_with fail
        with_reducible refine HT.out.mono ?_
        rintro e w2 ⟨v2, rfl, hv2, hs2, hf2⟩
        have hl8 : (l.take 8).length = 8 := by rw [List.length_take, HL.out]; rfl
        obtain ⟨B, off, cp, rfl, hcp⟩ : ∃ B off cp, v2 = .slice (some ⟨B, off, none⟩) 8 cp ∧ 8 ≤ cp := by
          rcases hv2 with ⟨_, _, _, h0, _⟩ | ⟨B, off, cap, h, hc, _⟩
          · omega
          · rw [hl8] at h hc; exact ⟨B, off, cap, h, hc⟩
        have HV2 := Lib.hid hv2
        have HS2 := Lib.hid hs2
        have HF2 := Lib.hid hf2
        have HL8 := Lib.hid hl8
        clear hv2 hs2 hf2 hl8 HT
        go_wp2_with fail
        go_loopw [31] (fun i wr => ∃ k : Nat, i = .int .i64 k ∧ k ≤ 8 ∧ SrcAt wr rb (w.heap.size + 3) 206 (epCells (beI ((l.take 8).take k))) (l.drop 8) ∧ Fr [rb] W3 wr ∧ Bytes [rb] wr (.slice (some ⟨B, off, none⟩) 8 cp) (l.take 8)) (fun i _ => 8 - (intOf i).toNat)
        case atStart => exact ⟨0, rfl, Nat.zero_le _, HS2.out, HF2.out, HV2.out⟩
        case round =>
          obtain ⟨k, rfl, hk, hs, hf, hv⟩ := hrel
          by_cases hlt : k < 8
          · have hkI : (k : Int) < 8 := by omega
            have hk8 : k < (l.take 8).length := by rw [HL8.out]; exact hlt
            have hc1 := hv.at hk8
            have hbs := beI_snoc hk8
            have hbd := beI_bd (l.take 8) k (by omega)
            have hb7 : beI ((l.take 8).take k) < 72057594037927936 := by
              have : (256 : Int) ^ k ≤ 256 ^ 7 := by
                have := Nat.pow_le_pow_right (n := 256) (by decide) (show k ≤ 7 by omega)
                exact_mod_cast this
              have e7 : (256 : Int) ^ 7 = 72057594037927936 := by decide
              omega
            have hx := ((l.take 8)[k]'hk8).toNat_lt
            have hor := or_be (x := (l.take 8)[k]'hk8) hbd.1 hb7
            generalize (l.take 8)[k]'hk8 = x at *
            have HBS := Lib.hid hbs
            obtain ⟨bn, hbn⟩ : ∃ bn, beI ((l.take 8).take k) = bn := ⟨_, rfl⟩
            rw [hbn] at hs hbd hb7 hor HBS
            have c7 : wr.cell? ⟨rb, 7, none⟩ = some (.int .u64 bn) := (hs.cell 6).1
            have f7 : wr.frozen? ⟨rb, 7, none⟩ = false := (hs.cell 6).2
            have hfs := Fr.setCell wr ⟨rb, 7, none⟩ (.int .u64 (bn * 256 + (x.toNat : Int)))
            have HN : Hid (SrcAt (wr.setCell ⟨rb, 7, none⟩ (.int .u64 (bn * 256 + (x.toNat : Int)))) rb (w.heap.size + 3) 206 (epCells (beI ((l.take 8).take (k + 1)))) (l.drop 8) ∧ Fr [rb] W3 (wr.setCell ⟨rb, 7, none⟩ (.int .u64 (bn * 256 + (x.toNat : Int)))) ∧ Bytes [rb] (wr.setCell ⟨rb, 7, none⟩ (.int .u64 (bn * 256 + (x.toNat : Int)))) (.slice (some ⟨B, off, none⟩) 8 cp) (l.take 8)) :=
              Lib.hid ⟨by rw [HBS.out]; exact hs.set 6 _, hf.trans hfs, hv.kept hfs⟩
            have h0 := hbd.1
            have hw : IntKind.u64.wrap (bn * 256) = bn * 256 := by
              simp only [IntKind.wrap, IntKind.bits, IntKind.signed, Bool.false_and, Bool.false_eq_true, if_false]
              omega
            clear hs hf hv hbs hbd hfs hbn
            go_wp2
            exact ⟨⟨k + 1, by go_num, by omega, HN.out⟩, by simp [intOf]; omega⟩
          · obtain rfl : k = 8 := by omega
            rw [show (l.take 8).take 8 = l.take 8 by rw [List.take_take]; rfl] at hs
            have HQ : Hid (SrcAt wr rb (w.heap.size + 3) 206 (epCells (epOf s l)) (restOf s l) ∧ Fr [rb] W3 wr) := Lib.hid (by rw [HE.out.1, HE.out.2]; exact ⟨hs, hf⟩)
            clear hs hf hv
            go_wp2_with fail
            go_meet
            exact HQ.out
      · have hd : decide (s = 0 ∨ s = 1) = false := decide_eq_false hs
        have HE : Hid (epOf s l = 0 ∧ restOf s l = l) := Lib.hid ⟨if_neg hs, if_neg hs⟩
        rw [hd]
        clear hs hd
        go_wp2_with fail
        go_meet
        exact ⟨by rw [HE.out.1, HE.out.2]; exact HS0.out, Fr.refl _ _⟩
    case rest =>
      obtain ⟨hs, hf⟩ := hcut
      obtain ⟨kb, xb, yb, r, hr⟩ : ∃ kb xb yb r, restOf s l = kb :: xb :: yb :: r := by
        have hlr : 1016 ≤ (restOf s l).length := by
          have := HL.out
          unfold restOf
          split
          · rw [List.length_drop]; omega
          · omega
        match restOf s l, hlr with
        | kb :: xb :: yb :: r, _ => exact ⟨kb, xb, yb, r, rfl⟩
        | [], h => simp at h
        | [_], h => simp at h
        | [_, _], h => simp at h
      have hrl : r.length ≤ 1024 := by
        have h1 : (restOf s l).length ≤ 1024 := by
          have := HL.out
          unfold restOf
          split
          · rw [List.length_drop]; omega
          · omega
        rw [hr] at h1; simp at h1; omega
      have HRAW : Hid (rawP s l = pageP (epOf s l) (kb.toNat : Int) r) := Lib.hid (by unfold rawP; rw [hr]; rfl)
      rw [hr] at hs
      have HEP := Lib.hid (epOf_bd s l)
      generalize epOf s l = ep at *
      have HT1 := Lib.hid (take_yes 1 1 wc rfl hs (by simp) (by simp; omega))
      have HF := Lib.hid hf
      have hkb := kb.toNat_lt
      have HRL := Lib.hid hrl
      clear hs hf hr hrl HS0
      go_wp2_with fail
      with_reducible refine HT1.out.mono ?_
      rintro e w1 ⟨v1, rfl, hv1, hs1, hf1⟩
      obtain ⟨B, off, cp, rfl, hcp⟩ : ∃ B off cp, v1 = .slice (some ⟨B, off, none⟩) 1 cp ∧ 1 ≤ cp := by
        rcases hv1 with ⟨_, _, _, h0, _⟩ | ⟨B, off, cap, h, hc, _⟩
        · simp at h0
        · exact ⟨B, off, cap, by simpa using h, by simpa using hc⟩
      have b0 := hv1.at (i := 0) (by simp)
      simp only [List.take_succ_cons, List.take_zero, List.getElem_cons_zero, Nat.add_zero] at b0
      have hs1' : SrcAt w1 rb (w.heap.size + 3) 206 (epCells ep) (xb :: yb :: r) := hs1
      have HT2 := Lib.hid (take_yes 2 2 w1 rfl hs1' (by simp) (by have := HRL.out; simp; omega))
      have HF1 := Lib.hid (HF.out.trans hf1)
      clear hv1 hs1 hs1' hf1 HT1
      go_wp2_with fail
      with_reducible refine HT2.out.mono ?_
      rintro e w2 ⟨v2, rfl, hv2, hs2, hf2⟩
      have hs2' : SrcAt w2 rb (w.heap.size + 3) 206 (epCells ep) r := hs2
      have HF2 := Lib.hid (HF1.out.trans hf2)
      have hsz2 : w.heap.size + 3 ≤ w2.heap.size := by have h1 := HD.out.size; have h2 := HF2.out.size; omega
      have HPK := Lib.hid (page_k (k := (kb.toNat : Int)) w2 (hs2'.raise hsz2) (by have := HRB.out; omega) rfl (by have := HRL.out; omega))
      have HSZ2 := Lib.hid hsz2
      clear hv2 hs2 hs2' hf2 hsz2 HT2 b0
      go_wp2_with fail
      with_reducible refine HPK.out.mono ?_
      rintro e w3 ⟨hf3, h3⟩
      have HF3 := Lib.hid (HF2.out.trans hf3)
      have hfw : Fr [] w w3 := (HD.out.fr.nil.trans HF3.out).drop (fun x hx => by have := HRB.out; have h2 : x = rb := (by simpa using hx); omega)
      have hpb3 := HF3.out.heap HD.out.pg (fun hm => by have := HRB.out; have h2 : w.heap.size = rb := (by simpa using hm); omega)
      have heb3 := HF3.out.heap HD.out.er (fun hm => by have := HRB.out; have h2 : w.heap.size + 1 = rb := (by simpa using hm); omega)
      have HFW := Lib.hid hfw
      have HPB3 := Lib.hid hpb3
      have HEB3 := Lib.hid heb3
      clear hf3 hfw hpb3 heb3 HPK
      rcases h3 with ⟨p, hp, rfl, sv, pv, kv, dv, gv, hb3, hi3⟩ | ⟨hp, rfl⟩
      · obtain ⟨hsm, hepe⟩ := pageP_small HRL.out hp
        have HDP : Hid (decP s l = if goodP s l p = true then some p else none) := Lib.hid (by unfold decP; rw [if_pos HL.out, HRAW.out, hp])
        obtain ⟨pa, pc, rfl, _⟩ := Slc.form (hi3 [] (by simp)).pairs
        obtain ⟨ka, kc, rfl, _⟩ := Slc.form (hi3 [] (by simp)).keys
        obtain ⟨da, dc, rfl, _⟩ := Slc.form (hi3 [] (by simp)).kids
        obtain ⟨ga, gc, rfl, _⟩ := Slc.form (hi3 [] (by simp)).pages
        have HEN := Lib.hid (enc_k s w3 ⟨_, _, _, _, rfl, hi3 [] (by simp)⟩ hsm (by rw [hepe]; exact HEP.out.1) (by rw [hepe]; exact HEP.out.2))
        have HI3 := Lib.hid hi3
        have HB3 := Lib.hid hb3
        have HS := Lib.hid hsm
        unfold pageCells at HEN HB3
        clear hp hsm hepe hi3 hb3
        obtain ⟨kd, prs, ks, ds, gs, nx, ep', rt, dp, ct, hg⟩ := p
        dsimp only at *
        generalize prs.length = pl at *
        generalize ks.length = kl at *
        generalize ds.length = dl at *
        generalize gs.length = gl at *
        have q1 := blk_cell HB3.out 1
        have q2 := blk_cell HB3.out 2
        have q3 := blk_cell HB3.out 3
        have q4 := blk_cell HB3.out 4
        have q5 := blk_cell HB3.out 5
        have q6 := blk_cell HB3.out 6
        have q7 := blk_cell HB3.out 7
        have q8 := blk_cell HB3.out 8
        have q9 := blk_cell HB3.out 9
        have q10 := blk_cell HB3.out 10
        have q11 := blk_cell HB3.out 11
        simp only [List.getElem?_toArray, List.getElem?_cons_zero, List.getElem?_cons_succ] at q1 q2 q3 q4 q5 q6 q7 q8 q9 q10 q11
        clear hmf
        go_wp2_with fail
        with_reducible refine HEN.out.mono ?_
        intro e w4 h4
        clear HEN q1 q2 q3 q4 q5 q6 q7 q8 q9 q10 q11
        rcases h4 with ⟨hok, v4, rfl, ⟨B4, rfl, hB4, hbk4, hbl4⟩, hf4⟩ | ⟨hok, rfl, hf4⟩
        · have heb4 := hf4.heap HEB3.out (by simp)
          have e0 := blk_cell heb4 0
          have f0 := blk_free heb4 0
          simp only [List.getElem?_toArray, List.getElem?_cons_zero] at e0
          obtain ⟨W5, hW5⟩ : ∃ W5, w4.setCell ⟨w.heap.size + 1, 0, none⟩ (.int .i64 0) = W5 := ⟨_, rfl⟩
          have hf5 : Fr [w.heap.size + 1] w4 W5 := by rw [← hW5]; exact Fr.setCell w4 ⟨w.heap.size + 1, 0, none⟩ _
          have heb5 : W5.heap[w.heap.size + 1]? = some (.cells #[.int .i64 0] 39 (0, 0)) := by rw [← hW5, blk_set heb4 0]; rfl
          have hpb5 : W5.heap[w.heap.size]? = some (.cells zeroPage.toArray 90 (0, 0)) := hf5.heap (hf4.heap HPB3.out (by simp)) (by simp)
          have hrb5 : W5.heap[rb]? = some (.cells #[sv, .int .i64 kd, .slice pa pl pc, .slice ka kl kc, .slice da dl dc, .slice ga gl gc, .int .i64 nx, .int .u64 ep', .int .i64 rt, .int .i64 dp, .int .i64 ct, .int .i64 hg] 206 (0, 0)) := hf5.heap (hf4.heap HB3.out (by simp)) (by have := HRB.out; simp; omega)
          have hsz3 : w.heap.size + 3 ≤ w3.heap.size := by have h1 := HSZ2.out; have h2 := HF3.out.size; have h3 := HD.out.size; have h4 := HF2.out.size; omega
          have hag5 : Bytes [] W5 (.slice (some ⟨B4, 0, none⟩) 1024 1024) (PageD.encL ⟨kd, prs, ks, ds, gs, nx, ep', rt, dp, ct, hg⟩ s) := by
            have hb5 := hf5.heap hbk4 (by simp; omega)
            have := Slc.ofBlock (S := []) hb5 (by simp) 1024 1024 (Nat.le_refl _)
            unfold Bytes
            rw [hbl4]
            simpa [hbl4] using this
          have harg5 : Bytes [] W5 (.slice a 1024 c) l := by
            have h1 := HD.out.arg [rb, w.heap.size + 1] (fun x hx => by have := HRB.out; simp at hx; omega)
            have h2 := ((h1.kept (HF3.out.mono (by simp))).kept hf4.nil).kept (hf5.mono (S' := [rb, w.heap.size + 1]) (by simp))
            exact h2.mono (by simp)
          have HI5 : Hid (∀ S : List Nat, (∀ x, x ∈ S → x < w.heap.size + 3) → PageIn S W5 ⟨kd, prs, ks, ds, gs, nx, ep', rt, dp, ct, hg⟩ (.slice pa pl pc) (.slice ka kl kc) (.slice da dl dc) (.slice ga gl gc)) := Lib.hid fun S hS =>
            (((HI3.out (S ++ [w.heap.size + 1]) (fun x hx => by have := HSZ2.out; rcases List.mem_append.1 hx with h | h; have := hS x h; omega; have h2 : x = w.heap.size + 1 := (by simpa using h); omega)).kept hf4.nil).kept (hf5.mono (fun x hx _ => List.mem_append.2 (.inr hx)))).mono (fun x hx => List.mem_append.2 (.inl hx))
          have HF5 : Hid (Fr [] w W5) := Lib.hid (((HFW.out.trans hf4).nil.trans hf5).drop (by simp))
          obtain ⟨bb, hbb⟩ : ∃ bb, decide (PageD.encL ⟨kd, prs, ks, ds, gs, nx, ep', rt, dp, ct, hg⟩ s = l) = bb := ⟨_, rfl⟩
          have HEQ := Lib.hid (equalB_k W5 hag5 harg5 hbb)
          have HX : Hid (decP s l = if bb = true then some ⟨kd, prs, ks, ds, gs, nx, ep', rt, dp, ct, hg⟩ else none) := Lib.hid (by rw [HDP.out]; unfold goodP; rw [hok, hbb]; simp)
          have HEB5 := Lib.hid heb5
          have HPB5 := Lib.hid hpb5
          have HRB5 := Lib.hid hrb5
          have HWW := Lib.hid hW5
          have e5 := blk_cell heb5 0
          have f5 := blk_free heb5 0
          simp only [List.getElem?_toArray, List.getElem?_cons_zero] at e5
          clear hok hbk4 hbl4 hf4 heb4 hf5 heb5 hpb5 hrb5 hag5 harg5 hbb hW5
          go_wp2_with fail
          rw [HWW.out]
          clear HWW e0 f0
          with_reducible refine HEQ.out.mono ?_
          rintro e w5 ⟨rfl, rfl⟩
          clear HEQ
          cases bb
          · go_wp2_with fail
            refine (needs_no _).mono ?_
            rintro e w6 ⟨rfl, rfl⟩
            unfold gaveUp
            go_wp2_with fail
            exact dec_gave (x := 0) rfl rfl (Nat.le_refl _) (Nat.le_succ _) HF5.out HPB5.out HEB5.out _ (by rw [HX.out]; rfl)
          · have q1 := blk_cell HRB5.out 1
            have q2 := blk_cell HRB5.out 2
            have q3 := blk_cell HRB5.out 3
            have q4 := blk_cell HRB5.out 4
            have q5 := blk_cell HRB5.out 5
            have q6 := blk_cell HRB5.out 6
            have q7 := blk_cell HRB5.out 7
            have q8 := blk_cell HRB5.out 8
            have q9 := blk_cell HRB5.out 9
            have q10 := blk_cell HRB5.out 10
            have q11 := blk_cell HRB5.out 11
            have z0 := blk_cell HPB5.out 0
            have z1 := blk_cell HPB5.out 1
            have z2 := blk_cell HPB5.out 2
            have z3 := blk_cell HPB5.out 3
            have z4 := blk_cell HPB5.out 4
            have z5 := blk_cell HPB5.out 5
            have z6 := blk_cell HPB5.out 6
            have z7 := blk_cell HPB5.out 7
            have z8 := blk_cell HPB5.out 8
            have z9 := blk_cell HPB5.out 9
            have z10 := blk_cell HPB5.out 10
            have y0 := blk_free HPB5.out 0
            have y1 := blk_free HPB5.out 1
            have y2 := blk_free HPB5.out 2
            have y3 := blk_free HPB5.out 3
            have y4 := blk_free HPB5.out 4
            have y5 := blk_free HPB5.out 5
            have y6 := blk_free HPB5.out 6
            have y7 := blk_free HPB5.out 7
            have y8 := blk_free HPB5.out 8
            have y9 := blk_free HPB5.out 9
            have y10 := blk_free HPB5.out 10
            simp only [zeroPage, List.getElem?_toArray, List.getElem?_cons_zero, List.getElem?_cons_succ] at q1 q2 q3 q4 q5 q6 q7 q8 q9 q10 q11 z0 z1 z2 z3 z4 z5 z6 z7 z8 z9 z10
            have HST := Lib.hid (set11 HPB5.out rfl (.int .i64 kd) (.slice pa pl pc) (.slice ka kl kc) (.slice da dl dc) (.slice ga gl gc) (.int .i64 nx) (.int .u64 ep') (.int .i64 rt) (.int .i64 dp) (.int .i64 ct) (.int .i64 hg))
            have HFN : Hid (∀ wz, wz.heap[w.heap.size]? = some (.cells (List.toArray [.int .i64 kd, .slice pa pl pc, .slice ka kl kc, .slice da dl dc, .slice ga gl gc, .int .i64 nx, .int .u64 ep', .int .i64 rt, .int .i64 dp, .int .i64 ct, .int .i64 hg]) 90 (0, 0)) → Fr [w.heap.size] W5 wz →
                Fr [] w (wz.setCell ⟨w.heap.size + 1, 0, none⟩ (.int .i64 0)) ∧ (wz.setCell ⟨w.heap.size + 1, 0, none⟩ (.int .i64 0)).heap[w.heap.size]? = some (.cells (List.toArray [.int .i64 kd, .slice pa pl pc, .slice ka kl kc, .slice da dl dc, .slice ga gl gc, .int .i64 nx, .int .u64 ep', .int .i64 rt, .int .i64 dp, .int .i64 ct, .int .i64 hg]) 90 (0, 0)) ∧
                (wz.setCell ⟨w.heap.size + 1, 0, none⟩ (.int .i64 0)).heap[w.heap.size + 1]? = some (.cells #[.int .i64 0] 39 (0, 0)) ∧
                ∀ S : List Nat, (∀ x, x ∈ S → x < w.heap.size) → PageIn (S ++ [w.heap.size + 1]) (wz.setCell ⟨w.heap.size + 1, 0, none⟩ (.int .i64 0)) ⟨kd, prs, ks, ds, gs, nx, ep', rt, dp, ct, hg⟩ (.slice pa pl pc) (.slice ka kl kc) (.slice da dl dc) (.slice ga gl gc)) := Lib.hid fun wz hbz hfz => by
              have hf2 := Fr.setCell wz ⟨w.heap.size + 1, 0, none⟩ (.int .i64 0)
              refine ⟨(HF5.out.nil.trans ((hfz.mono (S' := [w.heap.size, w.heap.size + 1]) (by simp)).trans (hf2.mono (by simp)))).drop (S := [w.heap.size, w.heap.size + 1]) (by simp), hf2.heap hbz (by simp), ?_, ?_⟩
              · rw [blk_set (hfz.heap HEB5.out (by simp)) 0]; rfl
              · intro S hS
                have h1 := (HI5.out (S ++ [w.heap.size, w.heap.size + 1]) (fun x hx => by
                  rcases List.mem_append.1 hx with h | h
                  · have := hS x h; omega
                  · simp at h; omega)).kept (hfz.mono (S' := S ++ [w.heap.size, w.heap.size + 1]) (fun x hx _ => List.mem_append.2 (.inr (by simp at hx; simp [hx]))))
                exact (h1.kept (hf2.mono (S' := S ++ [w.heap.size, w.heap.size + 1]) (fun x hx _ => List.mem_append.2 (.inr (by simp at hx; simp [hx]))))).mono (fun x hx => by
                  rcases List.mem_append.1 hx with h | h
                  · exact List.mem_append.2 (.inl h)
                  · exact List.mem_append.2 (.inr (by simp at h; simp [h])))
            go_wp2_with fail
            refine (needs_yes _).mono ?_
            rintro e w6 ⟨rfl, rfl⟩
            go_wp2_with fail
            have HFF := HFN.out _ HST.out.1 HST.out.2
            exact dec_told (p := ⟨kd, prs, ks, ds, gs, nx, ep', rt, dp, ct, hg⟩) rfl rfl (Nat.le_refl _) (Nat.le_succ _) HFF.1 HFF.2.1 HFF.2.2.1 HFF.2.2.2 _ (by rw [HX.out]; rfl)
        · have heb4 := hf4.heap HEB3.out (by simp)
          have e0 := blk_cell heb4 0
          have f0 := blk_free heb4 0
          simp only [List.getElem?_toArray, List.getElem?_cons_zero] at e0
          have hf5 := Fr.setCell w4 ⟨w.heap.size + 1, 0, none⟩ (.int .i64 50)
          have heb5 : (w4.setCell ⟨w.heap.size + 1, 0, none⟩ (.int .i64 50)).heap[w.heap.size + 1]? = some (.cells #[.int .i64 50] 39 (0, 0)) := by rw [blk_set heb4 0]; rfl
          have hpb5 : (w4.setCell ⟨w.heap.size + 1, 0, none⟩ (.int .i64 50)).heap[w.heap.size]? = some (.cells zeroPage.toArray 90 (0, 0)) := hf5.heap (hf4.heap HPB3.out (by simp)) (by simp)
          have HX : Hid (decP s l = none) := Lib.hid (by rw [HDP.out]; unfold goodP; rw [hok]; rfl)
          have HF5 : Hid (Fr [] w (w4.setCell ⟨w.heap.size + 1, 0, none⟩ (.int .i64 50))) := Lib.hid (((HFW.out.trans hf4).nil.trans hf5).drop (by simp))
          have HEB5 := Lib.hid heb5
          have HPB5 := Lib.hid hpb5
          clear hok hf4 hf5 heb4 heb5 hpb5
          go_wp2_with fail
          refine (needs_no _).mono ?_
          rintro e w6 ⟨rfl, rfl⟩
          unfold gaveUp
          go_wp2_with fail
          exact dec_gave (x := 50) rfl rfl (Nat.le_refl _) (Nat.le_succ _) HF5.out HPB5.out HEB5.out _ HX.out
      · have HX : Hid (decP s l = none) := Lib.hid (by unfold decP; rw [if_pos HL.out, HRAW.out, hp])
        clear hp
        unfold gaveUp
        go_wp2_with fail
        exact dec_gave (x := 0) rfl rfl (Nat.le_refl _) (Nat.le_succ _) HFW.out HPB3.out HEB3.out _ HX.out
theorem decode_k {S : List Nat} {v : Value} {l : List UInt8} (s : Int) (w : World) (h : Bytes S w v l) (hm : l.length ≤ 1048576) :
    Calls Tryz.prog 113 #[.int .i64 s, v] w (decPost w (decP s l)) := by
  by_cases hl : l.length = 1024
  · exact dec_long s w (h.mono (by simp)) hl
  · have e : decP s l = none := by unfold decP; rw [if_neg hl]
    rw [e]
    exact dec_short s w (h.mono (by simp)) hl hm
end Go.Proofs.YtgpohemcfgepeaaGreat
