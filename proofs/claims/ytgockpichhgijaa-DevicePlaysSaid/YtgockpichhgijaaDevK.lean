/- The keys of a device's map, sorted; bytes.Equal. -/
import Derived.Test.YtgockpichhgijaaDevJ
import Derived.Test.YtgockpichhgijaaIter
import Derived.Lib.SlKeysI
namespace Go.Proofs.Ytgockpichhgijaa
open Go.RowKit Go.MapKept Go.WideElems

def keysOf (n : Nat) (g : Int → Option (List UInt8)) : List Int := ((List.range n).map Int.ofNat).filter fun k => (g k).isSome
theorem mem_keysOf {n : Nat} {g : Int → Option (List UInt8)} (hk : ∀ k l, g k = some l → 0 ≤ k ∧ k < n) {k : Int} : k ∈ keysOf n g ↔ (g k).isSome := by
  unfold keysOf
  rw [List.mem_filter]
  constructor
  · exact fun h => h.2
  · intro h
    refine ⟨?_, h⟩
    obtain ⟨l, hl⟩ := Option.isSome_iff_exists.1 h
    have := hk k l hl
    rw [List.mem_map]
    exact ⟨k.toNat, by rw [List.mem_range]; omega, by simp; omega⟩
theorem pairwise_range_int (n : Nat) : ((List.range n).map Int.ofNat).Pairwise (· < ·) := by
  rw [List.pairwise_map]
  refine (List.pairwise_lt_range (n := n)).imp ?_
  intro a b h; simp; omega
theorem keysOf_sorted (n : Nat) (g : Int → Option (List UInt8)) : (keysOf n g).Pairwise (· < ·) := List.Pairwise.filter _ (pairwise_range_int n)

theorem keysOf_length (n : Nat) (g : Int → Option (List UInt8)) : (keysOf n g).length ≤ n := by
  unfold keysOf
  refine Nat.le_trans (List.length_filter_le _ _) ?_
  simp

/-- What is sorted and has the same members is one. -/
theorem sorted_is {ss K : List Int} (hss : ss.Nodup) (hK : K.Pairwise (· < ·)) (hm : ∀ x, x ∈ ss ↔ x ∈ K) : ss.mergeSort leI = K := by
  have hn : K.Nodup := hK.imp (fun h => by omega)
  have hp : ss.Perm K := (List.perm_ext_iff_of_nodup hss hn).2 hm
  have tr : ∀ a b c : Int, leI a b = true → leI b c = true → leI a c = true := fun a b c h1 h2 => by simp only [leI, decide_eq_true_eq] at *; omega
  have to : ∀ a b : Int, (leI a b || leI b a) = true := fun a b => by simp only [leI, Bool.or_eq_true, decide_eq_true_eq]; omega
  refine List.Perm.eq_of_pairwise (le := fun a b => leI a b = true) (fun a b _ _ h1 h2 => ?_) (List.pairwise_mergeSort tr to ss) (hK.imp (fun h => by simp only [leI, decide_eq_true_eq]; omega)) ((List.mergeSort_perm ss leI).trans hp)
  simp only [leI, decide_eq_true_eq] at h1 h2
  omega

def anyR (_ : Value) : Option (DataW Unit × List MemPlace) := some (.nil, [])

/-- A map in the device's sense is one in the library's. -/
theorem BM.owns {S : List Nat} {w : World} {r n : Nat} {g : Int → Option (List UInt8)} (h : BM S w r g) (hk : ∀ k l, g k = some l → 0 ≤ k ∧ k < n) (hn : n ≤ 4096) :
    ∃ D0 : DataW Unit, w.ownsMap Try.prog 3 anyR r n D0 ∧ Maps.size D0 ≤ n ∧ (∀ x, x ∈ intKeys D0 ↔ (g x).isSome) ∧ (intKeys D0).Nodup := by
  obtain ⟨f, ⟨es, clock, hb, hs, hks, hf⟩, hg⟩ := h
  have hkey : ∀ x ∈ es.toList, ∃ k : Int, x.key = .int .i64 k ∧ 0 ≤ k ∧ k < n := by
    intro x hx
    obtain ⟨k, hk'⟩ := hks x hx
    refine ⟨k, hk', ?_⟩
    have hfk := (hf k x.val).2 ⟨x, hx, hk', rfl⟩
    cases hgk : g k with
    | none => rw [(hg k).1 hgk] at hfk; cases hfk
    | some l => exact hk k l hgk
  have hrd : ∀ x ∈ es.toList, ∃ k : Int, x.key = .int .i64 k ∧ rd Try.prog 3 anyR x = some (.int .i64 k, .nil) := by
    intro x hx
    obtain ⟨k, hk', h0, h1⟩ := hkey x hx
    refine ⟨k, hk', ?_⟩
    unfold rd anyR
    rw [hk', Go.Maps.keyOf_int_mk Try.underlying3 (by simp [Lit.wf, IntKind.min, IntKind.max, IntKind.bits, IntKind.signed]; omega)]
    rfl
  have hrg : ∀ x ∈ es.toList, ∃ k : Int, x.key = .int .i64 k ∧ rg Try.prog 3 anyR x = (.int .i64 k, .nil) := by
    intro x hx
    obtain ⟨k, hk', h1⟩ := hrd x hx
    exact ⟨k, hk', by unfold rg; rw [h1]; rfl⟩
  have hkn : (es.toList.map fun x => (rg Try.prog 3 anyR x).1).map Go.intOf = es.toList.map fun x => (match x.key with | .int _ k => k | _ => 0) := by
    rw [List.map_map]
    apply List.map_congr_left
    intro x hx
    obtain ⟨k, hk', h1⟩ := hrg x hx
    simp [h1, hk', Go.intOf]
  have hnd : (es.toList.map fun x => (match x.key with | .int _ k => k | _ => (0 : Int))).Nodup := by
    have hn := ((stamped_iff es clock).1 hs).2.2
    rw [List.Nodup, List.pairwise_map]
    refine hn.imp_of_mem ?_
    intro x y hx hy hne e
    obtain ⟨k, hk1, _⟩ := hkey x hx
    obtain ⟨j, hj1, _⟩ := hkey y hy
    rw [hk1, hj1] at e
    simp only at e
    subst e
    exact hne (hk1.trans hj1.symm)
  have hsz : es.size ≤ n := by
    have := List.Nodup.length_le_of_subset (l₂ := (List.range n).map Int.ofNat) hnd (by
      intro k hk'
      obtain ⟨x, hx, rfl⟩ := List.mem_map.1 hk'
      obtain ⟨j, hj, h0, h1⟩ := hkey x hx
      rw [hj, List.mem_map]
      exact ⟨j.toNat, by rw [List.mem_range]; omega, by simp; omega⟩)
    simpa using this
  have hperm : (intKeys (.map ((es.toList.map (rg Try.prog 3 anyR)).foldr DataW.insert []) : DataW Unit)).Perm (es.toList.map fun x => (match x.key with | .int _ k => k | _ => (0 : Int))) := by
    rw [← hkn, List.map_map]
    show (List.map (fun p : Lit × DataW Unit => Go.intOf p.1) _).Perm _
    refine ((Go.WideShapes.sorted_perm _).map _).trans ?_
    rw [List.map_map]
    exact List.Perm.refl _
  refine ⟨.map ((es.toList.map (rg Try.prog 3 anyR)).foldr DataW.insert []), ⟨es, clock, hb, ⟨by unfold maxLen; omega, hs, fun x hx => by obtain ⟨k, _, h1⟩ := hrd x hx; exact ⟨_, h1⟩⟩, hsz, rfl⟩, ?_, fun x => ?_, ?_⟩
  · show (List.length _) ≤ n
    rw [length_sorted, List.length_map]
    simpa using hsz
  · rw [hperm.mem_iff, List.mem_map]
    constructor
    · rintro ⟨y, hy, rfl⟩
      obtain ⟨k, hk1, _⟩ := hkey y hy
      rw [hk1]
      have hfk := (hf k y.val).2 ⟨y, hy, hk1, rfl⟩
      cases hgk : g k with
      | none => rw [(hg k).1 hgk] at hfk; cases hfk
      | some l => rfl
    · intro hx
      obtain ⟨l, hl⟩ := Option.isSome_iff_exists.1 hx
      obtain ⟨v, hv, _⟩ := (hg x).2 l hl
      obtain ⟨y, hy, hyk, _⟩ := (hf x v).1 hv
      exact ⟨y, hy, by rw [hyk]⟩
  · exact hperm.nodup_iff.2 hnd

theorem keys_k (mb : Option Nat) (w : World) : Calls Try.prog 43 #[.map mb] w fun e w' => e = .returned (.func (.func 50) #[] #[.pointer (some ⟨w.heap.size, 0, none⟩)]) ∧ w' = w.alloc (.cells #[.map mb] 58) :=
  (callsIn_wide (n := 5)).1 (AnyZI.keys_in Try.keysDev Fence.wide 5 trivial rfl mb w)

theorem sortsIn (m : Nat) : AnyZI.SortsIn Try.prog Try.sortedInt_ren Fence.wide m :=
  ⟨fun blk off cap ss W hH hblk hsz => callsIn_wide.2 (AnyM.slices_Sort_int Try.sortInt blk off cap ss W hH hblk hsz),
   fun p cap W => callsIn_wide.2 (AnyM.slices_Sort_int_none Try.sortInt p cap W)⟩

/-- slices.Sorted at what maps.Keys has handed back. -/
theorem sorted_k {S : List Nat} {r n : Nat} {g : Int → Option (List UInt8)} (w : World) (h : BM S w r g) (hk : ∀ k l, g k = some l → 0 ≤ k ∧ k < n) (hn : n ≤ 4096) :
    Calls Try.prog 42 #[.func (.func 50) #[] #[.pointer (some ⟨w.heap.size, 0, none⟩)]] (w.alloc (.cells #[.map (some r)] 58)) fun e w' => ∃ v, e = .returned v ∧
      w'.ownsRow w.heap.size 3 1 v (keysOf n g).length ((keysOf n g).map intV) ∧ Fr [] w w' := by
  obtain ⟨D0, hown, hsz, hmem, hnd⟩ := h.owns hk hn
  have hbl := hown.lt
  have hseq : SeqGives Fence.wide 2 Try.prog 50 #[.pointer (some ⟨w.heap.size, 0, none⟩)] encZ (fun ss => ss.Perm (intKeys D0)) (Maps.size D0) (w.alloc (.cells #[.map (some r)] 58)) :=
    AnyZI.keys_gives (ρ := Try.keysDev_ren) { Try.keysDev with } Fence.wide _ trivial rfl (by omega) w.heap.size r n D0 _ (by simp) (by simp) (by
      obtain ⟨es, clock, hb, Ft, hs, hD⟩ := hown
      exact ⟨es, clock, (Below.heap_alloc _ _ r hbl).trans hb, Ft, hs, hD⟩)
  have cS := AnyZI.sorted_in Try.sortedInt Fence.wide 5 trivial trivial trivial trivial rfl (by omega) (sortsIn _) (enters_of Try.func49 (by kernel_rfl) rfl) 50 #[.pointer (some ⟨w.heap.size, 0, none⟩)] trivial (enters_of Try.func50 (by kernel_rfl) rfl) _ _ (by unfold maxLen; omega) (by omega) _ hseq
  refine ((callsIn_wide (n := 5)).1 cS).mono ?_
  rintro e w' ⟨v, ss, rfl, hS, hrow, hnil, hb⟩
  have hss : ss.Nodup := hS.nodup_iff.2 hnd
  have hms := sorted_is hss (keysOf_sorted n g) (fun x => by rw [hS.mem_iff, hmem, mem_keysOf hk])
  have hlen : ss.length = (keysOf n g).length := by rw [← hms]; exact (List.length_mergeSort ss).symm
  refine ⟨v, rfl, ?_, (Fr.alloc1 _ _).trans (Fr.of_below hb)⟩
  have := ownsBase hrow (base' := w.heap.size) (by simp)
  rw [hlen, hms] at this
  exact this

/-- bytes.Equal. -/
theorem equal_k {S S' : List Nat} {a c : Value} {la lc : List UInt8} (w : World) (ha : Bytes S w a la) (hc : Bytes S' w c lc) :
    Calls Try.prog 44 #[a, c] w fun e w' => e = .returned (.bool (decide (la = lc))) ∧ w = w' := by
  have h1 := run_string_bytes (P := Try.prog) (src := 23) (dst := 9) (e := 5) Try.underlying23 Try.underlying5 Try.underlying9 ha
  have h2 := run_string_bytes (P := Try.prog) (src := 23) (dst := 9) (e := 5) Try.underlying23 Try.underlying5 Try.underlying9 hc
  clear ha hc
  go_enter Try.func44, Try.ntmps44
  go_wp2
  go_ret
  have hd : (la == lc) = decide (la = lc) := by rw [Bool.eq_iff_iff]; simp
  exact ⟨by rw [← hd]; rfl, rfl⟩
end Go.Proofs.Ytgockpichhgijaa
