/- a part. -/
import Derived.Test.YtgpohemcfgepeaaGreatGB
import Derived.BigQuiet
namespace Go.Proofs.YtgpohemcfgepeaaGreat
open Go.RowKit Go.MapKept
attribute [local go_sem] ldOp
def openPost (w : World) (b ml mc : Nat) (R : Int × Option StD) (e : Ending) (w' : World) : Prop :=
  Fr [] w w' ∧ ((R.2 = none ∧ e = .returned (.tuple #[.pointer none, .int .i64 R.1])) ∨
    ∃ T sb fm, R = (0, some T) ∧ w.heap.size ≤ sb ∧ w.heap.size ≤ fm ∧ e = .returned (.tuple #[.pointer (some ⟨sb, 0, none⟩), .int .i64 0]) ∧ StoAt w' sb b ml mc fm T)
structure OpAt (w wr : World) (b gs : Nat) (sp : PageD) (pa : Option Addr) (pc : Nat) (ka : Option Addr) (kc : Nat) (da : Option Addr) (dc : Nat) (ga : Option Addr) (gc : Nat) (ls : List Int) (ll : List (List Int)) (lvS lvL : Value) : Prop where
  bs : wr.heap[gs]? = some (.cells (pageCells sp (.slice pa sp.pairs.length pc) (.slice ka sp.keys.length kc) (.slice da sp.kids.length dc) (.slice ga sp.pages.length gc)).toArray 90 (0, 0))
  bb : wr.heap[gs + 1]? = some (.cells (stN b sp (.slice pa sp.pairs.length pc) (.slice ka sp.keys.length kc) (.slice da sp.kids.length dc) (.slice ga sp.pages.length gc) lvS 0 nilV nilV 0 nilV nilV).toArray 113 (0, 0))
  bp : wr.heap[gs + 2]? = some (.cells #[.pointer (some ⟨gs + 1, 0, none⟩)] 50 (0, 0))
  pg : ∀ S : List Nat, (∀ x, x ∈ S → x < w.heap.size ∨ gs ≤ x) → PageIn S wr sp (.slice pa sp.pairs.length pc) (.slice ka sp.keys.length kc) (.slice da sp.kids.length dc) (.slice ga sp.pages.length gc)
  fr : Fr [] w wr
  rowS : wr.ownsRow (gs + 3) 3 1 lvS ls.length (ls.map intV)
  rowL : ∃ vs, vs.length = ll.length ∧ wr.ownsRow (gs + 3) 70 1 lvL ll.length vs ∧ ∀ (i : Nat) (x : Value) (l : List Int), vs[i]? = some x → ll[i]? = some l → Ints ([gs + 1] ++ lvS.ownBlock.toList ++ lvL.ownBlock.toList) wr x l
  ne : ∀ g, lvS.ownBlock = some g → lvL.ownBlock ≠ some g
  old : w.heap.size ≤ gs
end Go.Proofs.YtgpohemcfgepeaaGreat

namespace Go.Proofs.YtgpohemcfgepeaaGreat
open Go.RowKit Go.MapKept
attribute [local go_sem] ldOp
end Go.Proofs.YtgpohemcfgepeaaGreat
