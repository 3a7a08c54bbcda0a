/-
  Slices of bytes. Conditions: none.
-/
import Derived.Test.YtnedoaapnfpkfaaBase
namespace Go.Proofs.Ytnedoaapnfpkfaa
open Go.RowKit

def encU (z : Int) : List Value := [.int .u8 z]
theorem encU_len (z : Int) : (encU z).length = 1 := rfl
theorem SliceAt.u_at {w : World} {p : Option Addr} {cap : Nat} {l : List Int} (h : SliceAt w encU 1 p cap l) {j : Nat} (hj : j < l.length) :
    ∃ b off, p = some ⟨b, off, none⟩ ∧ b < w.heap.size ∧ w.cell? ⟨b, off + j, none⟩ = some (.int .u8 l[j]) := by
  obtain ⟨b, off, hp, hb, hc⟩ := h.place (by omega)
  exact ⟨b, off, hp, hb, by simpa using hc j hj 0 (.int .u8 l[j]) rfl⟩

end Go.Proofs.Ytnedoaapnfpkfaa
