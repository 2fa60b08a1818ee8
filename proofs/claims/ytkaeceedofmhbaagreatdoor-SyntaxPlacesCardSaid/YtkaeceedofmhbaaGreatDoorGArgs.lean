/-
  A slice of bytes that is handed in: as a text.
-/
import Derived.Test.YtkaeceedofmhbaaGreatDoorGLaid
import Derived.Test.YtkaeceedofmhbaaGreatDoorGLaw6
import Derived.SizedLaws
import Derived.ChangeSlices
import Derived.ChangeOld
import Derived.OpenShut
namespace Go.Proofs.YtkaeceedofmhbaaGreatDoor
open Go.ChangeShapes Go.WideShapes Go.ChangeAt Go.RowKit Bk

theorem laid_out : laidOutB Tryz.prog = true := by kernel_rfl

section
variable {H : Type} {enc : TypeId × Value → H} {W : World} {base : Nat} {spare : Nat → Bool} {held : Bool} {a : Option Addr} {len cap : Nat} {d : DataW H} {ps : List MemPlace} {ts : List TypeId} {ds : List (DataW H)} {j : Nat}

/-- No longer than its weight allows. -/
theorem sized_bytes (hsz : (DataW.weightsEach Tryz.prog ts ds).all (· ≤ reachBytes) = true) (ht : ts[j]? = some 34) (hd : ds[j]? = some d) (h : DataW.Trod enc Tryz.prog W base spare held 34 (.slice a len cap) d ps) : len ≤ 140737488351232 := by
  obtain ⟨fuel, hf⟩ := h
  rcases open_ints Tryz.underlying34 Tryz.underlying5 (by kernel_rfl) hf with ⟨hcs, _⟩ | ⟨x, l, c, zs, hcs, _, hl, _, hz, hx, _, _⟩
  · simp [Value.cells] at hcs
    obtain ⟨rfl, rfl, rfl⟩ := hcs
    simp
  · simp [Value.cells] at hcs
    obtain ⟨rfl, rfl, rfl⟩ := hcs
    obtain ⟨hx, _⟩ := Prod.mk.inj hx
    subst hx
    have z := sized_slice hsz ht hd Tryz.underlying34
    rw [show Tryz.prog.bytesOf 5 = 1 by kernel_rfl, Nat.mul_one] at z
    have hl2 : len ≤ zs.length := by
      rw [hz]
      split
      · exact hl
      · exact Nat.le_refl _
    have h1 : (ChangeShapes.lits (H := H) .u8 (zs.take len)).length + (ChangeShapes.lits (H := H) .u8 (zs.drop len)).length = zs.length := by
      simp [ChangeShapes.lits]
      omega
    rw [h1] at z
    exact Nat.le_trans hl2 z

/-- What is handed in is a text. -/
theorem text_arg (h : DataW.Trod enc Tryz.prog W 0 spare held 34 (.slice a len cap) d ps) : ∃ src : Bytes, src.length = len ∧ Txt (fun k => k < W.heap.size) W (.slice a len cap) src ∧ NilOK (.slice a len cap) := by
  obtain ⟨fuel, hf⟩ := h
  rcases open_ints Tryz.underlying34 Tryz.underlying5 (by kernel_rfl) hf with ⟨hcs, _⟩ | ⟨x, l, c, zs, hcs, _, hl, hm, hz, _, hcell, hwf⟩
  · simp [Value.cells] at hcs
    obtain ⟨rfl, rfl, rfl⟩ := hcs
    exact ⟨[], rfl, ⟨none, 0, rfl, Nat.le_refl _, Nat.zero_le _, fun h => absurd rfl h⟩, fun n c h => by cases h; exact ⟨rfl, rfl⟩⟩
  · simp [Value.cells] at hcs
    obtain ⟨rfl, rfl, rfl⟩ := hcs
    have hl2 : len ≤ zs.length := by
      rw [hz]
      split
      · exact hl
      · exact Nat.le_refl _
    have hlen : ((zs.take len).map fun z => UInt8.ofNat z.toNat).length = len := by rw [List.length_map, List.length_take]; omega
    refine ⟨(zs.take len).map fun z => UInt8.ofNat z.toNat, hlen, ⟨some x, cap, by rw [hlen], by rw [hlen]; exact hl, hm, fun hne => ?_⟩, nilOK_some _ _ _⟩
    have h0 : 0 < len := by rw [← hlen]; exact List.length_pos_iff.2 hne
    have c0 := hcell 0 (by omega)
    have hs : x.spot = none := by
      have e : x.add 0 = x := by simp [Addr.add]
      rw [e] at c0
      exact World.cell?_spot c0
    obtain ⟨b, off, sp⟩ := x
    obtain rfl : sp = none := hs
    have hadd : ∀ i, (⟨b, off, none⟩ : Addr).add i = ⟨b, off + i, none⟩ := fun i => by unfold Addr.add; split <;> simp_all
    refine ⟨b, off, rfl, ?_, fun i hi => ?_⟩
    · rw [hadd] at c0
      refine Classical.byContradiction fun hn => ?_
      simp [World.cell?, Array.getElem?_eq_none (show W.heap.size ≤ b from Nat.le_of_not_lt hn)] at c0
    · rw [hlen] at hi
      have ci := hcell i (by omega)
      rw [hadd] at ci
      rw [ci]
      have hz2 : zs.getD i 0 = zs[i] := by simp [List.getD, List.getElem?_eq_getElem (show i < zs.length by omega)]
      have hw := hwf zs[i] (List.getElem_mem _)
      have hr : 0 ≤ zs[i] ∧ zs[i] ≤ 255 := by simpa [Lit.wf, IntKind.min, IntKind.max, IntKind.signed, IntKind.bits] using hw
      rw [hz2, List.getElem_map, List.getElem_take, UInt8.toNat_ofNat', Nat.mod_eq_of_lt (by omega)]
      congr 1; congr 1; omega
end
end Go.Proofs.YtkaeceedofmhbaaGreatDoor
