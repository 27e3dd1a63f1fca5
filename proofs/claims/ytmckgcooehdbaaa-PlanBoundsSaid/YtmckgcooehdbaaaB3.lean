/- The contract of scan.Behind: the row is what behindB says. No condition beyond those that each theorem names. -/
import Derived.Test.YtmckgcooehdbaaaB2
set_option linter.unusedVariables false
set_option linter.unusedSimpArgs false
namespace Go.Proofs.Ytmckgcooehdbaaa
open Go.RowKit Go.Proofs.YtmckgcooehdbaaaW.PrintWords

/-- How many bytes are left when those of 255 at the end are gone. -/
def behindN (xs : List Int) : Nat → Nat
  | 0 => 0
  | n + 1 => if rd xs n = 255 then behindN xs n else n + 1
/-- The least row above all that begin so; none: there is no such row. -/
def behindB (xs : List Int) : List Int :=
  if behindN xs xs.length = 0 then [] else (xs.take (behindN xs xs.length)).set (behindN xs xs.length - 1) ((rd xs ((behindN xs xs.length - 1 : Nat) : Int) + 1) % 256)

theorem reads_take {w : World} {A : Option Addr} {n : Nat} {xs : List Int} (h : ReadsInt w .u8 A n xs) (k : Nat) (hk : k ≤ n) : ReadsInt w .u8 A k (xs.take k) := by
  refine ⟨by have := h.1; simp; omega, by have := h.2.1; omega, fun h0 => ?_⟩
  obtain ⟨ad, e, hc⟩ := h.2.2 (by omega)
  refine ⟨ad, e, fun j hj => ?_⟩
  rw [hc j (by omega)]
  have hl := h.1
  simp [List.getD_eq_getElem?_getD, List.getElem?_take, hj]

set_option maxHeartbeats 4000000 in
set_option maxRecDepth 100000 in
theorem behind_any (A : Option Addr) (n c : Nat) (xs : List Int) (w : World) (h : ReadsInt w .u8 A n xs) (hn : n ≤ 1000000) (hnc : n ≤ c) (hby : ∀ i : Nat, 0 ≤ rd xs i ∧ rd xs i ≤ 255) :
    Calls Try.prog 39 #[.slice A n c] w fun e w' => TellsBytes (· = behindB xs) w e w' := by
  have hl := h.1
  subst hl
  have HR := Lib.hid h
  have HY := Lib.hid hby
  clear h hby
  go_enter Try.func39, Try.ntmps39
  go_wp2
  go_loop [3] (fun v3 => ∃ m : Nat, v3 = .int .i64 m ∧ m ≤ xs.length ∧ Aside0 (behindN xs m = behindN xs xs.length)) (fun v3 => (intOf v3).toNat)
  case atStart => exact ⟨xs.length, rfl, Nat.le_refl _, ⟨rfl⟩⟩
  case round =>
    obtain ⟨m, rfl, hm, HM⟩ := hrel
    rcases m with _ | m
    · have HE : Hid (behindB xs = []) := by
        show behindB xs = []
        unfold behindB
        rw [if_pos (by rw [← HM.out]; rfl)]
      clear HM
      go_wp2
      go_ret
      exact TellsBytes.mk_ (xs := []) rfl (own_nil w w.heap.size 5 1) HE.out.symm (Below.refl _ _)
    · obtain ⟨ad, ea, hc0⟩ := ReadsInt.at_ HR.out (m : Int) (by omega) (by omega)
      subst ea
      have hc : w.cell? (ad.add m) = some (.int .u8 (rd xs m)) := hc0
      clear hc0
      have p0 : ((m : Int) + 1 - 1) = m := by omega
      by_cases h255 : rd xs m = 255
      · have HM2 : Aside0 (behindN xs m = behindN xs xs.length) := ⟨by rw [← HM.out]; simp only [behindN]; rw [if_pos h255]⟩
        have hb : (rd xs m == 255) = true := beq_iff_eq.mpr h255
        clear h255 HM p0
        go_wp2
        go_round
        case rel => exact ⟨m, by simp, by omega, HM2⟩
        case measure => simp [intOf]
      · have hb : (rd xs m == 255) = false := beq_eq_false_iff_ne.mpr h255
        have HM2 : Aside0 (behindN xs xs.length = m + 1) := ⟨by rw [← HM.out]; simp only [behindN]; rw [if_neg h255]⟩
        have HE : Hid (behindB xs = (xs.take (m + 1)).set m ((rd xs m + 1) % 256)) := by
          show behindB xs = _
          unfold behindB
          rw [if_neg (by rw [HM2.out]; omega), HM2.out]
          rfl
        clear h255 HM HM2 p0
        go_wp2_with fail
        have HT := Lib.hid (reads_take HR.out (m + 1) hm)
        refine (clone_any ad (m + 1) c _ w HT.out (by omega)).mono ?_
        rintro e w1 ⟨v1, ys, rfl, ho, rfl, hb1⟩
        have ho1 : w1.ownsRow w.heap.size 5 1 v1 (m + 1) (nums .u8 (xs.take (m + 1))) := by
          have h := ho
          have hlen : (xs.take (m + 1)).length = m + 1 := by simp; omega
          rw [OwnB, hlen] at h
          exact h
        clear ho
        obtain ⟨g, cap, rfl, hgb, hgl⟩ := ho1.form (by omega)
        obtain ⟨hcg, hfg⟩ := own_at ho1 (m : Int) (by omega) (by omega)
        have hrd : rd (xs.take (m + 1)) m = rd xs m := by simp [rd, List.getD_eq_getElem?_getD, List.getElem?_take]
        rw [hrd] at hcg
        have hy := HY.out m
        have hs := own_store ho1 (m : Int) ((rd xs m + 1) % 256)
        obtain ⟨hs1, hs2⟩ := hs
        have HO : Hid (OwnB (w1.setCell ⟨g, m, none⟩ (.int .u8 ((rd xs m + 1) % 256))) w.heap.size (.slice (some ⟨g, 0, none⟩) (m + 1) cap) (behindB xs)) := by
          rw [HE.out]
          have hlen : ((xs.take (m + 1)).set m ((rd xs m + 1) % 256)).length = m + 1 := by simp; omega
          unfold Hid OwnB
          rw [hlen]
          exact hs1
        have HB : Hid (Below w.heap.size w (w1.setCell ⟨g, m, none⟩ (.int .u8 ((rd xs m + 1) % 256)))) := hb1.setCell hgb _
        simp only [Int.toNat_natCast] at hcg hfg
        generalize rd xs m = x at *
        clear ho1 hs1 hs2 hrd HT HE hb1 hc
        go_wp2
        go_ret
        exact TellsBytes.mk_ rfl HO.out rfl HB.out

/-- A text's bytes. -/
def bytesB (s : ByteArray) : List Int := s.toList.map fun b => (b.toNat : Int)

end Go.Proofs.Ytmckgcooehdbaaa
