/- The contract of Runes: two rows of one length, for every text of at most 100000 bytes. No condition beyond those that each theorem names. -/
import Derived.Test.YtmckgcooehdbaaaA2
set_option linter.unusedVariables false
set_option linter.unusedSimpArgs false
namespace Go.Proofs.Ytmckgcooehdbaaa
open Go.RowKit Go.Proofs.YtmckgcooehdbaaaW.PrintWords

theorem info3 : (Try.prog.info? 3).map (fun i => (i.zero, i.size, i.bytes)) = some (some (.int .i64 0), 1, 8) := by kernel_rfl
theorem info5 : (Try.prog.info? 5).map (fun i => (i.zero, i.size, i.bytes)) = some (some (.int .u8 0), 1, 1) := by kernel_rfl

/-- Two rows of numbers of the call's own. -/
def TwoRows (w : World) (w' : World) (v0 v1 : Value) (rs ats : List Int) : Prop :=
  w'.ownsRow w.heap.size 3 1 v0 rs.length (nums .i64 rs) ∧ w'.ownsRow w.heap.size 3 1 v1 ats.length (nums .i64 ats) ∧ (v0.ownBlock = none ∨ v0.ownBlock ≠ v1.ownBlock) ∧ Below w.heap.size w w'
def TellsRunes (s : ByteArray) (w : World) (e : Ending) (w' : World) : Prop :=
  ∃ v0 v1 rs ats, e = .returned (.tuple #[v0, v1]) ∧ TwoRows w w' v0 v1 rs ats ∧ rs.length = ats.length ∧ rs.length ≤ s.size

theorem TwoRows.refl (w : World) : TwoRows w w (.slice none 0 0) (.slice none 0 0) [] [] :=
  ⟨own_nil w _ _ _, own_nil w _ _ _, .inl rfl, Below.refl _ _⟩
/-- The first row has grown. -/
theorem TwoRows.one {w W w1 : World} {v0 v1 v : Value} {rs ats rs1 : List Int} (h : TwoRows w W v0 v1 rs ats) (hb : w.heap.size ≤ W.heap.size)
    (hown : w1.ownsRow w.heap.size 3 1 v rs1.length (nums .i64 rs1)) (hB : Below w.heap.size w w1) (hg : W.grownBy w1 v0.ownBlock) (hv : v.ownBlock = v0.ownBlock ∨ ∃ b, v.ownBlock = some b ∧ W.heap.size ≤ b) : TwoRows w w1 v v1 rs1 ats := by
  obtain ⟨h0, h1, hd, hB0⟩ := h
  refine ⟨hown, own_other h1 hg ?_, ?_, hB⟩
  · rcases hd with hd | hd
    · rw [hd]; cases v1.ownBlock <;> simp
    · exact .inr (Ne.symm hd)
  · rcases hv with hv | ⟨b, hv, hlt⟩
    · rw [hv]; exact hd
    · refine .inr ?_
      rw [hv]
      intro he
      have := own_lt h1 b he.symm
      omega
theorem TwoRows.two {w W w1 : World} {v0 v1 v : Value} {rs ats ats1 : List Int} (h : TwoRows w W v0 v1 rs ats) (hb : w.heap.size ≤ W.heap.size)
    (hown : w1.ownsRow w.heap.size 3 1 v ats1.length (nums .i64 ats1)) (hB : Below w.heap.size w w1) (hg : W.grownBy w1 v1.ownBlock) (hv : v.ownBlock = v1.ownBlock ∨ ∃ b, v.ownBlock = some b ∧ W.heap.size ≤ b) : TwoRows w w1 v0 v rs ats1 := by
  obtain ⟨h0, h1, hd, hB0⟩ := h
  refine ⟨own_other h0 hg ?_, hown, ?_, hB⟩
  · exact hd
  · rcases hv with hv | ⟨b, hv, hlt⟩
    · rw [hv]; exact hd
    · rcases hd with hd | hd
      · exact .inl hd
      · refine .inr ?_
        rw [hv]
        intro he
        have := own_lt h0 b he
        omega
theorem TwoRows.first {w W : World} {v0 v1 : Value} {rs ats : List Int} (h : TwoRows w W v0 v1 rs ats) : W.ownsRow w.heap.size 3 1 v0 rs.length (nums .i64 rs) := h.1
theorem TwoRows.second {w W : World} {v0 v1 : Value} {rs ats : List Int} (h : TwoRows w W v0 v1 rs ats) : W.ownsRow w.heap.size 3 1 v1 ats.length (nums .i64 ats) := h.2.1
theorem TwoRows.below {w W : World} {v0 v1 : Value} {rs ats : List Int} (h : TwoRows w W v0 v1 rs ats) : Below w.heap.size w W := h.2.2.2

set_option maxHeartbeats 2000000 in
set_option maxRecDepth 100000 in
theorem runes_any (s : ByteArray) (w : World) (hs : s.size ≤ 100000) : Calls Try.prog 46 #[.string s] w fun e w' => TellsRunes s w e w' := by
  go_enter Try.func46, Try.ntmps46
  go_wp2
  go_loopw [4, 5, 6] (fun v4 v5 v6 wr => ∃ (i : Nat) (rs ats : List Int), v6 = .int .i64 i ∧ i ≤ s.size ∧ rs.length ≤ i ∧ Aside0 (rs.length = ats.length) ∧ Aside0 (TwoRows w wr v4 v5 rs ats)) (fun _ _ v6 _ => s.size - (intOf v6).toNat)
  case atStart => exact ⟨0, [], [], rfl, by omega, by simp, ⟨rfl⟩, ⟨TwoRows.refl w⟩⟩
  case round =>
    obtain ⟨i, rs, ats, rfl, hi, hrs, HL, HT⟩ := hrel
    by_cases hlt : i < s.size
    · have hz : (s.extract i s.size).size = s.size - i := by simp
      have Hz := Lib.hid hz
      clear hz
      go_wp2_with fail
      refine (rune_any _ _ (by rw [Hz.out]; omega) (by rw [Hz.out]; omega)).mono ?_
      rintro e w1 ⟨⟨r, n, rfl, hn1, hn2⟩, rfl⟩
      rw [Hz.out] at hn2
      go_wp2_with (at_builtin; refine print_append_num (w0 := w) w.heap.size rfl (.tmp 20) (.tmp 22) 83 3 .i64 8 rfl Try.underlying83 info3 (by decide) u4 rs r rfl rfl HT.out.first HT.out.below HT.out.below.size (by omega) ?_)
      intro va wa ha1 ha2 ha3 ha4
      have HA := Lib.hid (HT.out.one (rs1 := rs ++ [r]) HT.out.below.size (by simpa using ha1) ha2 ha3 ha4)
      have hwa := ha2.size
      clear ha1 ha2 ha3 ha4 HT
      go_wp2_with (at_builtin; refine print_append_num (w0 := w) w.heap.size rfl (.tmp 24) (.tmp 26) 83 3 .i64 8 rfl Try.underlying83 info3 (by decide) u5 ats (i : Int) rfl rfl HA.out.second HA.out.below hwa (by have := HL.out; omega) ?_)
      intro vb wb ha1 ha2 ha3 ha4
      have HB := Aside0.mk (HA.out.two (ats1 := ats ++ [(i : Int)]) hwa (by simpa using ha1) ha2 ha3 ha4)
      clear ha1 ha2 ha3 ha4 HA
      have HLn : Aside0 ((rs ++ [r]).length = (ats ++ [(i : Int)]).length) := ⟨by simp [HL.out]⟩
      have hl1 : (rs ++ [r]).length ≤ i + n.toNat := by simp; omega
      clear HL
      go_wp2
      go_roundw
      case rel => exact ⟨i + n.toNat, rs ++ [r], ats ++ [(i : Int)], by simp; omega, by omega, hl1, HLn, HB⟩
      case measure => simp [intOf]; omega
    · go_wp2
      go_ret2
      exact ⟨_, _, rs, ats, rfl, HT.out, HL.out, by omega⟩
end Go.Proofs.Ytmckgcooehdbaaa
