/- The contracts of num and what follows: 5 texts in one. No condition beyond those that each theorem names. -/
import Derived.Test.YtmckgcooehdbaaaA
import Derived.Handy
import Derived.Test.YtmckgcooehdbaaaWZeros
/-! The contracts of num.Key, bytes.Clone and slices.Grow. No condition beyond those that each theorem names. -/
set_option linter.unusedVariables false
set_option linter.unusedSimpArgs false
namespace Go.Proofs.Ytmckgcooehdbaaa
open Go.RowKit Go.Proofs.YtmckgcooehdbaaaW.PrintWords

/-- A row of bytes of the call's own. -/
def OwnB (w' : World) (base : Nat) (v : Value) (xs : List Int) : Prop := w'.ownsRow base 5 1 v xs.length (nums .u8 xs)
def TellsBytes (P : List Int → Prop) (w : World) (e : Ending) (w' : World) : Prop := ∃ v xs, e = .returned v ∧ OwnB w' w.heap.size v xs ∧ P xs ∧ Below w.heap.size w w'
theorem TellsBytes.mk_ {P : List Int → Prop} {w w' : World} {e : Ending} {v : Value} {xs : List Int} (h : e = .returned v) (ho : OwnB w' w.heap.size v xs) (hp : P xs) (hb : Below w.heap.size w w') : TellsBytes P w e w' := ⟨v, xs, h, ho, hp, hb⟩

/-- A number's eight bytes, the greatest first. -/
def keyB (n : Int) : List Int := [n / 72057594037927936 % 256, n / 281474976710656 % 256, n / 1099511627776 % 256, n / 4294967296 % 256, n / 16777216 % 256, n / 65536 % 256, n / 256 % 256, n % 256]

set_option maxHeartbeats 4000000 in
set_option maxRecDepth 100000 in
theorem key_any (n : Int) (w : World) (h0 : 0 ≤ n) (h1 : n < 18446744073709551616) : Calls Try.prog 38 #[.int .u64 n] w fun e w' => TellsBytes (· = keyB n) w e w' := by
  have hmk : ∀ w, (Instr.makeSlice 36 (.int .i64 8) (.int .i64 8)).run Try.prog w = .ok (.slice (some ⟨w.heap.size, 0, none⟩) 8 8) (w.alloc (.cells #[.int .u8 0, .int .u8 0, .int .u8 0, .int .u8 0, .int .u8 0, .int .u8 0, .int .u8 0, .int .u8 0] 5)) := fun _ => by kernel_rfl
  go_enter Try.func38, Try.ntmps38
  go_wp2
  go_rounds 9
  go_ret
  have e1 : n / 72057594037927936 % 256 = n / 72057594037927936 := by omega
  have ho : OwnB (w.alloc (.cells (nums .u8 (keyB n)).toArray 5)) w.heap.size (.slice (some ⟨w.heap.size, 0, none⟩) 8 8) (keyB n) := own_lit w w.heap.size 5 .u8 (keyB n) (Nat.le_refl _) (by simp [keyB])
  have hb : Below w.heap.size w (w.alloc (.cells (nums .u8 (keyB n)).toArray 5)) := (Below.refl _ _).alloc (Nat.le_refl _) _
  simp only [keyB, nums, List.map_cons, List.map_nil, e1] at ho hb
  exact TellsBytes.mk_ rfl ho (by simp only [keyB, e1]) hb

theorem own_slice_reads {w : World} {base : Nat} {v : Value} {xs : List Int} (h : OwnB w base v xs) : ∃ A c, v = .slice A xs.length c ∧ ReadsInt w .u8 A xs.length xs := own_reads h

/-- bytes.Clone of nil is nil; of another row it is a row of the call's own, from its block's head. -/
theorem clone_nil (w : World) : Calls Try.prog 49 #[.slice none 0 0] w fun e w' => e = .returned (.slice none 0 0) ∧ w = w' := by
  have hq := Lib.run_eql_slice_nil (P := Try.prog)
  go_enter Try.func49, Try.ntmps49
  go_wp2
  go_ret
  exact ⟨rfl, rfl⟩

set_option maxHeartbeats 2000000 in
set_option maxRecDepth 100000 in
theorem clone_any (ad : Addr) (n c : Nat) (xs : List Int) (w : World) (h : ReadsInt w .u8 (some ad) n xs) (hn : n ≤ 100000000) : Calls Try.prog 49 #[.slice (some ad) n c] w fun e w' => TellsBytes (· = xs) w e w' := by
  have hq := Lib.run_eql_slice_nil (P := Try.prog)
  have HR := Lib.hid h
  clear h
  have HB0 := Lib.hid ((Below.refl w.heap.size w).alloc (Nat.le_refl _) (.cells #[] 5))
  have HO0 := Lib.hid (own_lit w w.heap.size 5 .u8 [] (Nat.le_refl _) (by simp))
  go_enter Try.func49, Try.ntmps49
  go_wp2_with (at_builtin; refine print_append_row (w0 := w) w.heap.size rfl (.tmp 5) (.tmp 6) 36 5 .u8 1 rfl Try.underlying36 info5 (by decide) (.slice (some ⟨w.heap.size, 0, none⟩) 0 0) [] xs (some ad) n c rfl rfl HO0.out (HR.out.below HB0.out) HB0.out HB0.out.size (by simp; omega) ?_)
  intro v1 w1 ho hb hg hv
  have HO : Hid (OwnB w1 w.heap.size v1 xs) := by simpa [OwnB, Hid] using ho
  clear ho hv hg
  have HB := Lib.hid hb
  clear hb
  go_wp2
  go_ret
  exact TellsBytes.mk_ rfl HO.out rfl HB.out

/-- A beginning of a row that is owned. -/
theorem own_prefix {w : World} {base g n cap e : Nat} {xs : List Int} (h : w.ownsRow base e 1 (.slice (some ⟨g, 0, none⟩) n cap) n (nums .u8 xs)) (k : Nat) (hk : k ≤ n) : w.ownsRow base e 1 (.slice (some ⟨g, 0, none⟩) k cap) k (nums .u8 (xs.take k)) := by
  obtain ⟨h1, h2⟩ := h
  have hl : xs.length = n := by simpa [nums] using h1
  rcases h2 with ⟨h0, _⟩ | ⟨g', cap', cur, hv, hg, hh, hn, hcap, hsz, htake⟩
  · cases h0
  · cases hv
    refine ⟨by simp [nums]; omega, .inr ⟨g, cap, cur, rfl, hg, hh, by omega, hcap, hsz, ?_⟩⟩
    have h3 : (cur.toList.take (n * 1)).take (k * 1) = (nums .u8 xs).take (k * 1) := by rw [htake]
    rw [List.take_take, Nat.min_eq_left (by omega)] at h3
    rw [h3]
    simp [nums, List.map_take]

set_option maxHeartbeats 2000000 in
/-- slices.Grow of nil, by a number: a row of the call's own, empty. -/
theorem grow_any (n : Nat) (w : World) (hn : n ≤ 100000000) : Calls Try.prog 48 #[.slice none 0 0, .int .i64 n] w fun e w' => TellsBytes (· = []) w e w' := by
  by_cases h0 : n = 0
  · subst h0
    go_enter Try.func48, Try.ntmps48
    go_wp2
    go_ret
    exact TellsBytes.mk_ (xs := []) rfl (own_nil w w.heap.size 5 1) rfl (Below.refl _ _)
  · have hpos : 0 < n := by omega
    clear h0
    go_enter Try.func48, Try.ntmps48
    go_wp2_with (at_builtin; refine Kd.R_append_zeros (Kd.int .u8) (w0 := w) w.heap.size rfl (.tmp 20) (.tmp 21) 36 3 5 (.int .u8 0) 1 rfl Try.underlying36 Try.underlying3 info5 rfl (by decide) (by decide) (.slice none 0 0) [] 0 (n : Int) (fun _ => True) rfl rfl rfl (fun _ _ => trivial) (Kd.R_nil _ _ _ _ _) (by omega) (Below.refl _ _) (Nat.le_refl _) (by simp; omega) ?_)
    intro v1 w1 hr hb hg hv
    have ho : w1.ownsRow w.heap.size 5 1 v1 n (nums .u8 (List.replicate n 0)) := by
      have h := Kd.own_of_R hr
      simpa [nums, encs] using h
    obtain ⟨g, cap, rfl, hgb, hgl⟩ := ho.form hpos
    have hf := own_prefix ho 0 (by omega)
    have HO : Hid (OwnB w1 w.heap.size (.slice (some ⟨g, 0, none⟩) 0 cap) []) := by simpa [OwnB, Hid] using hf
    have HB := Lib.hid hb
    clear ho hf hr hb hg hv
    go_wp2
    go_ret
    exact TellsBytes.mk_ rfl HO.out rfl HB.out
end Go.Proofs.Ytmckgcooehdbaaa
/-! The contract of slices.Concat of two rows. No condition beyond those that each theorem names. -/
set_option linter.unusedVariables false
set_option linter.unusedSimpArgs false
namespace Go.Proofs.Ytmckgcooehdbaaa
open Go.RowKit Go.Proofs.YtmckgcooehdbaaaW.PrintWords

set_option maxHeartbeats 4000000 in
set_option maxRecDepth 100000 in
theorem concat_any (g : Nat) (A0 : Option Addr) (n0 c0 : Nat) (xs : List Int) (A1 : Option Addr) (n1 c1 : Nat) (ys : List Int) (w : World) (hc0 : w.cell? ⟨g, 0, none⟩ = some (.slice A0 n0 c0)) (hc1 : w.cell? ⟨g, 1, none⟩ = some (.slice A1 n1 c1))
    (h0 : ReadsInt w .u8 A0 n0 xs) (h1 : ReadsInt w .u8 A1 n1 ys) (hn0 : n0 ≤ 1000000) (hn1 : n1 ≤ 1000000) :
    Calls Try.prog 37 #[.slice (some ⟨g, 0, none⟩) 2 2] w fun e w' => TellsBytes (· = xs ++ ys) w e w' := by
  have HR0 := Lib.hid h0
  have HR1 := Lib.hid h1
  clear h0 h1
  have l0 := HR0.out.1
  have l1 := HR1.out.1
  have L0 := Lib.hid l0
  have L1 := Lib.hid l1
  clear l0 l1
  go_enter Try.func37, Try.ntmps37
  go_wp2
  refine wp_loop_rounds 3 ?_
  rw [rounds_succ]
  go_wp2
  rw [rounds_succ]
  go_wp2
  rw [rounds_succ]
  go_wp2_with fail
  have e01 : (n0 : Int) + n1 = ((n0 + n1 : Nat) : Int) := by omega
  rw [e01]
  refine (grow_any (n0 + n1) _ (by omega)).mono ?_
  rintro e w1 ⟨v1, zs, rfl, ho, rfl, hb⟩
  have HO := Lib.hid ho
  have HB := Lib.hid hb
  have g0 := pw_cell_below hb hc0
  have g1 := pw_cell_below hb hc1
  have HC1 := Lib.hid hc1
  clear ho hb hc0 hc1 e01
  go_wp2
  refine wp_loop_rounds 3 ?_
  rw [rounds_succ]
  go_wp2_with (at_builtin; refine print_append_row (w0 := w) w.heap.size rfl (.tmp 31) (.tmp 32) 36 5 .u8 1 rfl Try.underlying36 info5 (by decide) v1 [] xs A0 n0 c0 rfl rfl HO.out (HR0.out.below HB.out) HB.out HB.out.size (by simp; omega) ?_)
  intro v2 w2 ho2 hb2 hg2 hv2
  have HO2 : Hid (OwnB w2 w.heap.size v2 xs) := by
    have h := ho2
    simpa [OwnB, Hid, L0.out] using h
  have HB2 := Lib.hid hb2
  have g1 := pw_cell_below hb2 HC1.out
  clear ho2 hb2 hg2 hv2 HO HB
  go_wp2
  rw [rounds_succ]
  go_wp2_with (at_builtin; refine print_append_row (w0 := w) w.heap.size rfl (.tmp 31) (.tmp 32) 36 5 .u8 1 rfl Try.underlying36 info5 (by decide) v2 xs ys A1 n1 c1 rfl rfl HO2.out (HR1.out.below HB2.out) HB2.out HB2.out.size (by have := L0.out; omega) ?_)
  intro v3 w3 ho3 hb3 hg3 hv3
  have HO3 : Hid (OwnB w3 w.heap.size v3 (xs ++ ys)) := by
    have h := ho3
    simpa [OwnB, Hid, L0.out, L1.out] using h
  have HB3 := Lib.hid hb3
  clear ho3 hb3 hg3 hv3 HO2 HB2
  go_wp2
  rw [rounds_succ]
  go_wp2
  go_ret
  exact TellsBytes.mk_ rfl HO3.out rfl HB3.out
end Go.Proofs.Ytmckgcooehdbaaa
/-! The contract of scan.Behind: the row is what behindB says. No condition beyond those that each theorem names. -/
set_option linter.unusedVariables false
set_option linter.unusedSimpArgs false
namespace Go.Proofs.Ytmckgcooehdbaaa
open Go.RowKit Go.Proofs.YtmckgcooehdbaaaW.PrintWords

/-- How many bytes are left when those of 255 at the end are gone. -/
def behindN (xs : List Int) : Nat → Nat
  | 0 => 0
  | n + 1 => if rd xs n = 255 then behindN xs n else n + 1
/-- The least row above all that begin so; none: there is no such row. -/
def behindB (xs : List Int) : List Int :=
  if behindN xs xs.length = 0 then [] else (xs.take (behindN xs xs.length)).set (behindN xs xs.length - 1) ((rd xs ((behindN xs xs.length - 1 : Nat) : Int) + 1) % 256)

theorem reads_take {w : World} {A : Option Addr} {n : Nat} {xs : List Int} (h : ReadsInt w .u8 A n xs) (k : Nat) (hk : k ≤ n) : ReadsInt w .u8 A k (xs.take k) := by
  refine ⟨by have := h.1; simp; omega, by have := h.2.1; omega, fun h0 => ?_⟩
  obtain ⟨ad, e, hc⟩ := h.2.2 (by omega)
  refine ⟨ad, e, fun j hj => ?_⟩
  rw [hc j (by omega)]
  have hl := h.1
  simp [List.getD_eq_getElem?_getD, List.getElem?_take, hj]

set_option maxHeartbeats 4000000 in
set_option maxRecDepth 100000 in
theorem behind_any (A : Option Addr) (n c : Nat) (xs : List Int) (w : World) (h : ReadsInt w .u8 A n xs) (hn : n ≤ 1000000) (hnc : n ≤ c) (hby : ∀ i : Nat, 0 ≤ rd xs i ∧ rd xs i ≤ 255) :
    Calls Try.prog 39 #[.slice A n c] w fun e w' => TellsBytes (· = behindB xs) w e w' := by
  have hl := h.1
  subst hl
  have HR := Lib.hid h
  have HY := Lib.hid hby
  clear h hby
  go_enter Try.func39, Try.ntmps39
  go_wp2
  go_loop [3] (fun v3 => ∃ m : Nat, v3 = .int .i64 m ∧ m ≤ xs.length ∧ Aside0 (behindN xs m = behindN xs xs.length)) (fun v3 => (intOf v3).toNat)
  case atStart => exact ⟨xs.length, rfl, Nat.le_refl _, ⟨rfl⟩⟩
  case round =>
    obtain ⟨m, rfl, hm, HM⟩ := hrel
    rcases m with _ | m
    · have HE : Hid (behindB xs = []) := by
        show behindB xs = []
        unfold behindB
        rw [if_pos (by rw [← HM.out]; rfl)]
      clear HM
      go_wp2
      go_ret
      exact TellsBytes.mk_ (xs := []) rfl (own_nil w w.heap.size 5 1) HE.out.symm (Below.refl _ _)
    · obtain ⟨ad, ea, hc0⟩ := ReadsInt.at_ HR.out (m : Int) (by omega) (by omega)
      subst ea
      have hc : w.cell? (ad.add m) = some (.int .u8 (rd xs m)) := hc0
      clear hc0
      have p0 : ((m : Int) + 1 - 1) = m := by omega
      by_cases h255 : rd xs m = 255
      · have HM2 : Aside0 (behindN xs m = behindN xs xs.length) := ⟨by rw [← HM.out]; simp only [behindN]; rw [if_pos h255]⟩
        have hb : (rd xs m == 255) = true := beq_iff_eq.mpr h255
        clear h255 HM p0
        go_wp2
        go_round
        case rel => exact ⟨m, by simp, by omega, HM2⟩
        case measure => simp [intOf]
      · have hb : (rd xs m == 255) = false := beq_eq_false_iff_ne.mpr h255
        have HM2 : Aside0 (behindN xs xs.length = m + 1) := ⟨by rw [← HM.out]; simp only [behindN]; rw [if_neg h255]⟩
        have HE : Hid (behindB xs = (xs.take (m + 1)).set m ((rd xs m + 1) % 256)) := by
          show behindB xs = _
          unfold behindB
          rw [if_neg (by rw [HM2.out]; omega), HM2.out]
          rfl
        clear h255 HM HM2 p0
        go_wp2_with fail
        have HT := Lib.hid (reads_take HR.out (m + 1) hm)
        refine (clone_any ad (m + 1) c _ w HT.out (by omega)).mono ?_
        rintro e w1 ⟨v1, ys, rfl, ho, rfl, hb1⟩
        have ho1 : w1.ownsRow w.heap.size 5 1 v1 (m + 1) (nums .u8 (xs.take (m + 1))) := by
          have h := ho
          have hlen : (xs.take (m + 1)).length = m + 1 := by simp; omega
          rw [OwnB, hlen] at h
          exact h
        clear ho
        obtain ⟨g, cap, rfl, hgb, hgl⟩ := ho1.form (by omega)
        obtain ⟨hcg, hfg⟩ := own_at ho1 (m : Int) (by omega) (by omega)
        have hrd : rd (xs.take (m + 1)) m = rd xs m := by simp [rd, List.getD_eq_getElem?_getD, List.getElem?_take]
        rw [hrd] at hcg
        have hy := HY.out m
        have hs := own_store ho1 (m : Int) ((rd xs m + 1) % 256)
        obtain ⟨hs1, hs2⟩ := hs
        have HO : Hid (OwnB (w1.setCell ⟨g, m, none⟩ (.int .u8 ((rd xs m + 1) % 256))) w.heap.size (.slice (some ⟨g, 0, none⟩) (m + 1) cap) (behindB xs)) := by
          rw [HE.out]
          have hlen : ((xs.take (m + 1)).set m ((rd xs m + 1) % 256)).length = m + 1 := by simp; omega
          unfold Hid OwnB
          rw [hlen]
          exact hs1
        have HB : Hid (Below w.heap.size w (w1.setCell ⟨g, m, none⟩ (.int .u8 ((rd xs m + 1) % 256)))) := hb1.setCell hgb _
        simp only [Int.toNat_natCast] at hcg hfg
        generalize rd xs m = x at *
        clear ho1 hs1 hs2 hrd HT HE hb1 hc
        go_wp2
        go_ret
        exact TellsBytes.mk_ rfl HO.out rfl HB.out

/-- A text's bytes. -/
def bytesB (s : ByteArray) : List Int := s.toList.map fun b => (b.toNat : Int)

end Go.Proofs.Ytmckgcooehdbaaa
/-! Rows of bytes whose block bears a mark: a text's bytes, and append onto them. No condition beyond those that each theorem names. -/
set_option linter.unusedVariables false
set_option linter.unusedSimpArgs false
namespace Go.Proofs.Ytmckgcooehdbaaa
open Go.RowKit Go.Proofs.YtmckgcooehdbaaaW.PrintWords

/-- A row of bytes in a block of the call's own, whatever mark the block bears behind its end. -/
def OwnM (w : World) (base : Nat) (v : Value) (xs : List Int) : Prop :=
  ∃ g cap, v = .slice (some ⟨g, 0, none⟩) xs.length cap ∧ base ≤ g ∧ g < w.heap.size ∧ xs.length ≤ cap ∧ cap ≤ maxLen ∧
    (∀ j, j < cap → (w.cell? ⟨g, j, none⟩).isSome = true ∧ w.frozen? ⟨g, j, none⟩ = false) ∧ ∀ j, j < xs.length → w.cell? ⟨g, j, none⟩ = some (.int .u8 (xs.getD j 0))
def TellsM (P : List Int → Prop) (w : World) (e : Ending) (w' : World) : Prop := ∃ v xs, e = .returned v ∧ OwnM w' w.heap.size v xs ∧ P xs ∧ Below w.heap.size w w'
theorem TellsM.mk_ {P : List Int → Prop} {w w' : World} {e : Ending} {v : Value} {xs : List Int} (h : e = .returned v) (ho : OwnM w' w.heap.size v xs) (hp : P xs) (hb : Below w.heap.size w w') : TellsM P w e w' := ⟨v, xs, h, ho, hp, hb⟩

theorem OwnM.reads {w : World} {base : Nat} {v : Value} {xs : List Int} (h : OwnM w base v xs) : ∃ g cap, v = .slice (some ⟨g, 0, none⟩) xs.length cap ∧ base ≤ g ∧ g < w.heap.size ∧ xs.length ≤ cap ∧ ReadsInt w .u8 (some ⟨g, 0, none⟩) xs.length xs := by
  obtain ⟨g, cap, rfl, h1, h2, h3, h4, h5, h6⟩ := h
  refine ⟨g, cap, rfl, h1, h2, h3, rfl, by unfold maxLen at h4; omega, fun _ => ⟨_, rfl, fun j hj => ?_⟩⟩
  rw [add_plain]
  exact h6 j hj
theorem OwnM.of_own {w : World} {base : Nat} {v : Value} {xs : List Int} (h : w.ownsRow base 5 1 v xs.length (nums .u8 xs)) (hx : 0 < xs.length) : OwnM w base v xs := by
  have h' := h
  obtain ⟨h1, h2⟩ := h
  rcases h2 with ⟨_, h0⟩ | ⟨g, cap, cur, rfl, hg, hh, hn, hcap, hsz, htake⟩
  · omega
  · have hl : g < w.heap.size := (Array.getElem?_eq_some_iff.1 hh).1
    refine ⟨g, cap, rfl, hg, hl, hn, hcap, fun j hj => ⟨?_, ?_⟩, fun j hj => ?_⟩
    · simp [World.cell?, hh, hsz, hj]
    · simp [World.frozen?, hh]
    · have := (own_at h' (j : Int) (by omega) (by omega)).1
      simpa [rd] using this
theorem OwnM.below {w w1 : World} {base : Nat} {v : Value} {xs : List Int} (h : OwnM w base v xs) (hb : Below w.heap.size w w1) : OwnM w1 base v xs := by
  obtain ⟨g, cap, rfl, h1, h2, h3, h4, h5, h6⟩ := h
  have hc : ∀ j, w1.cell? ⟨g, j, none⟩ = w.cell? ⟨g, j, none⟩ := fun j => hb.cell (p := ⟨g, j, none⟩) h2
  have hf : ∀ j, w1.frozen? ⟨g, j, none⟩ = w.frozen? ⟨g, j, none⟩ := fun j => hb.frozen (p := ⟨g, j, none⟩) h2
  exact ⟨g, cap, rfl, h1, Nat.lt_of_lt_of_le h2 hb.size, h3, h4, fun j hj => by rw [hc, hf]; exact h5 j hj, fun j hj => by rw [hc]; exact h6 j hj⟩
theorem OwnM.lower {w : World} {base base' : Nat} {v : Value} {xs : List Int} (h : OwnM w base v xs) (hb : base' ≤ base) : OwnM w base' v xs := by
  obtain ⟨g, cap, rfl, h1, h2⟩ := h
  exact ⟨g, cap, rfl, by omega, h2⟩

/-- A text's bytes in a new row. -/
theorem OwnM.of_text (w : World) (s : ByteArray) (hs : s.size ≤ 1000000) : OwnM (Lib.bytesWorld w 5 s) w.heap.size (.slice (some ⟨w.heap.size, 0, none⟩) s.size (grownCap w s.size 0 5)) (bytesB s) := by
  have hlen : (bytesB s).length = s.size := by simp [bytesB, ByteArray.toList_eq]
  have hcap : s.size ≤ grownCap w s.size 0 5 := grownCap_ge _ _ _ _
  have hmax : grownCap w s.size 0 5 ≤ maxLen := grownCap_le_maxLen _ _ _ _ (by unfold maxLen; omega)
  have hsz : (Lib.bytesCells w 5 s).size = grownCap w s.size 0 5 := by
    simp [Lib.bytesCells]; omega
  have hat := Lib.bytesWorld_at_new w 5 s
  refine ⟨w.heap.size, _, by rw [hlen], Nat.le_refl _, by rw [Lib.bytesWorld_size]; omega, by rw [hlen]; exact hcap, hmax, fun j hj => ⟨?_, ?_⟩, fun j hj => ?_⟩
  · simp [World.cell?, hat, hsz, hj]
  · simp [World.frozen?, hat, hsz]; omega
  · rw [Lib.bytesWorld_cell w 5 s j (by omega)]
    congr 2
    simp [bytesB, List.getD_eq_getElem?_getD, ByteArray.toList_eq]
    cases s.data[j]? <;> rfl

theorem grown_setCells (b : Nat) : ∀ (vs : List Value) (o : Nat) (w : World), w.grownBy (w.setCells b o vs) (some b)
  | [], _, _ => ⟨rfl, rfl, rfl, Nat.le_refl _, fun _ _ _ => rfl⟩
  | v :: r, o, w => by
    have h := grown_setCells b r (o + 1) (w.setCell ⟨b, o, none⟩ v)
    refine ⟨h.os, h.tape, h.output, by simpa [World.setCells] using h.size, fun k hk hne => ?_⟩
    rw [World.setCells, h.block k (by simpa using hk) hne]
    exact Below.heap_setCell _ _ _ _ (fun e => hne (by simp [e]))

/-- append onto such a row: whether there is room or not. -/
theorem append_ownm {P : Program} {ops : Array Oper} {rest : List Oper} {o : Oper} {a : Act} {Q : Exit → Act → World → Prop} {w0 W : World} (base : Nat) (hgd : o.guard = none) (s x : Operand) (t : TypeId)
    (ho : o.op = .call { callee := .builtin .append, args := #[s, x], argTypes := #[t, t] })
    (ht : P.underlying t = some (.slice 5)) (hinfo : (P.info? 5).map (fun i => (i.zero, i.size, i.bytes)) = some (some (.int .u8 0), 1, 1))
    (v : Value) (xs ys : List Int) (ad : Addr) (m c : Nat) (hs : a.eval s = v) (hx : a.eval x = .slice (some ad) m c)
    (HO : OwnM W base v xs) (HR : ReadsInt W .u8 (some ad) m ys) (HB : Below base w0 W) (hl : xs.length + m ≤ 100000000)
    (h : ∀ v1 w1, OwnM w1 base v1 (xs ++ ys) → Below base w0 w1 → W.grownBy w1 v.ownBlock → wpList P ops Q rest (a.put o.dst v1) w1) :
    wpList P ops Q (o :: rest) a W := by
  obtain ⟨i0, hi, hz0, hz1, hz2⟩ := info_parts hinfo
  obtain ⟨g, cap, rfl, h1, h2, h3, h4, h5, h6⟩ := HO
  have hbase : base ≤ W.heap.size := by omega
  have hm : ys.length = m := HR.1
  have hnew : ∀ j u, (nums .u8 ys)[j]? = some u → W.cell? (ad.add j) = some u := by
    intro j u hu
    have hj : j < ys.length := by
      have := (List.getElem?_eq_some_iff.1 hu).1
      simpa [nums] using this
    obtain ⟨ad', e, hc⟩ := HR.2.2 (by omega)
    cases e
    rw [hc j (by omega)]
    simpa [nums, List.getD_eq_getElem?_getD, List.getElem?_eq_getElem hj] using hu
  refine wpList_append_arg W hgd s x t ho 5 i0 (.int .u8 0) 1 1 ht hi hz0 hz1 hz2 rfl (by decide) g 0 xs.length cap (nums .u8 xs) hs (by simp [nums]) ?_ ad m c (nums .u8 ys) hx (by simp [nums, hm]) hnew ?_ ?_ (by unfold maxLen; omega) (by omega) ?_ ?_
  · intro j u hu
    have hj : j < xs.length := by
      have := (List.getElem?_eq_some_iff.1 hu).1
      simpa [nums] using this
    rw [Nat.zero_add, h6 j hj]
    simpa [nums, List.getD_eq_getElem?_getD, List.getElem?_eq_getElem hj] using hu
  · intro u hu
    simp only [nums, List.mem_map] at hu
    obtain ⟨_, _, rfl⟩ := hu
    rfl
  · intro hr j hj
    simp only [nums, List.length_map] at hj
    have := h5 (xs.length + j) (by omega)
    simpa using this
  · intro hr
    have hg := grown_setCells g (nums .u8 ys) (0 + xs.length * 1) W
    have hsome : ∀ j, j < (nums .u8 ys).length → (W.cell? ⟨g, 0 + xs.length * 1 + j, none⟩).isSome = true := fun j hj => by
      simp only [nums, List.length_map] at hj
      have := (h5 (xs.length + j) (by omega)).1
      simpa using this
    refine h _ _ ?_ (HB.grown hg hbase (fun k hk => by cases hk; exact h1)) hg
    have hlen : (xs ++ ys).length = xs.length + m := by simp [hm]
    refine ⟨g, cap, by rw [hlen], h1, by have := hg.size; omega, by omega, h4, fun j hj => ⟨?_, ?_⟩, fun j hj => ?_⟩
    · by_cases hin : xs.length ≤ j ∧ j < xs.length + m
      · have := World.cell?_setCells_in g (nums .u8 ys) (0 + xs.length * 1) W hsome (j - xs.length) (by simp [nums]; omega)
        rw [show 0 + xs.length * 1 + (j - xs.length) = j by omega] at this
        rw [this]; rfl
      · rw [World.cell?_setCells_out g (nums .u8 ys) (0 + xs.length * 1) W ⟨g, j, none⟩ (fun _ _ => by simp [nums]; omega)]
        exact (h5 j hj).1
    · rw [World.frozen?_setCells]
      exact (h5 j hj).2
    · by_cases hin : xs.length ≤ j
      · have hj2 : j - xs.length < ys.length := by omega
        have := World.cell?_setCells_in g (nums .u8 ys) (0 + xs.length * 1) W hsome (j - xs.length) (by simp [nums]; omega)
        rw [show 0 + xs.length * 1 + (j - xs.length) = j by omega] at this
        rw [this]
        simp [nums, List.getD_eq_getElem?_getD, List.getElem?_append_right hin, List.getElem?_eq_getElem hj2]
      · rw [World.cell?_setCells_out g (nums .u8 ys) (0 + xs.length * 1) W ⟨g, j, none⟩ (fun _ _ => by simp; omega)]
        rw [h6 j (by omega)]
        simp [List.getD_eq_getElem?_getD, List.getElem?_append_left (show j < xs.length by omega)]
  · intro hr v' w' hown hg
    have hg' : W.grownBy w' (some g) := ⟨hg.os, hg.tape, hg.output, hg.size, fun k hk _ => hg.block k hk (by simp)⟩
    refine h _ _ ?_ (HB.grown hg hbase (fun k hk => by cases hk)) hg'
    refine OwnM.lower (OwnM.of_own (base := W.heap.size) ?_ (by simp; omega)) hbase
    simpa [nums, hm] using hown
end Go.Proofs.Ytmckgcooehdbaaa
/-! The contracts of key.ended, Service and Operation. No condition beyond those that each theorem names. -/
set_option linter.unusedVariables false
set_option linter.unusedSimpArgs false
namespace Go.Proofs.Ytmckgcooehdbaaa
open Go.RowKit Go.Proofs.YtmckgcooehdbaaaW.PrintWords

theorem bytesWorld_below (w : World) (s : ByteArray) : Below w.heap.size w (Lib.bytesWorld w 5 s) :=
  ⟨rfl, rfl, rfl, by rw [Lib.bytesWorld_size]; omega, fun k hk => Lib.bytesWorld_at_old w _ s k hk⟩
theorem bytesB_length (s : ByteArray) : (bytesB s).length = s.size := by simp [bytesB, ByteArray.toList_eq]
theorem reads_one (W : World) : ReadsInt (W.alloc (.cells #[.int .u8 0] 5)) .u8 (some ⟨W.heap.size, 0, none⟩) 1 [0] :=
  ⟨rfl, by decide, fun _ => ⟨_, rfl, fun j hj => by
    obtain rfl : j = 0 := by omega
    rw [add_plain]
    simp [World.cell?_alloc_new]⟩⟩

set_option maxHeartbeats 4000000 in
set_option maxRecDepth 100000 in
theorem ended_any (s : ByteArray) (w : World) (hs : s.size ≤ 1000000) : Calls Try.prog 40 #[.string s] w fun e w' => TellsM (· = bytesB s ++ [0]) w e w' := by
  have hcv := fun (w : World) => Lib.run_convert_string_bytes (P := Try.prog) w 9 36 5 s Try.underlying9 Try.underlying36 Try.underlying5
  have HO := Lib.hid (OwnM.of_text w s hs)
  have HB := Lib.hid (bytesWorld_below w s)
  have HL := Lib.hid (bytesB_length s)
  go_enter Try.func40, Try.ntmps40
  have HR := Lib.hid (reads_one (Lib.bytesWorld w 5 s))
  have HA := Lib.hid (below_alloc HB.out (.cells #[.int .u8 0] 5))
  have HO2 := Lib.hid (HO.out.below ((Below.refl _ _).alloc (Nat.le_refl _) (.cells #[.int .u8 0] 5)))
  clear HO HB
  go_wp2_with (at_builtin; refine append_ownm (w0 := w) w.heap.size rfl (.tmp 4) (.tmp 5) 36 rfl Try.underlying36 info5 (.slice (some ⟨w.heap.size, 0, none⟩) s.size (grownCap w s.size 0 5)) (bytesB s) [0] ⟨(Lib.bytesWorld w 5 s).heap.size, 0, none⟩ 1 1 rfl rfl HO2.out HR.out HA.out (by have := HL.out; omega) ?_)
  intro v1 w1 ho hb hg
  have HO1 := Lib.hid ho
  have HB1 := Lib.hid hb
  clear ho hb hg
  go_wp2
  go_ret
  exact TellsM.mk_ rfl HO1.out rfl HB1.out

set_option maxRecDepth 100000 in
theorem service_any (s : ByteArray) (w : World) (hs : s.size ≤ 1000000) : Calls Try.prog 22 #[.string s] w fun e w' => TellsM (· = bytesB s ++ [0]) w e w' := by
  go_enter Try.func22, Try.ntmps22
  go_wp2_with fail
  refine (ended_any s _ hs).mono ?_
  rintro e w1 ⟨v1, xs, rfl, ho, rfl, hb⟩
  have HO1 := Lib.hid ho
  have HB1 := Lib.hid hb
  clear ho hb
  go_wp2
  go_ret
  exact TellsM.mk_ rfl HO1.out rfl HB1.out

set_option maxHeartbeats 1000000 in
set_option maxRecDepth 100000 in
theorem operation_any (s t : ByteArray) (w : World) (hs : s.size ≤ 1000000) (ht : t.size ≤ 1000000) : Calls Try.prog 21 #[.string s, .string t] w fun e w' => TellsM (· = bytesB s ++ [0] ++ (bytesB t ++ [0])) w e w' := by
  have HLs := Lib.hid (bytesB_length s)
  have HLt := Lib.hid (bytesB_length t)
  go_enter Try.func21, Try.ntmps21
  go_wp2_with fail
  refine (ended_any s _ hs).mono ?_
  rintro e w1 ⟨v1, xs, rfl, ho, hx, hb⟩
  have HX := Lib.hid hx
  clear hx
  have HO1 := Lib.hid ho
  have HB1 := Lib.hid hb
  clear ho hb
  go_wp2_with fail
  refine (ended_any t _ ht).mono ?_
  rintro e w2 ⟨v2, ys, rfl, ho, hy, hb⟩
  have HY := Lib.hid hy
  clear hy
  have HO2 := Lib.hid (HO1.out.below hb)
  have HB2 := Lib.hid (below_then HB1.out HB1.out.size hb)
  obtain ⟨g, cap, rfl, _, _, _, hr⟩ := ho.reads
  have HR := Lib.hid hr
  clear ho hb hr HO1 HB1
  go_wp2_with (at_builtin; refine append_ownm (w0 := w) w.heap.size rfl (.tmp 6) (.tmp 8) 36 rfl Try.underlying36 info5 v1 xs ys ⟨g, 0, none⟩ ys.length cap rfl rfl HO2.out HR.out HB2.out (by rw [HX.out, HY.out]; have := HLs.out; have := HLt.out; simp; omega) ?_)
  intro v3 w3 ho3 hb3 hg3
  have HO3 := Lib.hid ho3
  have HB3 := Lib.hid hb3
  clear ho3 hb3 hg3
  go_wp2
  go_ret
  exact TellsM.mk_ rfl HO3.out (by rw [HX.out, HY.out]) HB3.out
end Go.Proofs.Ytmckgcooehdbaaa
