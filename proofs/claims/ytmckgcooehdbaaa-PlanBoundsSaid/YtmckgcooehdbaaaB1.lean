/- The contracts of num.Key, bytes.Clone and slices.Grow. No condition beyond those that each theorem names. -/
import Derived.Test.YtmckgcooehdbaaaA9
import Derived.Handy
import Derived.Test.YtmckgcooehdbaaaWZeros
set_option linter.unusedVariables false
set_option linter.unusedSimpArgs false
namespace Go.Proofs.Ytmckgcooehdbaaa
open Go.RowKit Go.Proofs.YtmckgcooehdbaaaW.PrintWords

/-- A row of bytes of the call's own. -/
def OwnB (w' : World) (base : Nat) (v : Value) (xs : List Int) : Prop := w'.ownsRow base 5 1 v xs.length (nums .u8 xs)
def TellsBytes (P : List Int → Prop) (w : World) (e : Ending) (w' : World) : Prop := ∃ v xs, e = .returned v ∧ OwnB w' w.heap.size v xs ∧ P xs ∧ Below w.heap.size w w'
theorem TellsBytes.mk_ {P : List Int → Prop} {w w' : World} {e : Ending} {v : Value} {xs : List Int} (h : e = .returned v) (ho : OwnB w' w.heap.size v xs) (hp : P xs) (hb : Below w.heap.size w w') : TellsBytes P w e w' := ⟨v, xs, h, ho, hp, hb⟩

/-- A number's eight bytes, the greatest first. -/
def keyB (n : Int) : List Int := [n / 72057594037927936 % 256, n / 281474976710656 % 256, n / 1099511627776 % 256, n / 4294967296 % 256, n / 16777216 % 256, n / 65536 % 256, n / 256 % 256, n % 256]

set_option maxHeartbeats 4000000 in
set_option maxRecDepth 100000 in
theorem key_any (n : Int) (w : World) (h0 : 0 ≤ n) (h1 : n < 18446744073709551616) : Calls Try.prog 38 #[.int .u64 n] w fun e w' => TellsBytes (· = keyB n) w e w' := by
  have hmk : ∀ w, (Instr.makeSlice 36 (.int .i64 8) (.int .i64 8)).run Try.prog w = .ok (.slice (some ⟨w.heap.size, 0, none⟩) 8 8) (w.alloc (.cells #[.int .u8 0, .int .u8 0, .int .u8 0, .int .u8 0, .int .u8 0, .int .u8 0, .int .u8 0, .int .u8 0] 5)) := fun _ => by kernel_rfl
  go_enter Try.func38, Try.ntmps38
  go_wp2
  go_rounds 9
  go_ret
  have e1 : n / 72057594037927936 % 256 = n / 72057594037927936 := by omega
  have ho : OwnB (w.alloc (.cells (nums .u8 (keyB n)).toArray 5)) w.heap.size (.slice (some ⟨w.heap.size, 0, none⟩) 8 8) (keyB n) := own_lit w w.heap.size 5 .u8 (keyB n) (Nat.le_refl _) (by simp [keyB])
  have hb : Below w.heap.size w (w.alloc (.cells (nums .u8 (keyB n)).toArray 5)) := (Below.refl _ _).alloc (Nat.le_refl _) _
  simp only [keyB, nums, List.map_cons, List.map_nil, e1] at ho hb
  exact TellsBytes.mk_ rfl ho (by simp only [keyB, e1]) hb

theorem own_slice_reads {w : World} {base : Nat} {v : Value} {xs : List Int} (h : OwnB w base v xs) : ∃ A c, v = .slice A xs.length c ∧ ReadsInt w .u8 A xs.length xs := own_reads h

/-- bytes.Clone of nil is nil; of another row it is a row of the call's own, from its block's head. -/
theorem clone_nil (w : World) : Calls Try.prog 49 #[.slice none 0 0] w fun e w' => e = .returned (.slice none 0 0) ∧ w = w' := by
  have hq := Lib.run_eql_slice_nil (P := Try.prog)
  go_enter Try.func49, Try.ntmps49
  go_wp2
  go_ret
  exact ⟨rfl, rfl⟩

set_option maxHeartbeats 2000000 in
set_option maxRecDepth 100000 in
theorem clone_any (ad : Addr) (n c : Nat) (xs : List Int) (w : World) (h : ReadsInt w .u8 (some ad) n xs) (hn : n ≤ 100000000) : Calls Try.prog 49 #[.slice (some ad) n c] w fun e w' => TellsBytes (· = xs) w e w' := by
  have hq := Lib.run_eql_slice_nil (P := Try.prog)
  have HR := Lib.hid h
  clear h
  have HB0 := Lib.hid ((Below.refl w.heap.size w).alloc (Nat.le_refl _) (.cells #[] 5))
  have HO0 := Lib.hid (own_lit w w.heap.size 5 .u8 [] (Nat.le_refl _) (by simp))
  go_enter Try.func49, Try.ntmps49
  go_wp2_with (at_builtin; refine print_append_row (w0 := w) w.heap.size rfl (.tmp 5) (.tmp 6) 36 5 .u8 1 rfl Try.underlying36 info5 (by decide) (.slice (some ⟨w.heap.size, 0, none⟩) 0 0) [] xs (some ad) n c rfl rfl HO0.out (HR.out.below HB0.out) HB0.out HB0.out.size (by simp; omega) ?_)
  intro v1 w1 ho hb hg hv
  have HO : Hid (OwnB w1 w.heap.size v1 xs) := by simpa [OwnB, Hid] using ho
  clear ho hv hg
  have HB := Lib.hid hb
  clear hb
  go_wp2
  go_ret
  exact TellsBytes.mk_ rfl HO.out rfl HB.out

/-- A beginning of a row that is owned. -/
theorem own_prefix {w : World} {base g n cap e : Nat} {xs : List Int} (h : w.ownsRow base e 1 (.slice (some ⟨g, 0, none⟩) n cap) n (nums .u8 xs)) (k : Nat) (hk : k ≤ n) : w.ownsRow base e 1 (.slice (some ⟨g, 0, none⟩) k cap) k (nums .u8 (xs.take k)) := by
  obtain ⟨h1, h2⟩ := h
  have hl : xs.length = n := by simpa [nums] using h1
  rcases h2 with ⟨h0, _⟩ | ⟨g', cap', cur, hv, hg, hh, hn, hcap, hsz, htake⟩
  · cases h0
  · cases hv
    refine ⟨by simp [nums]; omega, .inr ⟨g, cap, cur, rfl, hg, hh, by omega, hcap, hsz, ?_⟩⟩
    have h3 : (cur.toList.take (n * 1)).take (k * 1) = (nums .u8 xs).take (k * 1) := by rw [htake]
    rw [List.take_take, Nat.min_eq_left (by omega)] at h3
    rw [h3]
    simp [nums, List.map_take]

set_option maxHeartbeats 2000000 in
/-- slices.Grow of nil, by a number: a row of the call's own, empty. -/
theorem grow_any (n : Nat) (w : World) (hn : n ≤ 100000000) : Calls Try.prog 48 #[.slice none 0 0, .int .i64 n] w fun e w' => TellsBytes (· = []) w e w' := by
  by_cases h0 : n = 0
  · subst h0
    go_enter Try.func48, Try.ntmps48
    go_wp2
    go_ret
    exact TellsBytes.mk_ (xs := []) rfl (own_nil w w.heap.size 5 1) rfl (Below.refl _ _)
  · have hpos : 0 < n := by omega
    clear h0
    go_enter Try.func48, Try.ntmps48
    go_wp2_with (at_builtin; refine Kd.R_append_zeros (Kd.int .u8) (w0 := w) w.heap.size rfl (.tmp 20) (.tmp 21) 36 3 5 (.int .u8 0) 1 rfl Try.underlying36 Try.underlying3 info5 rfl (by decide) (by decide) (.slice none 0 0) [] 0 (n : Int) (fun _ => True) rfl rfl rfl (fun _ _ => trivial) (Kd.R_nil _ _ _ _ _) (by omega) (Below.refl _ _) (Nat.le_refl _) (by simp; omega) ?_)
    intro v1 w1 hr hb hg hv
    have ho : w1.ownsRow w.heap.size 5 1 v1 n (nums .u8 (List.replicate n 0)) := by
      have h := Kd.own_of_R hr
      simpa [nums, encs] using h
    obtain ⟨g, cap, rfl, hgb, hgl⟩ := ho.form hpos
    have hf := own_prefix ho 0 (by omega)
    have HO : Hid (OwnB w1 w.heap.size (.slice (some ⟨g, 0, none⟩) 0 cap) []) := by simpa [OwnB, Hid] using hf
    have HB := Lib.hid hb
    clear ho hf hr hb hg hv
    go_wp2
    go_ret
    exact TellsBytes.mk_ rfl HO.out rfl HB.out
end Go.Proofs.Ytmckgcooehdbaaa
