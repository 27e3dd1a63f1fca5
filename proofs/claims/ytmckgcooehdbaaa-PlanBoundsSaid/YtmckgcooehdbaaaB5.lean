/- The contracts of key.ended, Service and Operation. No condition beyond those that each theorem names. -/
import Derived.Test.YtmckgcooehdbaaaB4
set_option linter.unusedVariables false
set_option linter.unusedSimpArgs false
namespace Go.Proofs.Ytmckgcooehdbaaa
open Go.RowKit Go.Proofs.YtmckgcooehdbaaaW.PrintWords

theorem bytesWorld_below (w : World) (s : ByteArray) : Below w.heap.size w (Lib.bytesWorld w 5 s) :=
  ⟨rfl, rfl, rfl, by rw [Lib.bytesWorld_size]; omega, fun k hk => Lib.bytesWorld_at_old w _ s k hk⟩
theorem bytesB_length (s : ByteArray) : (bytesB s).length = s.size := by simp [bytesB, ByteArray.toList_eq]
theorem reads_one (W : World) : ReadsInt (W.alloc (.cells #[.int .u8 0] 5)) .u8 (some ⟨W.heap.size, 0, none⟩) 1 [0] :=
  ⟨rfl, by decide, fun _ => ⟨_, rfl, fun j hj => by
    obtain rfl : j = 0 := by omega
    rw [add_plain]
    simp [World.cell?_alloc_new]⟩⟩

set_option maxHeartbeats 4000000 in
set_option maxRecDepth 100000 in
theorem ended_any (s : ByteArray) (w : World) (hs : s.size ≤ 1000000) : Calls Try.prog 40 #[.string s] w fun e w' => TellsM (· = bytesB s ++ [0]) w e w' := by
  have hcv := fun (w : World) => Lib.run_convert_string_bytes (P := Try.prog) w 9 36 5 s Try.underlying9 Try.underlying36 Try.underlying5
  have HO := Lib.hid (OwnM.of_text w s hs)
  have HB := Lib.hid (bytesWorld_below w s)
  have HL := Lib.hid (bytesB_length s)
  go_enter Try.func40, Try.ntmps40
  have HR := Lib.hid (reads_one (Lib.bytesWorld w 5 s))
  have HA := Lib.hid (below_alloc HB.out (.cells #[.int .u8 0] 5))
  have HO2 := Lib.hid (HO.out.below ((Below.refl _ _).alloc (Nat.le_refl _) (.cells #[.int .u8 0] 5)))
  clear HO HB
  go_wp2_with (at_builtin; refine append_ownm (w0 := w) w.heap.size rfl (.tmp 4) (.tmp 5) 36 rfl Try.underlying36 info5 (.slice (some ⟨w.heap.size, 0, none⟩) s.size (grownCap w s.size 0 5)) (bytesB s) [0] ⟨(Lib.bytesWorld w 5 s).heap.size, 0, none⟩ 1 1 rfl rfl HO2.out HR.out HA.out (by have := HL.out; omega) ?_)
  intro v1 w1 ho hb hg
  have HO1 := Lib.hid ho
  have HB1 := Lib.hid hb
  clear ho hb hg
  go_wp2
  go_ret
  exact TellsM.mk_ rfl HO1.out rfl HB1.out

set_option maxRecDepth 100000 in
theorem service_any (s : ByteArray) (w : World) (hs : s.size ≤ 1000000) : Calls Try.prog 22 #[.string s] w fun e w' => TellsM (· = bytesB s ++ [0]) w e w' := by
  go_enter Try.func22, Try.ntmps22
  go_wp2_with fail
  refine (ended_any s _ hs).mono ?_
  rintro e w1 ⟨v1, xs, rfl, ho, rfl, hb⟩
  have HO1 := Lib.hid ho
  have HB1 := Lib.hid hb
  clear ho hb
  go_wp2
  go_ret
  exact TellsM.mk_ rfl HO1.out rfl HB1.out

set_option maxHeartbeats 1000000 in
set_option maxRecDepth 100000 in
theorem operation_any (s t : ByteArray) (w : World) (hs : s.size ≤ 1000000) (ht : t.size ≤ 1000000) : Calls Try.prog 21 #[.string s, .string t] w fun e w' => TellsM (· = bytesB s ++ [0] ++ (bytesB t ++ [0])) w e w' := by
  have HLs := Lib.hid (bytesB_length s)
  have HLt := Lib.hid (bytesB_length t)
  go_enter Try.func21, Try.ntmps21
  go_wp2_with fail
  refine (ended_any s _ hs).mono ?_
  rintro e w1 ⟨v1, xs, rfl, ho, hx, hb⟩
  have HX := Lib.hid hx
  clear hx
  have HO1 := Lib.hid ho
  have HB1 := Lib.hid hb
  clear ho hb
  go_wp2_with fail
  refine (ended_any t _ ht).mono ?_
  rintro e w2 ⟨v2, ys, rfl, ho, hy, hb⟩
  have HY := Lib.hid hy
  clear hy
  have HO2 := Lib.hid (HO1.out.below hb)
  have HB2 := Lib.hid (below_then HB1.out HB1.out.size hb)
  obtain ⟨g, cap, rfl, _, _, _, hr⟩ := ho.reads
  have HR := Lib.hid hr
  clear ho hb hr HO1 HB1
  go_wp2_with (at_builtin; refine append_ownm (w0 := w) w.heap.size rfl (.tmp 6) (.tmp 8) 36 rfl Try.underlying36 info5 v1 xs ys ⟨g, 0, none⟩ ys.length cap rfl rfl HO2.out HR.out HB2.out (by rw [HX.out, HY.out]; have := HLs.out; have := HLt.out; simp; omega) ?_)
  intro v3 w3 ho3 hb3 hg3
  have HO3 := Lib.hid ho3
  have HB3 := Lib.hid hb3
  clear ho3 hb3 hg3
  go_wp2
  go_ret
  exact TellsM.mk_ rfl HO3.out (by rw [HX.out, HY.out]) HB3.out
end Go.Proofs.Ytmckgcooehdbaaa
