/- The contracts of Value and lead, for every value and every text of at most 100000 bytes. No condition beyond those that each theorem names. -/
import Derived.Test.YtmckgcooehdbaaaA4
set_option linter.unusedVariables false
set_option linter.unusedSimpArgs false
namespace Go.Proofs.Ytmckgcooehdbaaa
open Go.RowKit Go.Proofs.YtmckgcooehdbaaaW.PrintWords

def TellsI (w : World) (e : Ending) (w' : World) : Prop := ∃ n, e = .returned (.int .i64 n) ∧ Below w.heap.size w w'
theorem TellsI.mk_ {w w' : World} {e : Ending} {n : Int} (h : e = .returned (.int .i64 n)) (hb : Below w.heap.size w w') : TellsI w e w' := ⟨n, h, hb⟩
def TellsV (text : ByteArray) (w : World) (e : Ending) (w' : World) : Prop := ∃ b : Bool, e = .returned (.bool b) ∧ (b = true → text.size ≤ 200) ∧ Below w.heap.size w w'
theorem TellsV.mk_ {text : ByteArray} {w w' : World} {e : Ending} {b : Bool} (h : e = .returned (.bool b)) (hb : Below w.heap.size w w') (hs : b = true → text.size ≤ 200) : TellsV text w e w' := ⟨b, h, hs, hb⟩

set_option maxHeartbeats 2000000 in
set_option maxRecDepth 100000 in
theorem value_any (kind : Int) (text : ByteArray) (num : Int) (tru : Bool) (w : World) : Calls Try.prog 28 #[.agg #[.int .i64 kind, .string text, .int .i64 num, .bool tru]] w fun e w' => TellsV text w e w' := by
  go_enter Try.func28, Try.ntmps28
  go_upto_region 1 with fail
  go_cut [0, 39] (fun _ v39 wc => ∃ b : Bool, v39 = .bool b ∧ wc.cell? ⟨w.heap.size, 1, none⟩ = some (.string text) ∧ Below w.heap.size w wc)
  case first =>
    go_wp2
    all_goals (go_meet; exact ⟨_, rfl, by simp [World.cell?_alloc_new], (Below.refl _ _).alloc (Nat.le_refl _) _⟩)
  obtain ⟨b, rfl, hcell, hb⟩ := hcut
  have HB := Lib.hid hb
  clear hb
  cases b
  · by_cases h : text.size ≤ 200
    · go_wp2_with fail
      refine (right_any _ _ (by omega)).mono ?_
      rintro e w1 ⟨b, rfl, HB1⟩
      go_wp2
      go_ret
      exact TellsV.mk_ rfl (below_then HB.out HB.out.size HB1) (fun _ => h)
    · go_wp2
      go_ret
      exact TellsV.mk_ rfl HB.out (fun h => by cases h)
  · go_wp2
    go_ret
    exact TellsV.mk_ rfl HB.out (fun h => by cases h)

set_option maxHeartbeats 2000000 in
set_option maxRecDepth 100000 in
theorem lead_any (s : ByteArray) (w : World) (hs : s.size ≤ 100000) : Calls Try.prog 32 #[.string s] w fun e w' => TellsI w e w' := by
  go_enter Try.func32, Try.ntmps32
  go_wp2_with fail
  refine (runes_any _ _ hs).mono ?_
  rintro e w1 ⟨v0, v1, rs, ats, rfl, HT, hl, hn⟩
  obtain ⟨A, c, rfl, hr⟩ := own_reads HT.first
  obtain ⟨A2, c2, rfl, hr2⟩ := own_reads HT.second
  have HB := Lib.hid HT.below
  have HR := Lib.hid hr
  have HR2 := Lib.hid hr2
  have HL := Lib.hid hl
  clear HT hr hr2 hl
  go_wp2
  go_loop [5] (fun v5 => ∃ i : Nat, v5 = .int .i64 i ∧ i ≤ rs.length) (fun v5 => rs.length - (intOf v5).toNat)
  case atStart => exact ⟨0, rfl, by omega⟩
  case round =>
    obtain ⟨i, rfl, hi⟩ := hrel
    by_cases hlt : i < rs.length
    · have hlt2 : i < ats.length := by have := HL.out; omega
      obtain ⟨ad, ea, hc0⟩ := ReadsInt.at_ HR.out (i : Int) (by omega) (by omega)
      obtain ⟨ad2, ea2, hc02⟩ := ReadsInt.at_ HR2.out (i : Int) (by omega) (by omega)
      subst ea ea2
      have hc : w1.cell? (ad.add i) = some (.int .i64 (rd rs i)) := hc0
      have hc2 : w1.cell? (ad2.add i) = some (.int .i64 (rd ats i)) := hc02
      clear hc0 hc02
      generalize rd rs (i : Int) = x at hc
      generalize rd ats (i : Int) = y at hc2
      go_wp2_with fail
      refine (letter_any _ _).mono ?_
      rintro e w2 ⟨⟨b, rfl⟩, rfl⟩
      cases b
      all_goals go_wp2
      all_goals first
        | (go_ret; exact TellsI.mk_ rfl HB.out)
        | (go_round
           case rel => exact ⟨i + 1, by go_num, by omega⟩
           case measure => simp [intOf]; omega)
    · go_wp2
      go_ret
      exact TellsI.mk_ rfl HB.out
end Go.Proofs.Ytmckgcooehdbaaa
