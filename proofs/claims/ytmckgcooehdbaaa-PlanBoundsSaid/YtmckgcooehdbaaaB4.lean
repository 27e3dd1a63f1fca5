/- Rows of bytes whose block bears a mark: a text's bytes, and append onto them. No condition beyond those that each theorem names. -/
import Derived.Test.YtmckgcooehdbaaaB3
set_option linter.unusedVariables false
set_option linter.unusedSimpArgs false
namespace Go.Proofs.Ytmckgcooehdbaaa
open Go.RowKit Go.Proofs.YtmckgcooehdbaaaW.PrintWords

/-- A row of bytes in a block of the call's own, whatever mark the block bears behind its end. -/
def OwnM (w : World) (base : Nat) (v : Value) (xs : List Int) : Prop :=
  ∃ g cap, v = .slice (some ⟨g, 0, none⟩) xs.length cap ∧ base ≤ g ∧ g < w.heap.size ∧ xs.length ≤ cap ∧ cap ≤ maxLen ∧
    (∀ j, j < cap → (w.cell? ⟨g, j, none⟩).isSome = true ∧ w.frozen? ⟨g, j, none⟩ = false) ∧ ∀ j, j < xs.length → w.cell? ⟨g, j, none⟩ = some (.int .u8 (xs.getD j 0))
def TellsM (P : List Int → Prop) (w : World) (e : Ending) (w' : World) : Prop := ∃ v xs, e = .returned v ∧ OwnM w' w.heap.size v xs ∧ P xs ∧ Below w.heap.size w w'
theorem TellsM.mk_ {P : List Int → Prop} {w w' : World} {e : Ending} {v : Value} {xs : List Int} (h : e = .returned v) (ho : OwnM w' w.heap.size v xs) (hp : P xs) (hb : Below w.heap.size w w') : TellsM P w e w' := ⟨v, xs, h, ho, hp, hb⟩

theorem OwnM.reads {w : World} {base : Nat} {v : Value} {xs : List Int} (h : OwnM w base v xs) : ∃ g cap, v = .slice (some ⟨g, 0, none⟩) xs.length cap ∧ base ≤ g ∧ g < w.heap.size ∧ xs.length ≤ cap ∧ ReadsInt w .u8 (some ⟨g, 0, none⟩) xs.length xs := by
  obtain ⟨g, cap, rfl, h1, h2, h3, h4, h5, h6⟩ := h
  refine ⟨g, cap, rfl, h1, h2, h3, rfl, by unfold maxLen at h4; omega, fun _ => ⟨_, rfl, fun j hj => ?_⟩⟩
  rw [add_plain]
  exact h6 j hj
theorem OwnM.of_own {w : World} {base : Nat} {v : Value} {xs : List Int} (h : w.ownsRow base 5 1 v xs.length (nums .u8 xs)) (hx : 0 < xs.length) : OwnM w base v xs := by
  have h' := h
  obtain ⟨h1, h2⟩ := h
  rcases h2 with ⟨_, h0⟩ | ⟨g, cap, cur, rfl, hg, hh, hn, hcap, hsz, htake⟩
  · omega
  · have hl : g < w.heap.size := (Array.getElem?_eq_some_iff.1 hh).1
    refine ⟨g, cap, rfl, hg, hl, hn, hcap, fun j hj => ⟨?_, ?_⟩, fun j hj => ?_⟩
    · simp [World.cell?, hh, hsz, hj]
    · simp [World.frozen?, hh]
    · have := (own_at h' (j : Int) (by omega) (by omega)).1
      simpa [rd] using this
theorem OwnM.below {w w1 : World} {base : Nat} {v : Value} {xs : List Int} (h : OwnM w base v xs) (hb : Below w.heap.size w w1) : OwnM w1 base v xs := by
  obtain ⟨g, cap, rfl, h1, h2, h3, h4, h5, h6⟩ := h
  have hc : ∀ j, w1.cell? ⟨g, j, none⟩ = w.cell? ⟨g, j, none⟩ := fun j => hb.cell (p := ⟨g, j, none⟩) h2
  have hf : ∀ j, w1.frozen? ⟨g, j, none⟩ = w.frozen? ⟨g, j, none⟩ := fun j => hb.frozen (p := ⟨g, j, none⟩) h2
  exact ⟨g, cap, rfl, h1, Nat.lt_of_lt_of_le h2 hb.size, h3, h4, fun j hj => by rw [hc, hf]; exact h5 j hj, fun j hj => by rw [hc]; exact h6 j hj⟩
theorem OwnM.lower {w : World} {base base' : Nat} {v : Value} {xs : List Int} (h : OwnM w base v xs) (hb : base' ≤ base) : OwnM w base' v xs := by
  obtain ⟨g, cap, rfl, h1, h2⟩ := h
  exact ⟨g, cap, rfl, by omega, h2⟩

/-- A text's bytes in a new row. -/
theorem OwnM.of_text (w : World) (s : ByteArray) (hs : s.size ≤ 1000000) : OwnM (Lib.bytesWorld w 5 s) w.heap.size (.slice (some ⟨w.heap.size, 0, none⟩) s.size (grownCap w s.size 0 5)) (bytesB s) := by
  have hlen : (bytesB s).length = s.size := by simp [bytesB, ByteArray.toList_eq]
  have hcap : s.size ≤ grownCap w s.size 0 5 := grownCap_ge _ _ _ _
  have hmax : grownCap w s.size 0 5 ≤ maxLen := grownCap_le_maxLen _ _ _ _ (by unfold maxLen; omega)
  have hsz : (Lib.bytesCells w 5 s).size = grownCap w s.size 0 5 := by
    simp [Lib.bytesCells]; omega
  have hat := Lib.bytesWorld_at_new w 5 s
  refine ⟨w.heap.size, _, by rw [hlen], Nat.le_refl _, by rw [Lib.bytesWorld_size]; omega, by rw [hlen]; exact hcap, hmax, fun j hj => ⟨?_, ?_⟩, fun j hj => ?_⟩
  · simp [World.cell?, hat, hsz, hj]
  · simp [World.frozen?, hat, hsz]; omega
  · rw [Lib.bytesWorld_cell w 5 s j (by omega)]
    congr 2
    simp [bytesB, List.getD_eq_getElem?_getD, ByteArray.toList_eq]
    cases s.data[j]? <;> rfl

theorem grown_setCells (b : Nat) : ∀ (vs : List Value) (o : Nat) (w : World), w.grownBy (w.setCells b o vs) (some b)
  | [], _, _ => ⟨rfl, rfl, rfl, Nat.le_refl _, fun _ _ _ => rfl⟩
  | v :: r, o, w => by
    have h := grown_setCells b r (o + 1) (w.setCell ⟨b, o, none⟩ v)
    refine ⟨h.os, h.tape, h.output, by simpa [World.setCells] using h.size, fun k hk hne => ?_⟩
    rw [World.setCells, h.block k (by simpa using hk) hne]
    exact Below.heap_setCell _ _ _ _ (fun e => hne (by simp [e]))

/-- append onto such a row: whether there is room or not. -/
theorem append_ownm {P : Program} {ops : Array Oper} {rest : List Oper} {o : Oper} {a : Act} {Q : Exit → Act → World → Prop} {w0 W : World} (base : Nat) (hgd : o.guard = none) (s x : Operand) (t : TypeId)
    (ho : o.op = .call { callee := .builtin .append, args := #[s, x], argTypes := #[t, t] })
    (ht : P.underlying t = some (.slice 5)) (hinfo : (P.info? 5).map (fun i => (i.zero, i.size, i.bytes)) = some (some (.int .u8 0), 1, 1))
    (v : Value) (xs ys : List Int) (ad : Addr) (m c : Nat) (hs : a.eval s = v) (hx : a.eval x = .slice (some ad) m c)
    (HO : OwnM W base v xs) (HR : ReadsInt W .u8 (some ad) m ys) (HB : Below base w0 W) (hl : xs.length + m ≤ 100000000)
    (h : ∀ v1 w1, OwnM w1 base v1 (xs ++ ys) → Below base w0 w1 → W.grownBy w1 v.ownBlock → wpList P ops Q rest (a.put o.dst v1) w1) :
    wpList P ops Q (o :: rest) a W := by
  obtain ⟨i0, hi, hz0, hz1, hz2⟩ := info_parts hinfo
  obtain ⟨g, cap, rfl, h1, h2, h3, h4, h5, h6⟩ := HO
  have hbase : base ≤ W.heap.size := by omega
  have hm : ys.length = m := HR.1
  have hnew : ∀ j u, (nums .u8 ys)[j]? = some u → W.cell? (ad.add j) = some u := by
    intro j u hu
    have hj : j < ys.length := by
      have := (List.getElem?_eq_some_iff.1 hu).1
      simpa [nums] using this
    obtain ⟨ad', e, hc⟩ := HR.2.2 (by omega)
    cases e
    rw [hc j (by omega)]
    simpa [nums, List.getD_eq_getElem?_getD, List.getElem?_eq_getElem hj] using hu
  refine wpList_append_arg W hgd s x t ho 5 i0 (.int .u8 0) 1 1 ht hi hz0 hz1 hz2 rfl (by decide) g 0 xs.length cap (nums .u8 xs) hs (by simp [nums]) ?_ ad m c (nums .u8 ys) hx (by simp [nums, hm]) hnew ?_ ?_ (by unfold maxLen; omega) (by omega) ?_ ?_
  · intro j u hu
    have hj : j < xs.length := by
      have := (List.getElem?_eq_some_iff.1 hu).1
      simpa [nums] using this
    rw [Nat.zero_add, h6 j hj]
    simpa [nums, List.getD_eq_getElem?_getD, List.getElem?_eq_getElem hj] using hu
  · intro u hu
    simp only [nums, List.mem_map] at hu
    obtain ⟨_, _, rfl⟩ := hu
    rfl
  · intro hr j hj
    simp only [nums, List.length_map] at hj
    have := h5 (xs.length + j) (by omega)
    simpa using this
  · intro hr
    have hg := grown_setCells g (nums .u8 ys) (0 + xs.length * 1) W
    have hsome : ∀ j, j < (nums .u8 ys).length → (W.cell? ⟨g, 0 + xs.length * 1 + j, none⟩).isSome = true := fun j hj => by
      simp only [nums, List.length_map] at hj
      have := (h5 (xs.length + j) (by omega)).1
      simpa using this
    refine h _ _ ?_ (HB.grown hg hbase (fun k hk => by cases hk; exact h1)) hg
    have hlen : (xs ++ ys).length = xs.length + m := by simp [hm]
    refine ⟨g, cap, by rw [hlen], h1, by have := hg.size; omega, by omega, h4, fun j hj => ⟨?_, ?_⟩, fun j hj => ?_⟩
    · by_cases hin : xs.length ≤ j ∧ j < xs.length + m
      · have := World.cell?_setCells_in g (nums .u8 ys) (0 + xs.length * 1) W hsome (j - xs.length) (by simp [nums]; omega)
        rw [show 0 + xs.length * 1 + (j - xs.length) = j by omega] at this
        rw [this]; rfl
      · rw [World.cell?_setCells_out g (nums .u8 ys) (0 + xs.length * 1) W ⟨g, j, none⟩ (fun _ _ => by simp [nums]; omega)]
        exact (h5 j hj).1
    · rw [World.frozen?_setCells]
      exact (h5 j hj).2
    · by_cases hin : xs.length ≤ j
      · have hj2 : j - xs.length < ys.length := by omega
        have := World.cell?_setCells_in g (nums .u8 ys) (0 + xs.length * 1) W hsome (j - xs.length) (by simp [nums]; omega)
        rw [show 0 + xs.length * 1 + (j - xs.length) = j by omega] at this
        rw [this]
        simp [nums, List.getD_eq_getElem?_getD, List.getElem?_append_right hin, List.getElem?_eq_getElem hj2]
      · rw [World.cell?_setCells_out g (nums .u8 ys) (0 + xs.length * 1) W ⟨g, j, none⟩ (fun _ _ => by simp; omega)]
        rw [h6 j (by omega)]
        simp [List.getD_eq_getElem?_getD, List.getElem?_append_left (show j < xs.length by omega)]
  · intro hr v' w' hown hg
    have hg' : W.grownBy w' (some g) := ⟨hg.os, hg.tape, hg.output, hg.size, fun k hk _ => hg.block k hk (by simp)⟩
    refine h _ _ ?_ (HB.grown hg hbase (fun k hk => by cases hk)) hg'
    refine OwnM.lower (OwnM.of_own (base := W.heap.size) ?_ (by simp; omega)) hbase
    simpa [nums, hm] using hown
end Go.Proofs.Ytmckgcooehdbaaa
