/- A region that draws its order, by what each operation's value is where it is carried out: each operation is shown once. Plain theorems, no condition beyond those that each names. -/
import Derived.Test.YtmckgcooehdbaaaWInvWords
import Derived.Below
set_option linter.unusedVariables false
set_option linter.unusedSimpArgs false
namespace Go.Proofs.Ytmckgcooehdbaaa
open Go.RowKit Go.Proofs.YtmckgcooehdbaaaW.PrintLast

/-- The frame: what is listed has its slot filled. -/
def frameOf (b : Nat → Bool) (x : Nat → Value) : Act → List (Nat × Tmp) → Act
  | a, [] => a
  | a, e :: r => frameOf b x (if b e.1 = true then a.put (some e.2) (x e.1) else a) r
/-- The frame with every slot filled. -/
def fullOf (x : Nat → Value) : Act → List (Nat × Tmp) → Act
  | a, [] => a
  | a, e :: r => fullOf x (a.put (some e.2) (x e.1)) r
def setAt (x : Nat → Value) (j : Nat) (v : Value) : Nat → Value := fun i => if i = j then v else x i
theorem setAt_self (x : Nat → Value) (j : Nat) (v : Value) : setAt x j v j = v := by simp [setAt]
theorem setAt_ne {x : Nat → Value} {i j : Nat} {v : Value} (h : i ≠ j) : setAt x j v i = x i := by simp [setAt, h]
theorem frame_size (b : Nat → Bool) (x : Nat → Value) : ∀ (dl : List (Nat × Tmp)) (a : Act), (frameOf b x a dl).tmps.size = a.tmps.size
  | [], a => rfl
  | e :: r, a => by
    unfold frameOf
    rw [frame_size b x r]
    split
    · simp [Act.put]
    · rfl
theorem frame_full {b : Nat → Bool} {x : Nat → Value} : ∀ {dl : List (Nat × Tmp)} {a : Act}, (∀ e ∈ dl, b e.1 = true) → frameOf b x a dl = fullOf x a dl
  | [], a, _ => rfl
  | e :: r, a, h => by
    unfold frameOf fullOf
    rw [if_pos (h e (by simp))]
    exact frame_full (fun e' he => h e' (by simp [he]))
theorem frame_none {x : Nat → Value} : ∀ {dl : List (Nat × Tmp)} {a : Act}, frameOf (fun _ => false) x a dl = a
  | [], a => rfl
  | e :: r, a => by
    unfold frameOf
    rw [if_neg (by decide)]
    exact frame_none
theorem frame_off {b : Nat → Bool} {x : Nat → Value} {t : Tmp} : ∀ {dl : List (Nat × Tmp)} {a : Act}, (∀ e ∈ dl, e.2 ≠ t) → (frameOf b x a dl).tmps[t]? = a.tmps[t]?
  | [], a, _ => rfl
  | e :: r, a, h => by
    unfold frameOf
    rw [frame_off (fun e' he => h e' (by simp [he]))]
    split
    · simp [Act.put, Array.getElem?_setIfInBounds_ne (h e (by simp))]
    · rfl
theorem frame_on {b : Nat → Bool} {x : Nat → Value} {i : Nat} {t : Tmp} (hb : b i = true) : ∀ {dl : List (Nat × Tmp)} {a : Act}, (i, t) ∈ dl → (dl.map (·.2)).Nodup → t < a.tmps.size → (frameOf b x a dl).tmps[t]? = some (x i)
  | [], a, h, _, _ => by cases h
  | e :: r, a, h, hn, ht => by
    unfold frameOf
    rw [List.map_cons, List.nodup_cons] at hn
    rcases List.mem_cons.1 h with rfl | h
    · rw [if_pos hb, frame_off (fun e' he heq => hn.1 (by rw [← show e'.2 = t from heq]; exact List.mem_map_of_mem (f := (·.2)) he))]
      simp [Act.put, ht]
    · refine frame_on hb h hn.2 ?_
      split
      · simpa [Act.put] using ht
      · exact ht
theorem frame_comm {b : Nat → Bool} {x : Nat → Value} {t : Tmp} {v : Value} : ∀ {dl : List (Nat × Tmp)} {a : Act}, (∀ e ∈ dl, e.2 ≠ t) → (frameOf b x a dl).put (some t) v = frameOf b x (a.put (some t) v) dl
  | [], a, _ => rfl
  | e :: r, a, h => by
    unfold frameOf
    rw [frame_comm (fun e' he => h e' (by simp [he]))]
    split
    · rw [put_comm (h e (by simp))]
    · rfl
theorem frame_same {b : Nat → Bool} {x : Nat → Value} {j : Nat} {v : Value} : ∀ {dl : List (Nat × Tmp)} {a : Act}, (∀ e ∈ dl, e.1 ≠ j) → frameOf (up b j) (setAt x j v) a dl = frameOf b x a dl
  | [], a, _ => rfl
  | e :: r, a, h => by
    unfold frameOf
    rw [up_ne (h e (by simp)), setAt_ne (h e (by simp))]
    exact frame_same (fun e' he => h e' (by simp [he]))
theorem frame_put {b : Nat → Bool} {x : Nat → Value} {j : Nat} {t : Tmp} {v : Value} (hb : b j = false) : ∀ {dl : List (Nat × Tmp)} {a : Act}, (j, t) ∈ dl → (dl.map (·.1)).Nodup → (dl.map (·.2)).Nodup →
    (frameOf b x a dl).put (some t) v = frameOf (up b j) (setAt x j v) a dl
  | [], a, h, _, _ => by cases h
  | e :: r, a, h, h1, h2 => by
    rw [List.map_cons, List.nodup_cons] at h1 h2
    unfold frameOf
    rcases List.mem_cons.1 h with rfl | h
    · rw [up_self, setAt_self, if_neg (by simp [hb]), if_pos rfl]
      rw [frame_comm (fun e' he heq => h2.1 (by rw [← show e'.2 = t from heq]; exact List.mem_map_of_mem (f := (·.2)) he)), frame_same (fun e' he heq => h1.1 (by rw [← show e'.1 = j from heq]; exact List.mem_map_of_mem (f := (·.1)) he))]
    · have hne : e.1 ≠ j := fun heq => h1.1 (by rw [heq]; exact List.mem_map_of_mem (f := (·.1)) h)
      rw [up_ne hne, setAt_ne hne]
      exact frame_put hb h h1.2 h2.2

section
variable {P : Program} {ops : Array Oper} {Q : Exit → Act → World → Prop}
/-- Is it carried out? By its guard's value. -/
def WantsOf (o : Oper) (x : Nat → Value) : Prop := match o.guard with
  | none => True
  | some (g, u) => x g = .bool u
def dstsOf (ops : Array Oper) : List (Nat × Tmp) := (List.range ops.size).filterMap fun j => ((ops[j]?).bind (·.dst)).map fun t => (j, t)
theorem dsts_mem {j : Nat} {t : Tmp} : (j, t) ∈ dstsOf ops ↔ ∃ o, ops[j]? = some o ∧ o.dst = some t := by
  unfold dstsOf
  simp only [List.mem_filterMap, List.mem_range, Option.map_eq_some_iff, Option.bind_eq_some_iff, Prod.mk.injEq]
  constructor
  · rintro ⟨i, _, t', ⟨o, ho, hd⟩, rfl, rfl⟩
    exact ⟨o, ho, hd⟩
  · rintro ⟨o, ho, hd⟩
    exact ⟨j, (Array.getElem?_eq_some_iff.1 ho).1, t, ⟨o, ho, hd⟩, rfl, rfl⟩
/-- Each guard is an operation that is waited for, and that yields. -/
def guardsOk (ops : Array Oper) (B : List Nat) : Bool := (List.range ops.size).all fun j => match (ops[j]?).bind (·.guard) with
  | none => true
  | some (g, _) => (B.getD j 0).testBit g && decide (g < ops.size) && ((ops[g]?).bind (·.dst)).isSome
theorem guards_spec {B : List Nat} (h : guardsOk ops B = true) {j g : Nat} {u : Bool} {o : Oper} (ho : ops[j]? = some o) (hg : o.guard = some (g, u)) : (B.getD j 0).testBit g = true ∧ g < ops.size ∧ ∃ og t, ops[g]? = some og ∧ og.dst = some t := by
  have h1 := List.all_eq_true.1 h j (List.mem_range.2 (Array.getElem?_eq_some_iff.1 ho).1)
  rw [ho] at h1
  simp only [Option.bind_some, hg, Bool.and_eq_true, decide_eq_true_eq] at h1
  obtain ⟨⟨h2, h3⟩, h4⟩ := h1
  refine ⟨h2, h3, ?_⟩
  obtain ⟨t, ht⟩ := Option.isSome_iff_exists.1 h4
  obtain ⟨og, ho2, hd⟩ := Option.bind_eq_some_iff.1 ht
  exact ⟨og, t, ho2, hd⟩
/-- What is to be shown of operation j. -/
def Ob (P : Program) (ops : Array Oper) (Q : Exit → Act → World → Prop) (B : List Nat) (a0 : Act) (S : World → World → Prop) (w0 : World) (V : Nat → Value → World → Prop) (j : Nat) : Prop :=
  ∀ (o : Oper) (x : Nat → Value) (a : Act) (w : World), ops[j]? = some o → S w0 w →
    (∀ i oi, ops[i]? = some oi → (B.getD j 0).testBit i = true → WantsOf oi x → V i (x i) w) →
    (∀ i oi, ops[i]? = some oi → (B.getD j 0).testBit i = true → ¬ WantsOf oi x → x i = undef) →
    (∀ i t oi, ops[i]? = some oi → oi.dst = some t → (B.getD j 0).testBit i = true → a.tmps[t]? = some (x i)) →
    (∀ t, ((dstsOf ops).all fun e => !(e.2 == t)) = true → a.tmps[t]? = a0.tmps[t]?) → WantsOf o x →
    ∀ K : Act → World → Prop, (∀ v w', S w w' → V j v w' → K (a.put o.dst v) w') → Oper.wp P o a w K Q
def IT (ops : Array Oper) (a0 : Act) (S : World → World → Prop) (w0 : World) (V : Nat → Value → World → Prop) (b : Nat → Bool) (a : Act) (w : World) : Prop :=
  ∃ x, a = frameOf b x a0 (dstsOf ops) ∧ S w0 w ∧ (∀ j o, ops[j]? = some o → b j = true → WantsOf o x → V j (x j) w) ∧ (∀ j o g u, ops[j]? = some o → b j = true → o.guard = some (g, u) → b g = true) ∧ (∀ j o, ops[j]? = some o → b j = true → ¬ WantsOf o x → x j = undef)
theorem typed_step {B : List Nat} {a0 : Act} {S : World → World → Prop} {w0 : World} {V : Nat → Value → World → Prop} {n : Nat} (hn : ops.size = n) (hg : guardsOk ops B = true) (h1 : ((dstsOf ops).map (·.1)).Nodup) (h2 : ((dstsOf ops).map (·.2)).Nodup)
    (hsz : ∀ e ∈ dstsOf ops, e.2 < a0.tmps.size) (hV : ∀ j v w w', S w w' → V j v w → V j v w') (hR : ∀ w, S w w) (hT : ∀ a b c, S a b → S b c → S a c) (j : Nat) (hj : j < n) (ob : Ob P ops Q B a0 S w0 V j) : StepAt P ops Q B (List.range n) (IT ops a0 S w0 V) j := by
  rintro b a w ⟨x, rfl, hB, hv, hgl, hun⟩ hb hon hoff
  have ho : ops[j]? = some (ops[j]'(by omega)) := Array.getElem?_eq_getElem _
  generalize ops[j]'(by omega) = o at ho
  have hin : ∀ i, i < n → (List.range n).contains i = true := fun i hi => by simpa using hi
  have hbit : ∀ i oi, ops[i]? = some oi → (B.getD j 0).testBit i = true → b i = true := fun i oi hi ht => hon i (by rw [hin i (by rw [← hn]; exact (Array.getElem?_eq_some_iff.1 hi).1), ht]; rfl)
  have hslot : ∀ i t oi, ops[i]? = some oi → oi.dst = some t → b i = true → (frameOf b x a0 (dstsOf ops)).tmps[t]? = some (x i) := fun i t oi hi hd hbi => by
    have hm := dsts_mem.2 ⟨oi, hi, hd⟩
    exact frame_on hbi hm h2 (hsz _ hm)
  have hgj : ∀ g u, o.guard = some (g, u) → b g = true := fun g u he => by
    obtain ⟨h3, h4, og, t, h5, h6⟩ := guards_spec hg ho he
    exact hbit g og h5 h3
  have hset : ∀ (i : Nat) (oi : Oper) (v : Value), (∀ g u, oi.guard = some (g, u) → b g = true) → (WantsOf oi (setAt x j v) ↔ WantsOf oi x) := fun i oi v hgi => by
    unfold WantsOf
    cases hgu : oi.guard with
    | none => exact Iff.rfl
    | some gu =>
      obtain ⟨g, u⟩ := gu
      have hbg := hgi g u hgu
      have hne : g ≠ j := fun e => by rw [e, hb] at hbg; cases hbg
      simp [setAt_ne hne]
  have next : ∀ v w', S w w' → (WantsOf o (setAt x j v) → V j v w') → (¬ WantsOf o (setAt x j v) → v = undef) → IT ops a0 S w0 V (up b j) ((frameOf b x a0 (dstsOf ops)).put o.dst v) w' := by
    intro v w' hb' hvj hvu
    refine ⟨setAt x j v, ?_, hT _ _ _ hB hb', ?_, ?_, ?_⟩
    · cases hd : o.dst with
      | some t => exact frame_put hb (dsts_mem.2 ⟨o, ho, hd⟩) h1 h2
      | none =>
        refine (frame_same (fun e he heq => ?_)).symm
        obtain ⟨o', ho', hd'⟩ := dsts_mem.1 (show (e.1, e.2) ∈ dstsOf ops from he)
        rw [heq, ho] at ho'
        cases ho'
        rw [hd] at hd'
        cases hd'
    · intro i oi hi hbi hwi
      by_cases hij : i = j
      · subst hij
        rw [ho] at hi
        cases hi
        rw [setAt_self]
        exact hvj hwi
      · rw [up_ne hij] at hbi
        rw [setAt_ne hij]
        exact hV _ _ _ _ hb' (hv i oi hi hbi ((hset i oi v (fun g u hgu => hgl i oi g u hi hbi hgu)).1 hwi))
    · intro i oi g u hi hbi hgu
      by_cases hgj' : g = j
      · rw [hgj', up_self]
      · rw [up_ne hgj']
        by_cases hij : i = j
        · subst hij
          rw [ho] at hi
          cases hi
          exact hgj g u hgu
        · rw [up_ne hij] at hbi
          exact hgl i oi g u hi hbi hgu
    · intro i oi hi hbi hwi
      by_cases hij : i = j
      · subst hij
        rw [ho] at hi
        cases hi
        rw [setAt_self]
        exact hvu hwi
      · rw [up_ne hij] at hbi
        rw [setAt_ne hij]
        exact hun i oi hi hbi (fun h => hwi ((hset i oi v (fun g u hgu => hgl i oi g u hi hbi hgu)).2 h))
  refine ⟨o, ho, fun K hK => ?_⟩
  by_cases hw : WantsOf o x
  · have hwt : Region.wanted o (yielded ops (frameOf b x a0 (dstsOf ops)).tmps) = true := by
      cases hgu : o.guard with
      | none => simp [Region.wanted, hgu]
      | some gu =>
        obtain ⟨g, u⟩ := gu
        obtain ⟨h3, h4, og, t, h5, h6⟩ := guards_spec hg ho hgu
        have hxg : x g = .bool u := by simpa [WantsOf, hgu] using hw
        exact wanted_on hgu h5 h6 (by rw [hslot g t og h5 h6 (hgj g u hgu), hxg])
    rw [if_pos hwt]
    exact ob o x _ w ho hB (fun i oi hi ht hwi => hv i oi hi (hbit i oi hi ht) hwi) (fun i oi hi ht hwi => hun i oi hi (hbit i oi hi ht) hwi) (fun i t oi hi hd ht => hslot i t oi hi hd (hbit i oi hi ht)) (fun t ht => frame_off (fun e he => by simpa using List.all_eq_true.1 ht e he)) hw K
      (fun v w' hb' hvj => hK _ _ (next v w' hb' (fun _ => hvj) (fun h => absurd ((hset j o v hgj).2 hw) h)))
  · have hwf : Region.wanted o (yielded ops (frameOf b x a0 (dstsOf ops)).tmps) = false := by
      cases hgu : o.guard with
      | none => exact absurd (by simp [WantsOf, hgu]) hw
      | some gu =>
        obtain ⟨g, u⟩ := gu
        obtain ⟨h3, h4, og, t, h5, h6⟩ := guards_spec hg ho hgu
        have hxg : x g ≠ .bool u := fun e => hw (by simp [WantsOf, hgu, e])
        have hs := hslot g t og h5 h6 (hgj g u hgu)
        simp only [Region.wanted, hgu, yielded, h5, Option.bind_some, h6, hs]
        cases hx : x g with
        | bool c =>
          have : c ≠ u := fun e => hxg (by rw [hx, e])
          cases c <;> cases u <;> simp_all
        | _ => rfl
    rw [hwf, if_neg (by decide)]
    exact hK _ _ (next undef w (hR _) (fun hwi => absurd ((hset j o undef hgj).1 hwi) hw) (fun _ => rfl))
/-- THE REGION: each operation once; behind it every slot holds what its operation's value is. -/
theorem region_typed {id : Nat} {a0 : Act} {w0 : World} {n : Nat} (S : World → World → Prop) (B : List Nat) (V : Nat → Value → World → Prop) (hm : P.follows .mixedOrders = true) (hn : ops.size = n) (hw : waitsOk (rtab .any ops).2 B = true) (hk : baseOk (rtab .any ops).2 (List.range n) = true)
    (hg : guardsOk ops B = true) (h1 : decide (((dstsOf ops).map (·.1)).Nodup) = true) (h2 : decide (((dstsOf ops).map (·.2)).Nodup) = true) (hsz : ∀ e ∈ dstsOf ops, e.2 < a0.tmps.size) (hR : ∀ w, S w w) (hT : ∀ a b c, S a b → S b c → S a c) (h0 : S w0 w0.drew)
    (hV : ∀ j v w w', S w w' → V j v w → V j v w') (ob : ∀ j, j < n → Ob P ops Q B a0 S w0 V j)
    (hQ : ∀ x w', S w0 w' → (∀ j o, ops[j]? = some o → WantsOf o x → V j (x j) w') → Q .normal (fullOf x a0 (dstsOf ops)) w') : (Code.region id ops true).wp P Q a0 w0 := by
  refine start_ (S := fun _ => True) (ds := []) (n := n) (Array.replicate n false) hm hn rfl trivial (fun _ => ?_)
  refine inv_ (T := rtab .any ops) (B := B) (List.range n) (IT ops a0 S w0 V) rfl hw hk ?_ ?_ ?_ ?_
  · have e : (rtab .any ops).2.length = n := by rw [rtab_length, hn]
    rw [e]
    simp only [List.length_range, beq_self_eq_true, Bool.and_true, beq_iff_eq]
    apply List.ext_getElem?
    intro i
    by_cases hi : i < n
    · simp [lof, hi]
    · simp [lof, hi]
  · exact ⟨fun _ => undef, frame_none.symm, h0, (fun _ _ _ h => by cases h), (fun _ _ _ _ _ h => by cases h), (fun _ _ _ h => by cases h)⟩
  · intro j hj
    exact typed_step hn hg (of_decide_eq_true h1) (of_decide_eq_true h2) hsz hV hR hT j (by simpa using hj) (ob j (by simpa using hj))
  · rintro b a w hall ⟨x, rfl, hB, hv, _, _⟩
    have hb : ∀ j o, ops[j]? = some o → b j = true := fun j o hj => hall j (by simpa [hn] using (Array.getElem?_eq_some_iff.1 hj).1)
    rw [frame_full (fun e he => by
      obtain ⟨o, ho, _⟩ := dsts_mem.1 (show (e.1, e.2) ∈ dstsOf ops from he)
      exact hb _ _ ho)]
    exact hQ x w hB (fun j o hj hw => hv j o hj (hb j o hj) hw)
/-- An operation that yields. -/
theorem wp_val {o : Oper} {a : Act} {w w1 : World} {v : Value} {K : Act → World → Prop} (hrun : (execOp a.eval o).run P w = .ok (.value v) w1) (h : K (a.put o.dst v) w1) : Oper.wp P o a w K Q := by
  unfold Oper.wp
  rw [hrun]
  exact h
theorem wp_skip {o : Oper} {a : Act} {w w1 : World} {K : Act → World → Prop} (hrun : (execOp a.eval o).run P w = .ok .skip w1) (h : K (a.put o.dst undef) w1) : Oper.wp P o a w K Q := by
  unfold Oper.wp
  rw [hrun]
  exact h
/-- A call of a Go function. -/
theorem wp_calls {o : Oper} {a : Act} {w : World} {K : Act → World → Prop} {f : FuncId} {fn : Func} {ats : Array Operand} {ts : Array TypeId} (hf : P.funcs[f]? = some fn) (hname : (fn.name == "runtime.NumGoroutine") = false) (hb : fn.body.isSome = true) (args : Array Value)
    (hop : o.op = .call { callee := .value (.func f), args := ats, argTypes := ts }) (hargs : ats.map a.eval = args)
    (h : Calls P f args w fun e w' => ∃ v, e = .returned v ∧ K (a.put o.dst v) w') : Oper.wp P o a w K Q := by
  have he := enters_ hf hname hb args w
  have hrun : (execOp a.eval o).run P w = .ok (.enter f args) w := by
    unfold execOp
    simp [hop, resolve, Deferred.ofValue, invoke, Act.eval, hargs, he]
  unfold Oper.wp
  rw [hrun, Oper.upon_enter]
  refine h.mono fun e w'' hh => ?_
  obtain ⟨v, rfl, hk⟩ := hh
  exact hk
theorem wants_none {o : Oper} {x : Nat → Value} (h : o.guard = none) : WantsOf o x := by simp [WantsOf, h]
theorem wants_some {o : Oper} {x : Nat → Value} {g : Nat} {u : Bool} (h : o.guard = some (g, u)) : WantsOf o x ↔ x g = .bool u := by simp [WantsOf, h]
/-- What each operation waits for, directly or not, as bits. -/
def bitsOf (T : List (List Nat × List Nat)) : List Nat := T.foldl (fun B r => B ++ [r.1.foldl (fun m n => m ||| (1 <<< n) ||| B.getD n 0) 0]) []
end
end Go.Proofs.Ytmckgcooehdbaaa
