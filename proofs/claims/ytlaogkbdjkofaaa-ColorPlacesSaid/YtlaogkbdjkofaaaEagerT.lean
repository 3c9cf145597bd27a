/- The eager rule for any preorder between worlds; an operation may change whatever it likes if nothing but moves can still be pending when it runs (by chains of up to three edges). -/
import Derived.Test.YtlaogkbdjkofaaaEagerR
namespace Go.Proofs.Ytlaogkbdjkofaaa
open Go.RowKit
set_option linter.unusedVariables false
set_option linter.unusedSectionVars false

def moveT : Op → Bool
  | .move _ => true
  | _ => false
/-- j comes behind i, by a chain of edges -/
def depT (ops : Array Oper) : Nat → Nat → Nat → Bool
  | 0, _, _ => false
  | f + 1, i, j => ((ops[j]?).map fun o => o.after.any fun e => Region.binds .any e && (e.on == i || depT ops f i e.on)).getD false
def DownT (ops : Array Oper) (listed : Array Bool) : Prop := ∀ k o, ops[k]? = some o → listed.getD k false = true → ∀ e ∈ o.after, Region.binds .any e = true → listed.getD e.on false = true
theorem depT_listed {ops : Array Oper} {listed : Array Bool} (hd : DownT ops listed) {i : Nat} : ∀ (f j : Nat), (∀ o, ops[j]? = some o → ∀ e ∈ o.after, Region.binds .any e = true → listed.getD e.on false = true) → depT ops f i j = true → listed.getD i false = true
  | 0, j, _, h => by cases h
  | f + 1, j, hj, h => by
    unfold depT at h
    cases ho : ops[j]? with
    | none => rw [ho] at h; cases h
    | some o =>
      rw [ho] at h
      simp only [Option.map_some, Option.getD_some, Array.any_eq_true', Bool.and_eq_true, Bool.or_eq_true, beq_iff_eq] at h
      obtain ⟨e, he, hb, h1 | h1⟩ := h
      · rw [← h1]; exact hj o ho e he hb
      · exact depT_listed hd f e.on (fun o' ho' => hd e.on o' ho' (hj o ho e he hb)) h1
theorem DownT.set {ops : Array Oper} {listed : Array Bool} {j : Nat} (hd : DownT ops listed) (hr : j ∈ Region.ready .any ops listed) : DownT ops (listed.setIfInBounds j true) := by
  obtain ⟨_, o, ho, hall⟩ := mem_ready.1 hr
  intro k o' ho' hk e he hb
  by_cases h : j = k
  · subst h
    obtain rfl : o = o' := Option.some.inj (ho.symm.trans ho')
    exact getD_set_true (hall e he hb)
  · rw [getD_set_ne false h] at hk
    exact getD_set_true (hd k o' ho' hk e he hb)
theorem DownT.start (ops : Array Oper) (n : Nat) : DownT ops (Array.replicate n false) := by
  intro k o _ hk
  exfalso
  rw [Array.getD_eq_getD_getElem?, Array.getElem?_replicate] at hk
  split at hk <;> simp at hk
/-- whatever may still be pending when operation j runs is a move -/
def lodT (ops : Array Oper) (j : Nat) : Bool := (List.range ops.size).all fun i => i == j || (((ops[i]?).map fun o => moveT o.op || !plainB o.op || o.after.any fun e => Region.binds .any e && e.on == j).getD false) || depT ops 3 i j
theorem lodT_move {ops : Array Oper} {i j : Nat} {oi oj : Oper} (hi : ops[i]? = some oi) (hj : ops[j]? = some oj) (hij : j ≠ i) (hnot : depT ops 3 i j = false) (hnot2 : ∀ e ∈ oi.after, Region.binds .any e = true → e.on ≠ j)
    (hp : plainB oi.op = true) (h : lodT ops j = true) : ∃ x, oi.op = .move x := by
  unfold lodT at h
  rw [List.all_eq_true] at h
  have hlt : i < ops.size := by
    rcases Nat.lt_or_ge i ops.size with h' | h'
    · exact h'
    · rw [Array.getElem?_eq_none h'] at hi; cases hi
  have h1 := h i (List.mem_range.2 hlt)
  simp only [Bool.or_eq_true, beq_iff_eq, hi, Option.map_some, Option.getD_some, hp, Bool.not_true, Bool.false_eq_true, or_false, hnot] at h1
  rcases h1 with h1 | h1 | h1
  · exact absurd h1.symm hij
  · cases ho : oi.op <;> simp only [ho, moveT, Bool.false_eq_true] at h1
    exact ⟨_, rfl⟩
  · rw [Array.any_eq_true'] at h1
    obtain ⟨e, he, hb⟩ := h1
    simp only [Bool.and_eq_true, beq_iff_eq] at hb
    exact absurd hb.2 (hnot2 e he hb.1)
theorem yieldsT_move {P : Program} {ops : Array Oper} {o : Oper} {x : Operand} (ho : o.op = .move x) {v : Value} {a : Act} {C C' : World → Prop} (w0 : World) (hw0 : C w0) (h : YieldsIn P ops C o v a) : YieldsIn P ops C' o v a := by
  rcases h with ⟨p, q⟩ | h
  · refine .inl ⟨p, fun w _ => ?_⟩
    have h9 := q w0 hw0
    unfold Oper.quietAt at *
    simp [execOp, ho, Oper.quietUpon] at h9 ⊢
    exact h9
  · exact .inr h

section
variable {P : Program} {ops : Array Oper} {R : World → World → Prop} [PreR R]

def clsRT (R : World → World → Prop) (b : World) : World → Prop := fun w' => ∃ x : AfterR R b, w' = x.world
/-- an operation comes up: it is passed over; or it yields one value in every world of the class; or it is run in the world that stands -/
def opRT (P : Program) (ops : Array Oper) (R : World → World → Prop) (i : Nat) (K : Act → World → Prop) (a : Act) (b : World) : Prop :=
  ∀ o, ops[i]? = some o →
    (Region.wanted o (yielded ops a.tmps) = true → (plainB o.op = true ∧ o.quiet P a (clsRT R b) (fun a' => K a' b)) ∨ o.wp P a b (fun a' w' => (lodT ops i = false → R b w') ∧ K a' w') NoWay) ∧
    (Region.wanted o (yielded ops a.tmps) = false → K (a.put o.dst undef) b)

theorem opR_monoT {i : Nat} {K K' : Act → World → Prop} {a : Act} {b : World} (h : ∀ a b', K a b' → K' a b') (hh : opRT P ops R i K a b) : opRT P ops R i K' a b := by
  intro o ho
  obtain ⟨h1, h2⟩ := hh o ho
  refine ⟨fun hw => ?_, fun hw => h _ _ (h2 hw)⟩
  rcases h1 hw with ⟨hp, h3⟩ | h3
  · exact .inl ⟨hp, Oper.quiet_mono (fun a' => h a' b) h3⟩
  · exact .inr (Oper.wp_mono (fun a' w' ⟨p, q⟩ => ⟨p, h _ _ q⟩) h3)

/-- whatever order is picked -/
def anyRT (P : Program) (ops : Array Oper) (R : World → World → Prop) (Q : Act → World → Prop) : Nat → Array Bool → Act → World → Prop
  | 0, listed, a, b => Region.ready .any ops listed = [] ∧ Q a b
  | f + 1, listed, a, b => (Region.ready .any ops listed = [] → Q a b) ∧
    ∀ i ∈ Region.ready .any ops listed, opRT P ops R i (anyRT P ops R Q f (listed.setIfInBounds i true)) a b

theorem wp_of_plainRT {o : Oper} {a : Act} {b : World} {K : Act → Prop} {K' : Act → World → Prop} {Q : Exit → Act → World → Prop} (hp : plainB o.op = true) (h : o.quiet P a (clsRT R b) K) (hk : ∀ a, K a → K' a b) : o.wp P a b K' Q := by
  obtain ⟨v, h1, h2⟩ := h
  have h9 := h1 b ⟨⟨b, PreR.refl _⟩, rfl⟩
  have hne := plain_ne (P := P) hp a.eval b
  unfold Oper.quietAt at h9
  unfold Oper.wp
  generalize (execOp a.eval o).run P b = r at *
  cases r with
  | ok n w3 =>
    cases n <;> simp only [Oper.quietUpon] at h9 <;> simp only [Oper.upon]
    case enter f args => exact absurd rfl (hne w3 f args)
    case value u => obtain ⟨rfl, rfl⟩ := h9; exact hk _ h2
    case skip => obtain ⟨rfl, rfl⟩ := h9; exact hk _ h2
  | halt z w3 => exact h9.elim

theorem anyR_soundT {Q : Act → World → Prop} {Q' : Exit → Act → World → Prop} (hQ : ∀ a w, Q a w → Q' .normal a w) : ∀ (f : Nat) (listed : Array Bool) (a : Act) (b : World),
    anyRT P ops R Q f listed a b → wpAny P .any ops Q' f listed a b
  | 0, listed, a, b, h => ⟨h.1, hQ _ _ h.2⟩
  | f + 1, listed, a, b, h => by
    refine ⟨fun h0 => hQ _ _ (h.1 h0), fun i hi => ?_⟩
    have h2 := h.2 i hi
    unfold wpOp
    split
    · rename_i hn
      obtain ⟨_, o, ho, _⟩ := mem_ready.1 hi
      rw [ho] at hn; cases hn
    · rename_i o ho
      obtain ⟨h3, h4⟩ := h2 o ho
      split
      · rename_i hw
        rcases h3 hw with ⟨hp, h5⟩ | h5
        · exact .inl (wp_of_plainRT hp h5 fun a' hk => anyR_soundT hQ f _ a' b hk)
        · exact .inl (wp_noWay (Oper.wp_mono (fun a' w' ⟨_, hk⟩ => anyR_soundT hQ f _ a' w' hk) h5))
      · rename_i hw
        exact anyR_soundT hQ f _ _ b (h4 (by simpa using hw))

theorem yieldsR_laterT {o : Oper} {v : Value} {a : Act} {b w' : World} (hb : R b w') (hp : plainB o.op = true) (hy : YieldsIn P ops (clsRT R b) o v a) : YieldsIn P ops (clsRT R w') o v a := by
  rcases hy with ⟨p, q⟩ | hy'
  · refine .inl ⟨p, ?_⟩
    rintro w2 ⟨y, rfl⟩
    have h9 := q y.world ⟨⟨y.world, PreR.trans hb y.rel⟩, rfl⟩
    have hne := plain_ne (P := P) hp a.eval y.world
    unfold Oper.quietAt at h9 ⊢
    generalize (execOp a.eval o).run P y.world = r at *
    cases r with
    | ok n w3 =>
      cases n <;> simp only [Oper.quietUpon] at h9 ⊢
      case enter f args => exact absurd rfl (hne w3 f args)
      all_goals exact h9
    | halt z w3 => exact h9.elim
  · exact .inr hy'

/-- an operation apart from oi: whether oi's value lies in its slot already makes no difference -/
theorem opR_putT {j : Nat} {oi : Oper} {v : Value} (hfin : lodT ops j = true → ∃ x, oi.op = .move x) (hap : ∀ oj, ops[j]? = some oj → oi.apart ops oj = true) (hsi : ∀ cs b, oi.op ≠ .select cs b) (hsj : ∀ oj cs b, ops[j]? = some oj → oj.op ≠ .select cs b)
    (hp : plainB oi.op = true) {K : Act → World → Prop} {a : Act} {b : World} (hy : YieldsIn P ops (clsRT R b) oi v a) (h : opRT P ops R j K (a.put oi.dst v) b) :
    opRT P ops R j (fun a' b' => YieldsIn P ops (clsRT R b') oi v a' ∧ K (a'.put oi.dst v) b') a b := by
  intro oj hj
  obtain ⟨h1, h2, h3⟩ := Oper.apart_spec (hap oj hj)
  have yl : ∀ {w' : World} {a : Act}, (lodT ops j = false → R b w') → YieldsIn P ops (clsRT R b) oi v a → YieldsIn P ops (clsRT R w') oi v a := fun p hy => by
    cases hl : lodT ops j with
    | true =>
      obtain ⟨x, hx⟩ := hfin hl
      exact yieldsT_move hx b ⟨⟨b, PreR.refl _⟩, rfl⟩ hy
    | false => exact yieldsR_laterT (p hl) hp hy
  have keep : ∀ (a : Act) (b : World), YieldsIn P ops (clsRT R b) oi v a → ∀ u, YieldsIn P ops (clsRT R b) oi v (a.put oj.dst u) := fun a b hy u =>
    hy.of_same (execOp_put oi hsi a oj.dst u h3) (wanted_put oi a oj.dst u h3)
  obtain ⟨g1, g2⟩ := h oj hj
  rw [wanted_put oj a oi.dst v h1] at g1 g2
  refine ⟨fun hw => ?_, fun hw => ⟨keep a b hy _, by rw [← Act.put_comm a v undef h2]; exact g2 hw⟩⟩
  rcases g1 hw with ⟨hpj, u, hu, hn⟩ | g3
  · refine .inl ⟨hpj, u, fun w hw' => ?_, keep a b hy u, by rw [← Act.put_comm a v u h2]; exact hn⟩
    have := hu w hw'
    unfold Oper.quietAt at *
    rwa [execOp_put oj (fun cs b => hsj oj cs b hj) a oi.dst v h1] at this
  · refine .inr ?_
    have g4 := g3
    unfold Oper.wp at *
    rw [execOp_put oj (fun cs b => hsj oj cs b hj) a oi.dst v h1] at g4
    have hkeep : ∀ u w', (lodT ops j = false → R b w') ∧ K ((a.put oi.dst v).put oj.dst u) w' → (lodT ops j = false → R b w') ∧ YieldsIn P ops (clsRT R w') oi v (a.put oj.dst u) ∧ K ((a.put oj.dst u).put oi.dst v) w' := fun u w' ⟨p, q⟩ =>
      ⟨p, yl p (keep a b hy u), by rw [← Act.put_comm a v u h2]; exact q⟩
    clear g3
    generalize (execOp a.eval oj).run P b = r at *
    cases r with
    | ok n w' =>
      cases n <;> simp only [Oper.upon] at g4 ⊢
      case value u => exact hkeep u w' g4
      case skip => exact hkeep undef w' g4
      case defer d =>
        refine ⟨g4.1, yl g4.1 ((hy.of_same (a' := { a with defers := d :: a.defers }) rfl rfl).of_same (execOp_put oi hsi _ oj.dst undef h3) (wanted_put oi _ oj.dst undef h3)), ?_⟩
        rw [← Act.put_comm _ v undef h2, ← Act.put_defers]
        exact g4.2
      case enter f args =>
        refine Calls.mono g4 fun e w'' he => ?_
        cases e with
        | returned u => exact hkeep u w'' he
        | panicked c => exact he
        | outgrown => exact he
      case row row args => exact Rows.mono g4 fun u w'' he => hkeep u w'' he
    | halt z w' =>
      cases z <;> simp only [Oper.upon] at g4 ⊢ <;> exact g4

theorem opR_of_yieldsT {i : Nat} {o : Oper} {v : Value} {a : Act} {b : World} (hi : ops[i]? = some o) (hp : plainB o.op = true) (hy : YieldsIn P ops (clsRT R b) o v a) {K : Act → World → Prop} (h : K (a.put o.dst v) b) : opRT P ops R i K a b := by
  intro o' ho'
  obtain rfl : o = o' := Option.some.inj (hi.symm.trans ho')
  rcases hy with ⟨hw, hv⟩ | ⟨hw, rfl⟩
  · exact ⟨fun _ => .inl ⟨hp, v, hv, h⟩, fun hw' => (by rw [hw] at hw'; cases hw')⟩
  · exact ⟨fun hw' => (by rw [hw] at hw'; cases hw'), fun _ => h⟩

/-- what reads alone and may come up may be taken first -/
theorem anyR_firstT {Q : Act → World → Prop} {i : Nat} {oi : Oper} {v : Value} (hi : ops[i]? = some oi) (hp : plainB oi.op = true) (hsel : ∀ (j : Nat) (o : Oper) cs b, ops[j]? = some o → o.op ≠ .select cs b) :
    ∀ (f : Nat) (listed : Array Bool) (a : Act) (b : World),
      (∀ j oj, ops[j]? = some oj → j ≠ i → listed.getD j true = false → (∀ e ∈ oj.after, Region.binds .any e = true → e.on ≠ i) → oi.apart ops oj = true) →
      DownT ops listed → i ∈ Region.ready .any ops listed → YieldsIn P ops (clsRT R b) oi v a →
      anyRT P ops R Q f (listed.setIfInBounds i true) (a.put oi.dst v) b → anyRT P ops R Q (f + 1) listed a b
  | 0, listed, a, b, hfree, hdc, hr, hy, H => by
    refine ⟨fun h => (by rw [h] at hr; cases hr), fun j hj => ?_⟩
    by_cases hji : j = i
    · subst hji; exact opR_of_yieldsT hi hp hy H
    · have := ready_mono hj hji
      rw [H.1] at this
      cases this
  | f + 1, listed, a, b, hfree, hdc, hr, hy, H => by
    refine ⟨fun h => (by rw [h] at hr; cases hr), fun j hj => ?_⟩
    by_cases hji : j = i
    · subst hji; exact opR_of_yieldsT hi hp hy H
    · have h1 := H.2 j (ready_mono hj hji)
      obtain ⟨hjun, oj, hoj, hall⟩ := mem_ready.1 hj
      have hnot : ∀ e ∈ oj.after, Region.binds .any e = true → e.on ≠ i := fun e he hb heq => by
        have h1 := hall e he hb
        have h0 := (mem_ready.1 hr).1
        rw [heq] at h1
        rcases Nat.lt_or_ge i listed.size with h' | h'
        · simp [h'] at h0 h1; rw [h0] at h1; cases h1
        · simp [Array.getElem?_eq_none h'] at h1
      have hnot2 : ∀ e ∈ oi.after, Region.binds .any e = true → e.on ≠ j := fun e he hb heq => by
        obtain ⟨_, oi', hoi', hall'⟩ := mem_ready.1 hr
        obtain rfl : oi = oi' := Option.some.inj (hi.symm.trans hoi')
        have h1 := hall' e he hb
        rw [heq] at h1
        rcases Nat.lt_or_ge j listed.size with h' | h'
        · simp [h'] at hjun h1; rw [hjun] at h1; cases h1
        · simp [Array.getElem?_eq_none h'] at h1
      have hdep : depT ops 3 i j = false := by
        rw [← Bool.not_eq_true]
        intro h9
        have h8 := depT_listed hdc 3 j (fun o ho => by obtain rfl : oj = o := Option.some.inj (hoj.symm.trans ho); exact hall) h9
        have h0 := (mem_ready.1 hr).1
        rcases Nat.lt_or_ge i listed.size with h' | h'
        · simp [h'] at h0 h8; rw [h0] at h8; cases h8
        · simp [Array.getElem?_eq_none h'] at h8
      have h2 := opR_putT (v := v) (lodT_move hi hoj hji hdep hnot2 hp) (fun o' ho' => by obtain rfl : oj = o' := Option.some.inj (hoj.symm.trans ho'); exact hfree j oj hoj hji hjun hnot) (fun cs b => hsel i oi cs b hi) (fun o' cs b ho' => hsel j o' cs b ho') hp hy h1
      have hfree' : ∀ k ok, ops[k]? = some ok → k ≠ i → (listed.setIfInBounds j true).getD k true = false →
          (∀ e ∈ ok.after, Region.binds .any e = true → e.on ≠ i) → oi.apart ops ok = true := fun k ok hk hki hun hno => by
        refine hfree k ok hk hki ?_ hno
        by_cases hjk : j = k
        · subst hjk; exact hjun
        · rw [getD_set_ne true hjk] at hun; exact hun
      refine opR_monoT (fun a' b' h3 => anyR_firstT hi hp hsel f (listed.setIfInBounds j true) a' b' hfree' (hdc.set hj) (ready_mono hr (Ne.symm hji)) h3.1 ?_) h2
      rw [Array.setIfInBounds_comm _ _ hji]
      exact h3.2

/-- the walk in the prover's order: 'true': what reads alone; 'false': what makes or writes memory, and comes up alone -/
def eagRWT (P : Program) (ops : Array Oper) (R : World → World → Prop) (Q : Act → World → Prop) : List (Nat × Bool) → Act → World → Prop
  | [], a, b => Q a b
  | (i, p) :: rest, a, b => ∃ o, ops[i]? = some o ∧
    if Region.wanted o (yielded ops a.tmps) then
      (if p then o.quiet P a (clsRT R b) (fun a' => eagRWT P ops R Q rest a' b) else o.wp P a b (fun a' w' => (lodT ops i = false → R b w') ∧ eagRWT P ops R Q rest a' w') NoWay)
    else eagRWT P ops R Q rest (a.put o.dst undef) b

theorem anyR_of_eagRT {Q : Act → World → Prop} (hs : Region.noSelect ops = true) : ∀ (l : List (Nat × Bool)) (listed : Array Bool) (a : Act) (b : World), DownT ops listed → eagB ops l listed = true → eagRWT P ops R Q l a b → anyRT P ops R Q l.length listed a b
  | [], listed, a, b, hdc, hB, h => ⟨by simpa [eagB] using hB, h⟩
  | (i, p) :: rest, listed, a, b, hdc, hB, h => by
    simp only [eagB, Bool.and_eq_true] at hB
    obtain ⟨⟨hr, hf⟩, hB'⟩ := hB
    obtain ⟨o, ho, hw⟩ := h
    have hr' : i ∈ Region.ready .any ops listed := by simpa using hr
    cases p with
    | true =>
      simp only [if_true, Bool.and_eq_true, ho, Option.map_some, Option.getD_some] at hf hw
      obtain ⟨v, hy, hK⟩ := yieldsIn_of_qOp (K := fun a' => eagRWT P ops R Q rest a' b) ho (by unfold qOp; simp only [ho]; exact hw)
      exact anyR_firstT ho hf.2 (Region.noSelect_spec hs) rest.length listed a b (Region.free_spec ho hf.1) hdc hr' hy (anyR_of_eagRT hs rest _ _ b (hdc.set hr') hB' hK)
    | false =>
      simp only [Bool.false_eq_true, if_false, beq_iff_eq] at hf hw
      refine ⟨fun h0 => (by rw [h0] at hr'; cases hr'), fun j hj => ?_⟩
      obtain rfl : j = i := by rw [hf] at hj; simpa using hj
      intro o' ho'
      obtain rfl : o = o' := Option.some.inj (ho.symm.trans ho')
      refine ⟨fun h1 => .inr ?_, fun h1 => ?_⟩
      · rw [if_pos h1] at hw
        exact Oper.wp_mono (fun a' w' ⟨p, q⟩ => ⟨p, anyR_of_eagRT hs rest _ a' w' (hdc.set hr') hB' q⟩) hw
      · rw [if_neg (by rw [h1]; simp)] at hw
        exact anyR_of_eagRT hs rest _ _ b (hdc.set hr') hB' hw

theorem wp_region_eagerRT {id : Nat} {Q : Exit → Act → World → Prop} {a : Act} {w : World} (R : World → World → Prop) [PreR R] (l : List (Nat × Bool)) (hm : P.follows .mixedOrders = true) (hB : (Region.noSelect ops && eagB ops l (Array.replicate ops.size false) && (l.length == ops.size)) = true)
    (h : eagRWT P ops R (fun a' w' => Q .normal a' w') l a w.drew) : (Code.region id ops true).wp P Q a w := by
  simp only [Bool.and_eq_true, beq_iff_eq] at hB
  obtain ⟨⟨h1, h2⟩, h3⟩ := hB
  refine wp_region_any hm ?_
  rw [← h3]
  have h4 := anyR_of_eagRT h1 l _ a w.drew (DownT.start _ _) h2 h
  rw [h3] at h4 ⊢
  exact anyR_soundT (fun _ _ h => h) _ _ _ w.drew h4
end

section
variable {P : Program} {R : World → World → Prop} [PreR R] {l : List Oper} {Q : Act → World → Prop}

theorem eagR_readT {i : Nat} {rest : List (Nat × Bool)} {a : Act} {b : World} {o : Oper} (ho : l[i]? = some o)
    (h : wpQuiet P l.toArray (fun w' => ∃ x : AfterR R b, w' = x.world) (fun a' => eagRWT P l.toArray R Q rest a' b) [o] a) : eagRWT P l.toArray R Q ((i, true) :: rest) a b := by
  refine ⟨o, by simpa using ho, ?_⟩
  rw [if_pos rfl]
  exact h

theorem eagR_doesT {i : Nat} {rest : List (Nat × Bool)} {a : Act} {b : World} {o : Oper} (ho : l[i]? = some o) (hw : Region.wanted o (yielded l.toArray a.tmps) = true)
    (h : ∀ (K : Act → World → Prop), (∀ a' w', (lodT l.toArray i = false → R b w') → eagRWT P l.toArray R Q rest a' w' → K a' w') → o.wp P a b K NoWay) : eagRWT P l.toArray R Q ((i, false) :: rest) a b := by
  refine ⟨o, by simpa using ho, ?_⟩
  rw [if_pos hw, if_neg (by decide)]
  exact h _ fun a' w' p q => ⟨p, q⟩

/-- an effect behind which no read can still be pending -/
theorem eagR_freeT {i : Nat} {rest : List (Nat × Bool)} {a : Act} {b : World} {o : Oper} (ho : l[i]? = some o) (hw : Region.wanted o (yielded l.toArray a.tmps) = true) (hl : lodT l.toArray i = true)
    (h : ∀ (K : Act → World → Prop), (∀ a' w', eagRWT P l.toArray R Q rest a' w' → K a' w') → o.wp P a b K NoWay) : eagRWT P l.toArray R Q ((i, false) :: rest) a b := by
  refine eagR_doesT ho hw fun K hK => h K fun a' w' hq => hK a' w' (fun h9 => by rw [hl] at h9; cases h9) hq

theorem eagR_skipT {i : Nat} {p : Bool} {rest : List (Nat × Bool)} {a : Act} {b : World} {o : Oper} (ho : l[i]? = some o) (hw : Region.wanted o (yielded l.toArray a.tmps) = false)
    (h : eagRWT P l.toArray R Q rest (a.put o.dst undef) b) : eagRWT P l.toArray R Q ((i, p) :: rest) a b := by
  refine ⟨o, by simpa using ho, ?_⟩
  rw [if_neg (by rw [hw]; decide)]
  exact h

theorem eagR_endT {a : Act} {b : World} (h : Q a b) : eagRWT P l.toArray R Q [] a b := h
end
end Go.Proofs.Ytlaogkbdjkofaaa
