/- A region that draws its order: one walk in an order of the prover's choosing serves every order, if what may be passed over only reads what lies below block B, and whatever makes or writes memory leaves all below B as it was and comes up alone. -/
import Derived.Test.YtlaogkbdjkofaaaRegion
namespace Go.Proofs.Ytlaogkbdjkofaaa
open Go.RowKit
set_option linter.unusedVariables false

theorem After.of_below {B : Nat} {b y : World} (h : Below B b y) : ∃ x : After B b, y = x.world := ⟨⟨y, h⟩, rfl⟩
def After.then {B : Nat} {b : World} (x : After B b) {y : World} (h : Below B x.world y) : After B b := ⟨y, x.below.trans h⟩

theorem run_v_ne {P : Program} (s : Sem Value) (w w' : World) (f : FuncId) (args : Array Value) : ((do pure (Next.value (← s))) : Sem Next).run P w ≠ .ok (.enter f args) w' := by
  rw [Sem.run_bind]
  cases s.run P w with
  | ok v w2 => simp
  | halt x w2 => simp

/-- operations that enter no function -/
def plainB : Op → Bool
  | .nilCheck _ | .move _ | .assign _ | .pick _ _ _ | .load _ _ | .fieldAddr _ _ _ | .field _ _ _ | .binOp _ _ _ _ _ | .unOp _ _ _ | .convert _ _ _ | .indexAddr _ _ _ | .index _ _ _ | .extract _ _ | .build _ _ | .slice _ _ _ _ _ => true
  | .call c => match c.callee with
    | .builtin .len | .builtin .cap | .builtin .max | .builtin .min => true
    | _ => false
  | _ => false

theorem plain_ne {P : Program} {o : Oper} (h : plainB o.op = true) (ρ : Operand → Value) (w w' : World) (f : FuncId) (args : Array Value) : (execOp ρ o).run P w ≠ .ok (.enter f args) w' := by
  obtain ⟨dst, op, type, pos, after, guard⟩ := o
  cases op <;> simp only [plainB, Bool.false_eq_true] at h <;> simp only [execOp] <;> first
    | exact run_v_ne _ _ _ _ _
    | (simp; done)
    | skip
  case nilCheck x =>
    have hp : (runtimePanic RuntimeError.nilDeref : Sem Next).run P w ≠ .ok (.enter f args) w' := by simp [runtimePanic, goPanic]
    have hb : ∀ {β : Type} (s : Sem β) (k : β → Sem Next) (_ : ∀ v w2, (k v).run P w2 ≠ .ok (.enter f args) w'), (s >>= k).run P w ≠ .ok (.enter f args) w' := by
      intro β s k hk
      rw [Sem.run_bind]
      cases s.run P w with
      | ok v w2 => exact hk v w2
      | halt z w2 => simp
    have hb2 : ∀ {β : Type} (s : Sem β) (k : β → Sem Next) (w : World) (_ : ∀ v w2, (k v).run P w2 ≠ .ok (.enter f args) w'), (s >>= k).run P w ≠ .ok (.enter f args) w' := by
      intro β s k w hk
      rw [Sem.run_bind]
      cases s.run P w with
      | ok v w2 => exact hk v w2
      | halt z w2 => simp
    split
    · exact hp
    · exact hp
    · exact hp
    · split
      · exact hp
      · refine hb2 _ _ _ fun v w2 => ?_
        refine hb2 _ _ _ fun v w2 => ?_
        split
        · refine hb2 _ _ _ fun v w2 => ?_
          simp
        · simp
      · simp
    · simp
  case pick c a b =>
    rw [Sem.run_bind]
    cases (asBool (ρ c)).run P w with
    | ok v w2 => simp
    | halt x w2 => simp
  case call c =>
    obtain ⟨callee, ars, ats⟩ := c
    cases callee with
    | value x => simp at h
    | invoke r m => simp at h
    | builtin b =>
      cases b <;> simp only [Bool.false_eq_true] at h <;> (simp only [resolve, Sem.run_bind, Sem.run_pure, invoke, builtin]; exact run_v_ne _ _ _ _ _)

section
variable {P : Program} {ops : Array Oper} {B : Nat}

def clsE (B : Nat) (b : World) : World → Prop := fun w' => ∃ x : After B b, w' = x.world
def NoWay (e : Exit) (a : Act) (w : World) : Prop := False

/-- an operation comes up: it is passed over; or it yields one value in every world of the class; or it is run in the world that stands -/
def opE (P : Program) (ops : Array Oper) (B : Nat) (i : Nat) (K : Act → World → Prop) (a : Act) (b : World) : Prop :=
  ∀ o, ops[i]? = some o →
    (Region.wanted o (yielded ops a.tmps) = true → (plainB o.op = true ∧ o.quiet P a (clsE B b) (fun a' => K a' b)) ∨ o.wp P a b (fun a' w' => Below B b w' ∧ K a' w') NoWay) ∧
    (Region.wanted o (yielded ops a.tmps) = false → K (a.put o.dst undef) b)

theorem opE_mono {i : Nat} {K K' : Act → World → Prop} {a : Act} {b : World} (h : ∀ a b', K a b' → K' a b') (hh : opE P ops B i K a b) : opE P ops B i K' a b := by
  intro o ho
  obtain ⟨h1, h2⟩ := hh o ho
  refine ⟨fun hw => ?_, fun hw => h _ _ (h2 hw)⟩
  rcases h1 hw with ⟨hp, h3⟩ | h3
  · exact .inl ⟨hp, Oper.quiet_mono (fun a' => h a' b) h3⟩
  · exact .inr (Oper.wp_mono (fun a' w' ⟨p, q⟩ => ⟨p, h _ _ q⟩) h3)

/-- whatever order is picked -/
def anyE (P : Program) (ops : Array Oper) (B : Nat) (Q : Act → World → Prop) : Nat → Array Bool → Act → World → Prop
  | 0, listed, a, b => Region.ready .any ops listed = [] ∧ Q a b
  | f + 1, listed, a, b => (Region.ready .any ops listed = [] → Q a b) ∧
    ∀ i ∈ Region.ready .any ops listed, opE P ops B i (anyE P ops B Q f (listed.setIfInBounds i true)) a b

theorem wp_noWay {o : Oper} {a : Act} {w : World} {K : Act → World → Prop} {Q : Exit → Act → World → Prop} (h : o.wp P a w K NoWay) : o.wp P a w K Q := by
  unfold Oper.wp at *
  generalize (execOp a.eval o).run P w = r at *
  cases r with
  | ok n w' =>
    cases n <;> simp only [Oper.upon] at h ⊢ <;> first
      | exact h
      | (refine Calls.mono h fun e w'' he => ?_
         cases e with
         | returned v => exact he
         | panicked c => exact he.elim
         | outgrown => obtain ⟨_, _, hf⟩ := he; exact hf.elim)
  | halt x w' =>
    cases x <;> simp only [Oper.upon] at h ⊢ <;> exact h.elim

theorem wp_of_plain {o : Oper} {a : Act} {b : World} {K : Act → Prop} {K' : Act → World → Prop} {Q : Exit → Act → World → Prop} (hp : plainB o.op = true) (h : o.quiet P a (clsE B b) K) (hk : ∀ a, K a → K' a b) : o.wp P a b K' Q := by
  obtain ⟨v, h1, h2⟩ := h
  have h9 := h1 b ⟨⟨b, Below.refl _ _⟩, rfl⟩
  have hne := plain_ne (P := P) hp a.eval b
  unfold Oper.quietAt at h9
  unfold Oper.wp
  generalize (execOp a.eval o).run P b = r at *
  cases r with
  | ok n w3 =>
    cases n <;> simp only [Oper.quietUpon] at h9 <;> simp only [Oper.upon]
    case enter f args => exact absurd rfl (hne w3 f args)
    case value u => obtain ⟨rfl, rfl⟩ := h9; exact hk _ h2
    case skip => obtain ⟨rfl, rfl⟩ := h9; exact hk _ h2
  | halt z w3 => exact h9.elim

theorem anyE_sound {Q : Act → World → Prop} {Q' : Exit → Act → World → Prop} (hQ : ∀ a w, Q a w → Q' .normal a w) : ∀ (f : Nat) (listed : Array Bool) (a : Act) (b : World),
    anyE P ops B Q f listed a b → wpAny P .any ops Q' f listed a b
  | 0, listed, a, b, h => ⟨h.1, hQ _ _ h.2⟩
  | f + 1, listed, a, b, h => by
    refine ⟨fun h0 => hQ _ _ (h.1 h0), fun i hi => ?_⟩
    have h2 := h.2 i hi
    unfold wpOp
    split
    · rename_i hn
      obtain ⟨_, o, ho, _⟩ := mem_ready.1 hi
      rw [ho] at hn; cases hn
    · rename_i o ho
      obtain ⟨h3, h4⟩ := h2 o ho
      split
      · rename_i hw
        rcases h3 hw with ⟨hp, h5⟩ | h5
        · exact .inl (wp_of_plain hp h5 fun a' hk => anyE_sound hQ f _ a' b hk)
        · exact .inl (wp_noWay (Oper.wp_mono (fun a' w' ⟨_, hk⟩ => anyE_sound hQ f _ a' w' hk) h5))
      · rename_i hw
        exact anyE_sound hQ f _ _ b (h4 (by simpa using hw))

theorem yields_later {o : Oper} {v : Value} {a : Act} {b w' : World} (hb : Below B b w') (hp : plainB o.op = true) (hy : YieldsIn P ops (clsE B b) o v a) : YieldsIn P ops (clsE B w') o v a := by
  rcases hy with ⟨p, q⟩ | hy'
  · refine .inl ⟨p, ?_⟩
    rintro w2 ⟨y, rfl⟩
    have h9 := q y.world ⟨⟨y.world, hb.trans y.below⟩, rfl⟩
    have hne := plain_ne (P := P) hp a.eval y.world
    unfold Oper.quietAt at h9 ⊢
    generalize (execOp a.eval o).run P y.world = r at *
    cases r with
    | ok n w3 =>
      cases n <;> simp only [Oper.quietUpon] at h9 ⊢
      case enter f args => exact absurd rfl (hne w3 f args)
      all_goals exact h9
    | halt z w3 => exact h9.elim
  · exact .inr hy'

/-- an operation apart from oi: whether oi's value lies in its slot already makes no difference -/
theorem opE_put {j : Nat} {oi : Oper} {v : Value} (hap : ∀ oj, ops[j]? = some oj → oi.apart ops oj = true) (hsi : ∀ cs b, oi.op ≠ .select cs b) (hsj : ∀ oj cs b, ops[j]? = some oj → oj.op ≠ .select cs b)
    (hp : plainB oi.op = true) {K : Act → World → Prop} {a : Act} {b : World} (hy : YieldsIn P ops (clsE B b) oi v a) (h : opE P ops B j K (a.put oi.dst v) b) :
    opE P ops B j (fun a' b' => YieldsIn P ops (clsE B b') oi v a' ∧ K (a'.put oi.dst v) b') a b := by
  intro oj hj
  obtain ⟨h1, h2, h3⟩ := Oper.apart_spec (hap oj hj)
  have keep : ∀ (a : Act) (b : World), YieldsIn P ops (clsE B b) oi v a → ∀ u, YieldsIn P ops (clsE B b) oi v (a.put oj.dst u) := fun a b hy u =>
    hy.of_same (execOp_put oi hsi a oj.dst u h3) (wanted_put oi a oj.dst u h3)
  obtain ⟨g1, g2⟩ := h oj hj
  rw [wanted_put oj a oi.dst v h1] at g1 g2
  refine ⟨fun hw => ?_, fun hw => ⟨keep a b hy _, by rw [← Act.put_comm a v undef h2]; exact g2 hw⟩⟩
  rcases g1 hw with ⟨hpj, u, hu, hn⟩ | g3
  · refine .inl ⟨hpj, u, fun w hw' => ?_, keep a b hy u, by rw [← Act.put_comm a v u h2]; exact hn⟩
    have := hu w hw'
    unfold Oper.quietAt at *
    rwa [execOp_put oj (fun cs b => hsj oj cs b hj) a oi.dst v h1] at this
  · refine .inr ?_
    have g4 := g3
    unfold Oper.wp at *
    rw [execOp_put oj (fun cs b => hsj oj cs b hj) a oi.dst v h1] at g4
    have hkeep : ∀ u w', Below B b w' ∧ K ((a.put oi.dst v).put oj.dst u) w' → Below B b w' ∧ YieldsIn P ops (clsE B w') oi v (a.put oj.dst u) ∧ K ((a.put oj.dst u).put oi.dst v) w' := fun u w' ⟨p, q⟩ =>
      ⟨p, yields_later p hp (keep a b hy u), by rw [← Act.put_comm a v u h2]; exact q⟩
    clear g3
    generalize (execOp a.eval oj).run P b = r at *
    cases r with
    | ok n w' =>
      cases n <;> simp only [Oper.upon] at g4 ⊢
      case value u => exact hkeep u w' g4
      case skip => exact hkeep undef w' g4
      case defer d =>
        refine ⟨g4.1, yields_later g4.1 hp ((hy.of_same (a' := { a with defers := d :: a.defers }) rfl rfl).of_same (execOp_put oi hsi _ oj.dst undef h3) (wanted_put oi _ oj.dst undef h3)), ?_⟩
        rw [← Act.put_comm _ v undef h2, ← Act.put_defers]
        exact g4.2
      case enter f args =>
        refine Calls.mono g4 fun e w'' he => ?_
        cases e with
        | returned u => exact hkeep u w'' he
        | panicked c => exact he
        | outgrown => exact he
      case row row args => exact Rows.mono g4 fun u w'' he => hkeep u w'' he
    | halt z w' =>
      cases z <;> simp only [Oper.upon] at g4 ⊢ <;> exact g4

theorem opE_of_yields {i : Nat} {o : Oper} {v : Value} {a : Act} {b : World} (hi : ops[i]? = some o) (hp : plainB o.op = true) (hy : YieldsIn P ops (clsE B b) o v a) {K : Act → World → Prop} (h : K (a.put o.dst v) b) : opE P ops B i K a b := by
  intro o' ho'
  obtain rfl : o = o' := Option.some.inj (hi.symm.trans ho')
  rcases hy with ⟨hw, hv⟩ | ⟨hw, rfl⟩
  · exact ⟨fun _ => .inl ⟨hp, v, hv, h⟩, fun hw' => (by rw [hw] at hw'; cases hw')⟩
  · exact ⟨fun hw' => (by rw [hw] at hw'; cases hw'), fun _ => h⟩

/-- what reads alone and may come up may be taken first -/
theorem anyE_first {Q : Act → World → Prop} {i : Nat} {oi : Oper} {v : Value} (hi : ops[i]? = some oi) (hp : plainB oi.op = true) (hsel : ∀ (j : Nat) (o : Oper) cs b, ops[j]? = some o → o.op ≠ .select cs b) :
    ∀ (f : Nat) (listed : Array Bool) (a : Act) (b : World),
      (∀ j oj, ops[j]? = some oj → j ≠ i → listed.getD j true = false → (∀ e ∈ oj.after, Region.binds .any e = true → e.on ≠ i) → oi.apart ops oj = true) →
      i ∈ Region.ready .any ops listed → YieldsIn P ops (clsE B b) oi v a →
      anyE P ops B Q f (listed.setIfInBounds i true) (a.put oi.dst v) b → anyE P ops B Q (f + 1) listed a b
  | 0, listed, a, b, hfree, hr, hy, H => by
    refine ⟨fun h => (by rw [h] at hr; cases hr), fun j hj => ?_⟩
    by_cases hji : j = i
    · subst hji; exact opE_of_yields hi hp hy H
    · have := ready_mono hj hji
      rw [H.1] at this
      cases this
  | f + 1, listed, a, b, hfree, hr, hy, H => by
    refine ⟨fun h => (by rw [h] at hr; cases hr), fun j hj => ?_⟩
    by_cases hji : j = i
    · subst hji; exact opE_of_yields hi hp hy H
    · have h1 := H.2 j (ready_mono hj hji)
      obtain ⟨hjun, oj, hoj, hall⟩ := mem_ready.1 hj
      have hnot : ∀ e ∈ oj.after, Region.binds .any e = true → e.on ≠ i := fun e he hb heq => by
        have h1 := hall e he hb
        have h0 := (mem_ready.1 hr).1
        rw [heq] at h1
        rcases Nat.lt_or_ge i listed.size with h' | h'
        · simp [h'] at h0 h1; rw [h0] at h1; cases h1
        · simp [Array.getElem?_eq_none h'] at h1
      have h2 := opE_put (v := v) (fun o' ho' => by obtain rfl : oj = o' := Option.some.inj (hoj.symm.trans ho'); exact hfree j oj hoj hji hjun hnot) (fun cs b => hsel i oi cs b hi) (fun o' cs b ho' => hsel j o' cs b ho') hp hy h1
      have hfree' : ∀ k ok, ops[k]? = some ok → k ≠ i → (listed.setIfInBounds j true).getD k true = false →
          (∀ e ∈ ok.after, Region.binds .any e = true → e.on ≠ i) → oi.apart ops ok = true := fun k ok hk hki hun hno => by
        refine hfree k ok hk hki ?_ hno
        by_cases hjk : j = k
        · subst hjk; exact hjun
        · rw [getD_set_ne true hjk] at hun; exact hun
      refine opE_mono (fun a' b' h3 => anyE_first hi hp hsel f (listed.setIfInBounds j true) a' b' hfree' (ready_mono hr (Ne.symm hji)) h3.1 ?_) h2
      rw [Array.setIfInBounds_comm _ _ hji]
      exact h3.2

/-- the walk in the prover's order: 'true': what reads alone; 'false': what makes or writes memory, and comes up alone -/
def eagW (P : Program) (ops : Array Oper) (B : Nat) (Q : Act → World → Prop) : List (Nat × Bool) → Act → World → Prop
  | [], a, b => Q a b
  | (i, p) :: rest, a, b => ∃ o, ops[i]? = some o ∧
    if Region.wanted o (yielded ops a.tmps) then
      (if p then o.quiet P a (clsE B b) (fun a' => eagW P ops B Q rest a' b) else o.wp P a b (fun a' w' => Below B b w' ∧ eagW P ops B Q rest a' w') NoWay)
    else eagW P ops B Q rest (a.put o.dst undef) b

def eagB (ops : Array Oper) : List (Nat × Bool) → Array Bool → Bool
  | [], listed => (Region.ready .any ops listed).isEmpty
  | (i, p) :: rest, listed => (Region.ready .any ops listed).contains i && (if p then Region.free .any ops listed i && ((ops[i]?).map fun o => plainB o.op).getD false else Region.ready .any ops listed == [i]) && eagB ops rest (listed.setIfInBounds i true)

theorem anyE_of_eag {Q : Act → World → Prop} (hs : Region.noSelect ops = true) : ∀ (l : List (Nat × Bool)) (listed : Array Bool) (a : Act) (b : World), eagB ops l listed = true → eagW P ops B Q l a b → anyE P ops B Q l.length listed a b
  | [], listed, a, b, hB, h => ⟨by simpa [eagB] using hB, h⟩
  | (i, p) :: rest, listed, a, b, hB, h => by
    simp only [eagB, Bool.and_eq_true] at hB
    obtain ⟨⟨hr, hf⟩, hB'⟩ := hB
    obtain ⟨o, ho, hw⟩ := h
    have hr' : i ∈ Region.ready .any ops listed := by simpa using hr
    cases p with
    | true =>
      simp only [if_true, Bool.and_eq_true, ho, Option.map_some, Option.getD_some] at hf hw
      obtain ⟨v, hy, hK⟩ := yieldsIn_of_qOp (K := fun a' => eagW P ops B Q rest a' b) ho (by unfold qOp; simp only [ho]; exact hw)
      exact anyE_first ho hf.2 (Region.noSelect_spec hs) rest.length listed a b (Region.free_spec ho hf.1) hr' hy (anyE_of_eag hs rest _ _ b hB' hK)
    | false =>
      simp only [Bool.false_eq_true, if_false, beq_iff_eq] at hf hw
      refine ⟨fun h0 => (by rw [h0] at hr'; cases hr'), fun j hj => ?_⟩
      obtain rfl : j = i := by rw [hf] at hj; simpa using hj
      intro o' ho'
      obtain rfl : o = o' := Option.some.inj (ho.symm.trans ho')
      refine ⟨fun h1 => .inr ?_, fun h1 => ?_⟩
      · rw [if_pos h1] at hw
        exact Oper.wp_mono (fun a' w' ⟨p, q⟩ => ⟨p, anyE_of_eag hs rest _ a' w' hB' q⟩) hw
      · rw [if_neg (by rw [h1]; simp)] at hw
        exact anyE_of_eag hs rest _ _ b hB' hw

theorem wp_region_eager {id : Nat} {Q : Exit → Act → World → Prop} {a : Act} {w : World} (B : Nat) (l : List (Nat × Bool)) (hm : P.follows .mixedOrders = true) (hB : (Region.noSelect ops && eagB ops l (Array.replicate ops.size false) && (l.length == ops.size)) = true)
    (h : eagW P ops B (fun a' w' => Q .normal a' w') l a w.drew) : (Code.region id ops true).wp P Q a w := by
  simp only [Bool.and_eq_true, beq_iff_eq] at hB
  obtain ⟨⟨h1, h2⟩, h3⟩ := hB
  refine wp_region_any hm ?_
  rw [← h3]
  have h4 := anyE_of_eag h1 l _ a w.drew h2 h
  rw [h3] at h4 ⊢
  exact anyE_sound (fun _ _ h => h) _ _ _ w.drew h4
end

section
variable {P : Program} {B : Nat} {l : List Oper} {Q : Act → World → Prop}

theorem eag_read {i : Nat} {rest : List (Nat × Bool)} {a : Act} {b : World} {o : Oper} (ho : l[i]? = some o)
    (h : wpQuiet P l.toArray (fun w' => ∃ x : After B b, w' = x.world) (fun a' => eagW P l.toArray B Q rest a' b) [o] a) : eagW P l.toArray B Q ((i, true) :: rest) a b := by
  refine ⟨o, by simpa using ho, ?_⟩
  rw [if_pos rfl]
  exact h

theorem eag_does {i : Nat} {rest : List (Nat × Bool)} {a : Act} {b : World} {o : Oper} (ho : l[i]? = some o) (hw : Region.wanted o (yielded l.toArray a.tmps) = true)
    (h : ∀ (K : Act → World → Prop), (∀ a' w', Below B b w' → eagW P l.toArray B Q rest a' w' → K a' w') → o.wp P a b K NoWay) : eagW P l.toArray B Q ((i, false) :: rest) a b := by
  refine ⟨o, by simpa using ho, ?_⟩
  rw [if_pos hw, if_neg (by decide)]
  exact h _ fun a' w' p q => ⟨p, q⟩

theorem eag_skip {i : Nat} {p : Bool} {rest : List (Nat × Bool)} {a : Act} {b : World} {o : Oper} (ho : l[i]? = some o) (hw : Region.wanted o (yielded l.toArray a.tmps) = false)
    (h : eagW P l.toArray B Q rest (a.put o.dst undef) b) : eagW P l.toArray B Q ((i, p) :: rest) a b := by
  refine ⟨o, by simpa using ho, ?_⟩
  rw [if_neg (by rw [hw]; decide)]
  exact h

theorem eag_end {a : Act} {b : World} (h : Q a b) : eagW P l.toArray B Q [] a b := h
end
end Go.Proofs.Ytlaogkbdjkofaaa
