/- frame.Emit as pure functions. No function of the program is walked. What frame.Emit's code writes besides beginnings and ends: no return, nothing to register 14. No function of the program is walked. The whole of frame.Emit's items: two ahead, then bodies and returns. No function of the program is walked. The references to functions that frame.Emit's code holds. No function of the program is walked. Registers of an allocation that is in form are never 14. No function of the program is walked. The moves end: their fuel is enough. How much the emitter writes. No function of the program is walked. -/
import Derived.Test.YtdnpoomagjcpfaaGreatAllocP
namespace Go.Proofs.YtdnpoomagjcpfaaGreat
open Go.RowKit
set_option linter.unusedVariables false
set_option linter.unusedSimpArgs false

section
/-- an item of machine code -/
structure MI where
 (op d a b n lab : Int)
/-- a stack map; the registers are the bits of a number -/
structure MP where
 (item : Nat) (after : Bool) (slots : List Nat) (regs : Nat)
/-- what the emitter has written -/
structure EmS where
 (items : List MI) (calls : List (Nat × Int)) (maps : List MP) (starts : List Nat) (jumps : List (Nat × Int))
def EmS.put (s : EmS) (op d a b n : Int) : EmS := { s with items := s.items ++ [⟨op, d, a, b, n, -1⟩] }
def EmS.load (s : EmS) (reg slot : Int) : EmS := s.put 12 reg 14 0 (2 * slot)
def EmS.store (s : EmS) (slot reg : Int) : EmS := s.put 13 0 14 reg (2 * slot)
def EmS.refer (s : EmS) (fn : Int) : EmS := { s with calls := s.calls ++ [(s.items.length, fn)] }
def EmS.jump (s : EmS) (op a b block : Int) : EmS := { s.put op 0 a b 0 with jumps := s.jumps ++ [(s.items.length, block)] }

/-- the place of a virtual register: a register, or (if that is -1) a slot -/
def ofP (a : AL) (r : Int) : Int × Int :=
 if r = 0 then (0, -1) else if 0 < a.reg.getD r.toNat 0 then (a.reg.getD r.toNat 0, -1)
 else if 0 ≤ a.slot.getD r.toNat (-1) then (-1, a.slot.getD r.toNat (-1)) else (13, -1)
def fetchR (a : AL) (r temp : Int) : Int := if 0 ≤ (ofP a r).1 then (ofP a r).1 else temp
def EmS.fetch (s : EmS) (a : AL) (r temp : Int) : EmS := if 0 ≤ (ofP a r).1 then s else s.load temp (ofP a r).2
def targR (a : AL) (r : Int) : Int := if 0 ≤ (ofP a r).1 then (ofP a r).1 else 11
def EmS.save (s : EmS) (a : AL) (r reg : Int) : EmS := if (ofP a r).1 < 0 then s.store (ofP a r).2 reg else s

/-- one round of the moves that are left, by fuel -/
def mvI : Nat → List (Int × Int) → EmS → EmS
 | 0, _, s => s
 | _ + 1, [], s => s
 | f + 1, x :: l, s =>
  match (x :: l).findIdx? (fun y => !((x :: l).any fun z => z.2 == y.1)) with
  | some i => mvI f ((x :: l).eraseIdx i) (s.put 8 ((x :: l).getD i (0, 0)).1 ((x :: l).getD i (0, 0)).2 0 0)
  | none => mvI f ((x :: l).map fun z => if z.2 = x.1 then (z.1, 13) else z) (s.put 8 13 x.1 0 0)
def EmS.moves (s : EmS) (l : List (Int × Int)) : EmS := mvI (2 * l.length + 1) (l.filter fun x => x.1 != x.2) s

def parsI (a : AL) : Nat → List Int → EmS → EmS × List (Int × Int)
 | _, [], s => (s, [])
 | i, r :: rs, s =>
  if (ofP a r).1 < 0 then parsI a (i + 1) rs (s.store (ofP a r).2 (i + 1))
  else if (ofP a r).1 = 13 then parsI a (i + 1) rs s
  else ((parsI a (i + 1) rs s).1, ((ofP a r).1, (i : Int) + 1) :: (parsI a (i + 1) rs s).2)
def EmS.enter (s : EmS) (a : AL) (size : Int) (ps : List Int) : EmS :=
 (parsI a 0 ps ((s.put 8 14 14 0 (-2 * size)).store (size - 1) 15)).1.moves (parsI a 0 ps ((s.put 8 14 14 0 (-2 * size)).store (size - 1) 15)).2
def regArgs (a : AL) : Nat → List Int → List (Int × Int)
 | _, [] => []
 | i, r :: rs => if 0 ≤ (ofP a r).1 then ((i : Int) + 1, (ofP a r).1) :: regArgs a (i + 1) rs else regArgs a (i + 1) rs
def slotArgs (a : AL) : Nat → List Int → EmS → EmS
 | _, [], s => s
 | i, r :: rs, s => slotArgs a (i + 1) rs (if (ofP a r).1 < 0 then s.load ((i : Int) + 1) (ofP a r).2 else s)
def EmS.args (s : EmS) (a : AL) (rs : List Int) : EmS := slotArgs a 0 rs (s.moves (regArgs a 0 rs))

/-- the stack map for the live registers (of n) with k slots -/
def mapP (a : AL) (n k item : Nat) (after : Bool) (live : Nat → Bool) (more : Nat) : MP :=
 ⟨item, after, (List.range k).filter (fun t => (List.range n).any fun r => live r && r != 0 && decide ((ofP a r).1 < 0 ∧ (ofP a r).2 = (t : Int))),
  (List.range n).foldl (fun b r => if live r = true ∧ r ≠ 0 ∧ 0 < (ofP a r).1 ∧ after = false then b ||| 1 <<< (ofP a r).1.toNat else b) more⟩
def EmS.keep (s : EmS) (a : AL) (n k item : Nat) (after : Bool) (live : Nat → Bool) (more : Nat) : EmS := { s with maps := s.maps ++ [mapP a n k item after live more] }

def EmS.call (s : EmS) (a : AL) (n k : Nat) (x : VI) (live : Nat → Bool) : EmS :=
 let s1 := if x.op = 102 then (if fetchR a x.a 12 = 12 then s.fetch a x.a 12 else (s.fetch a x.a 12).put 8 12 (fetchR a x.a 12) 0 0) else s
 let s2 := s1.args a x.args
 let s3 := if x.op = 102 then s2.put 21 0 12 0 0 else (s2.refer x.n).put 20 0 0 0 0
 let s4 := s3.keep a n k s2.items.length true live 0
 if (ofP a x.d).1 < 0 then s4.store (ofP a x.d).2 1 else s4.put 8 (ofP a x.d).1 1 0 0
def EmS.move (s : EmS) (a : AL) (x : VI) : EmS :=
 if (ofP a x.d).1 < 0 ∧ (ofP a x.a).1 < 0 then (if (ofP a x.d).2 = (ofP a x.a).2 then s else (s.load 11 (ofP a x.a).2).store (ofP a x.d).2 11)
 else if (ofP a x.d).1 < 0 then s.store (ofP a x.d).2 (ofP a x.a).1
 else if (ofP a x.a).1 < 0 then s.load (ofP a x.d).1 (ofP a x.a).2
 else if (ofP a x.d).1 = (ofP a x.a).1 then s else s.put 8 (ofP a x.d).1 (ofP a x.a).1 0 0
def EmS.ins (s : EmS) (a : AL) (n k : Nat) (x : VI) (live : Nat → Bool) : EmS :=
 if x.op = 100 then s.move a x else if x.op = 101 ∨ x.op = 102 then s.call a n k x live
 else if x.op = 103 then ((s.refer x.n).put 11 (targR a x.d) 0 0 0).save a x.d (targR a x.d)
 else if x.op = 13 ∨ x.op = 23 then ((s.fetch a x.a 11).fetch a x.b 12).put x.op 0 (fetchR a x.a 11) (fetchR a x.b 12) x.n
 else
  let s1 := (s.fetch a x.a 11).fetch a x.b 12
  let s2 := if x.op = 14 then s1.keep a n k s1.items.length false live 0
   else if x.op = 15 then s1.keep a n k s1.items.length false live (1 <<< (fetchR a x.b 12).toNat &&& ((1 <<< (fetchR a x.b 12).toNat) ^^^ 1)) else s1
  (s2.put x.op (targR a x.d) (fetchR a x.a 11) (fetchR a x.b 12) x.n).save a x.d (targR a x.d)
def EmS.fin (s : EmS) (a : AL) (size : Int) (i : Nat) (x : VE) : EmS :=
 if x.kind = 0 then
  ((((if fetchR a x.a 1 = 1 then s.fetch a x.a 1 else (s.fetch a x.a 1).put 8 1 (fetchR a x.a 1) 0 0).load 15 (size - 1)).put 8 14 14 0 (2 * size)).put 22 0 0 0 0)
 else if x.kind = 3 then s.put 24 0 0 0 x.n
 else if x.kind = 2 then
  let s1 := ((s.fetch a x.a 11).fetch a x.b 12).jump x.op (fetchR a x.a 11) (fetchR a x.b 12) (x.to.getD 0 0)
  if x.to.getD 1 0 = (i : Int) + 1 then s1 else s1.jump 19 0 0 (x.to.getD 1 0)
 else if x.to.getD 0 0 = (i : Int) + 1 then s else s.jump 19 0 0 (x.to.getD 0 0)

/-- items are only appended, and each new one is as P says -/
def Grow (P : MI → Prop) (s s' : EmS) : Prop := ∃ l, s'.items = s.items ++ l ∧ ∀ x ∈ l, P x
theorem Grow.refl {P : MI → Prop} (s : EmS) : Grow P s s := ⟨[], (List.append_nil _).symm, fun x h => nomatch h⟩
theorem Grow.trans {P : MI → Prop} {s t u : EmS} (h : Grow P s t) (g : Grow P t u) : Grow P s u := by
 obtain ⟨l, h1, h2⟩ := h
 obtain ⟨m, g1, g2⟩ := g
 refine ⟨l ++ m, by rw [g1, h1, List.append_assoc], fun x hx => ?_⟩
 rcases List.mem_append.mp hx with hx | hx
 · exact h2 x hx
 · exact g2 x hx
theorem Grow.put {P : MI → Prop} (s : EmS) {op d a b n : Int} (h : P ⟨op, d, a, b, n, -1⟩) : Grow P s (s.put op d a b n) :=
 ⟨[⟨op, d, a, b, n, -1⟩], rfl, fun x hx => by rw [List.mem_singleton.mp hx]; exact h⟩
/-- what the moves write: copies to the targets and to register 13 -/
theorem mvI_grow {P : MI → Prop} : ∀ (f : Nat) (l : List (Int × Int)) (s : EmS), (∀ b, P ⟨8, 13, b, 0, 0, -1⟩) → (∀ x ∈ l, ∀ b, P ⟨8, x.1, b, 0, 0, -1⟩) → Grow P s (mvI f l s)
 | 0, _, s, _, _ => by unfold mvI; exact Grow.refl s
 | _ + 1, [], s, _, _ => by unfold mvI; exact Grow.refl s
 | f + 1, x :: l, s, h13, h => by
  unfold mvI
  split
  · rename_i i hi
    have hlt : i < (x :: l).length := (List.findIdx?_eq_some_iff_getElem.mp hi).1
    have hm : (x :: l).getD i (0, 0) ∈ x :: l := by
     rw [List.getD_eq_getElem?_getD, List.getElem?_eq_getElem hlt]
     exact List.getElem_mem hlt
    exact (Grow.put s (h _ hm _)).trans (mvI_grow f _ _ h13 fun y hy => h y (List.mem_of_mem_eraseIdx hy))
  · refine (Grow.put s (h13 _)).trans (mvI_grow f _ _ h13 fun y hy => ?_)
    obtain ⟨z, hz, rfl⟩ := List.mem_map.mp hy
    intro b
    split
    · exact h z hz b
    · exact h z hz b
end

section
/-- the register that an item writes -/
def wrI (x : MI) : Int :=
 if x.op = 20 ∨ x.op = 21 then 15
 else if x.op = 0 ∨ x.op = 13 ∨ x.op = 16 ∨ x.op = 17 ∨ x.op = 18 ∨ x.op = 19 ∨ x.op = 22 ∨ x.op = 23 ∨ x.op = 24 then 0 else x.d
/-- an item of the body: no return, and register 14 stays -/
def BodyI (x : MI) : Prop := x.op ≠ 22 ∧ wrI x ≠ 14
theorem BodyI.d {op d a b n lab : Int} (h : op ≠ 22) (hd : d ≠ 14) : BodyI ⟨op, d, a, b, n, lab⟩ := by
 refine ⟨h, ?_⟩
 unfold wrI
 split
 · decide
 · split
   · decide
   · exact hd
/-- registers of places are not 14 -/
def Ten (a : AL) : Prop := ∀ r, (ofP a r).1 ≠ 14
theorem fetchR_ne {a : AL} (ha : Ten a) {r t : Int} (ht : t ≠ 14) : fetchR a r t ≠ 14 := by
 unfold fetchR
 split
 · exact ha r
 · exact ht
theorem targR_ne {a : AL} (ha : Ten a) (r : Int) : targR a r ≠ 14 := by
 unfold targR
 split
 · exact ha r
 · decide
theorem load_grow (s : EmS) {reg : Int} (slot : Int) (h : reg ≠ 14) : Grow BodyI s (s.load reg slot) := Grow.put s (.d (by decide) h)
theorem store_grow (s : EmS) (slot reg : Int) : Grow BodyI s (s.store slot reg) := Grow.put s (.d (by decide) (by decide))
theorem fetch_grow (s : EmS) (a : AL) (r : Int) {t : Int} (h : t ≠ 14) : Grow BodyI s (s.fetch a r t) := by
 unfold EmS.fetch
 split
 · exact Grow.refl s
 · exact load_grow s _ h
theorem save_grow (s : EmS) (a : AL) (r reg : Int) : Grow BodyI s (s.save a r reg) := by
 unfold EmS.save
 split
 · exact store_grow s _ _
 · exact Grow.refl s
theorem moves_grow (s : EmS) {l : List (Int × Int)} (h : ∀ x ∈ l, x.1 ≠ 14) : Grow BodyI s (s.moves l) :=
 mvI_grow _ _ s (fun _ => .d (by decide) (by decide)) fun x hx _ => .d (by decide) (h x (List.mem_filter.mp hx).1)
theorem regArgs_le (a : AL) : ∀ (rs : List Int) (i : Nat), ∀ x ∈ regArgs a i rs, x.1 ≤ (i : Int) + (rs.length : Int)
 | [], i, x, h => nomatch h
 | r :: rs, i, x, h => by
  rw [List.length_cons]
  unfold regArgs at h
  split at h
  · rcases List.mem_cons.mp h with h | h
    · subst h
      show (i : Int) + 1 ≤ _
      omega
    · have := regArgs_le a rs (i + 1) x h
      omega
  · have := regArgs_le a rs (i + 1) x h
    omega
theorem slotArgs_grow (a : AL) : ∀ (rs : List Int) (i : Nat) (s : EmS), i + rs.length ≤ 13 → Grow BodyI s (slotArgs a i rs s)
 | [], _, s, _ => by unfold slotArgs; exact Grow.refl s
 | r :: rs, i, s, h => by
  rw [List.length_cons] at h
  unfold slotArgs
  refine Grow.trans ?_ (slotArgs_grow a rs (i + 1) _ (by omega))
  split
  · exact load_grow s _ (by omega)
  · exact Grow.refl s
theorem args_grow (s : EmS) (a : AL) {rs : List Int} (h : rs.length ≤ 6) : Grow BodyI s (s.args a rs) :=
 (moves_grow s fun x hx => by have := regArgs_le a rs 0 x hx; omega).trans (slotArgs_grow a rs 0 _ (by omega))
theorem grow_items {P : MI → Prop} {s t : EmS} (h : t.items = s.items) : Grow P s t := ⟨[], by rw [h, List.append_nil], fun x h => nomatch h⟩
theorem keep_grow (s : EmS) (a : AL) (n k item : Nat) (after : Bool) (live : Nat → Bool) (more : Nat) : Grow BodyI s (s.keep a n k item after live more) := grow_items rfl
theorem refer_grow (s : EmS) (fn : Int) : Grow BodyI s (s.refer fn) := grow_items rfl
theorem move_grow (s : EmS) {a : AL} (ha : Ten a) (x : VI) : Grow BodyI s (s.move a x) := by
 unfold EmS.move
 split
 · split
   · exact Grow.refl s
   · exact (load_grow s _ (by decide)).trans (store_grow _ _ _)
 · split
   · exact store_grow s _ _
   · split
     · exact load_grow s _ (ha _)
     · split
       · exact Grow.refl s
       · exact Grow.put s (.d (by decide) (ha _))
theorem call_grow (s : EmS) {a : AL} (ha : Ten a) (n k : Nat) (x : VI) (live : Nat → Bool) (hx : x.args.length ≤ 6) : Grow BodyI s (s.call a n k x live) := by
 unfold EmS.call
 dsimp only
 refine Grow.trans (t := if x.op = 102 then (if fetchR a x.a 12 = 12 then s.fetch a x.a 12 else (s.fetch a x.a 12).put 8 12 (fetchR a x.a 12) 0 0) else s) ?_ ?_
 · split
   · split
     · exact fetch_grow s a _ (by decide)
     · exact (fetch_grow s a _ (by decide)).trans (Grow.put _ (.d (by decide) (by decide)))
   · exact Grow.refl s
 · generalize (if x.op = 102 then (if fetchR a x.a 12 = 12 then s.fetch a x.a 12 else (s.fetch a x.a 12).put 8 12 (fetchR a x.a 12) 0 0) else s) = s1
   refine (args_grow s1 a hx).trans ?_
   generalize s1.args a x.args = s2
   refine Grow.trans (t := if x.op = 102 then s2.put 21 0 12 0 0 else (s2.refer x.n).put 20 0 0 0 0) ?_ ?_
   · split
     · exact Grow.put _ (.d (by decide) (by decide))
     · exact (refer_grow s2 _).trans (Grow.put _ (.d (by decide) (by decide)))
   · generalize (if x.op = 102 then s2.put 21 0 12 0 0 else (s2.refer x.n).put 20 0 0 0 0) = s3
     refine (keep_grow s3 a n k s2.items.length true live 0).trans ?_
     split
     · exact store_grow _ _ _
     · exact Grow.put _ (.d (by decide) (ha _))
theorem ins_grow (s : EmS) {a : AL} (ha : Ten a) (n k : Nat) (x : VI) (live : Nat → Bool) (hx : x.args.length ≤ 6) (ho : x.op ≠ 22) : Grow BodyI s (s.ins a n k x live) := by
 unfold EmS.ins
 split
 · exact move_grow s ha x
 · split
   · exact call_grow s ha n k x live hx
   · split
     · exact ((refer_grow s _).trans (Grow.put _ (.d (by decide) (targR_ne ha _)))).trans (save_grow _ a _ _)
     · split
       · exact ((fetch_grow s a _ (by decide)).trans (fetch_grow _ a _ (by decide))).trans (Grow.put _ (.d ho (by decide)))
       · dsimp only
         refine ((fetch_grow s a x.a (t := 11) (by decide)).trans (fetch_grow _ a x.b (t := 12) (by decide))).trans ?_
         generalize (s.fetch a x.a 11).fetch a x.b 12 = s1
         split
         · exact ((keep_grow s1 a n k _ false live 0).trans (Grow.put _ (.d ho (targR_ne ha _)))).trans (save_grow _ a _ _)
         · split
           · exact ((keep_grow s1 a n k _ false live _).trans (Grow.put _ (.d ho (targR_ne ha _)))).trans (save_grow _ a _ _)
           · exact (Grow.put _ (.d ho (targR_ne ha _))).trans (save_grow _ a _ _)
end

section
def insL (a : AL) (n k : Nat) (live : Nat → Nat → Bool) : Nat → List VI → EmS → EmS
 | _, [], s => s
 | j, x :: l, s => insL a n k live (j + 1) l (s.ins a n k x (live j))
def EmS.begin (s : EmS) : EmS := { s with starts := s.starts ++ [s.items.length] }
def EmS.block (s : EmS) (a : AL) (n k : Nat) (size : Int) (ps : List Int) (i : Nat) (b : VB) (live : Nat → Nat → Bool) : EmS :=
 (insL a n k live 0 b.ins (if i = 0 then s.begin.enter a size ps else s.begin)).fin a size i b.e
def blksI (a : AL) (n k : Nat) (size : Int) (ps : List Int) (live : Nat → Nat → Nat → Bool) : Nat → List VB → EmS → EmS
 | _, [], s => s
 | i, b :: l, s => blksI a n k size ps live (i + 1) l (s.block a n k size ps i b (live i))

/-- bodies and returns -/
inductive RetL (size : Int) : List MI → Prop
 | nil : RetL size []
 | body {l : List MI} {x : MI} : RetL size l → BodyI x → RetL size (l ++ [x])
 | ret {l : List MI} : RetL size l → RetL size (l ++ [⟨12, 15, 14, 0, 2 * (size - 1), -1⟩, ⟨8, 14, 14, 0, 2 * size, -1⟩, ⟨22, 0, 0, 0, 0, -1⟩])
theorem RetL.app {size : Int} {l : List MI} (h : RetL size l) : ∀ (m : List MI), (∀ x ∈ m, BodyI x) → RetL size (l ++ m)
 | [], _ => by rw [List.append_nil]; exact h
 | x :: m, hm => by
  have := RetL.app (h.body (hm x (List.mem_cons_self ..))) m fun y hy => hm y (List.mem_cons_of_mem _ hy)
  rwa [List.append_assoc] at this
theorem RetL.ret_at {size : Int} {m : List MI} (h : RetL size m) : ∀ (i : Nat) (x : MI), m[i]? = some x → x.op = 22 →
  2 ≤ i ∧ m[i - 1]? = some ⟨8, 14, 14, 0, 2 * size, -1⟩ ∧ m[i - 2]? = some ⟨12, 15, 14, 0, 2 * (size - 1), -1⟩ := by
 induction h with
 | nil => intro i x hx; simp at hx
 | @body l y h hy ih =>
  intro i x hx ho
  by_cases hi : i < l.length
  · rw [List.getElem?_append_left hi] at hx
    obtain ⟨h1, h2, h3⟩ := ih i x hx ho
    exact ⟨h1, by rw [List.getElem?_append_left (by omega)]; exact h2, by rw [List.getElem?_append_left (by omega)]; exact h3⟩
  · rw [List.getElem?_append_right (by omega)] at hx
    have hx := List.mem_of_getElem? hx
    rw [List.mem_singleton.mp hx] at ho
    exact absurd ho hy.1
 | @ret l h ih =>
  intro i x hx ho
  by_cases hi : i < l.length
  · rw [List.getElem?_append_left hi] at hx
    obtain ⟨h1, h2, h3⟩ := ih i x hx ho
    exact ⟨h1, by rw [List.getElem?_append_left (by omega)]; exact h2, by rw [List.getElem?_append_left (by omega)]; exact h3⟩
  · obtain ⟨j, rfl⟩ : ∃ j, i = l.length + j := ⟨i - l.length, by omega⟩
    rw [List.getElem?_append_right (by omega), Nat.add_sub_cancel_left] at hx
    match j, hx with
    | 0, hx => simp at hx; rw [← hx] at ho; simp at ho
    | 1, hx => simp at hx; rw [← hx] at ho; simp at ho
    | 2, hx =>
     refine ⟨by omega, ?_, ?_⟩
     · rw [List.getElem?_append_right (by omega), show l.length + 2 - 1 - l.length = 1 by omega]; rfl
     · rw [List.getElem?_append_right (by omega), show l.length + 2 - 2 - l.length = 0 by omega]; rfl
    | j + 3, hx => simp at hx
theorem RetL.wr {size : Int} {m : List MI} (h : RetL size m) : ∀ (i : Nat) (x : MI), m[i]? = some x → wrI x = 14 → ∃ y, m[i + 1]? = some y ∧ y.op = 22 := by
 induction h with
 | nil => intro i x hx; simp at hx
 | @body l y h hy ih =>
  intro i x hx ho
  by_cases hi : i < l.length
  · rw [List.getElem?_append_left hi] at hx
    obtain ⟨y, h1, h2⟩ := ih i x hx ho
    have hl : i + 1 < l.length := (List.getElem?_eq_some_iff.mp h1).1
    exact ⟨y, by rw [List.getElem?_append_left hl]; exact h1, h2⟩
  · rw [List.getElem?_append_right (by omega)] at hx
    have hx := List.mem_of_getElem? hx
    rw [List.mem_singleton.mp hx] at ho
    exact absurd ho hy.2
 | @ret l h ih =>
  intro i x hx ho
  by_cases hi : i < l.length
  · rw [List.getElem?_append_left hi] at hx
    obtain ⟨y, h1, h2⟩ := ih i x hx ho
    have hl : i + 1 < l.length := (List.getElem?_eq_some_iff.mp h1).1
    exact ⟨y, by rw [List.getElem?_append_left hl]; exact h1, h2⟩
  · obtain ⟨j, rfl⟩ : ∃ j, i = l.length + j := ⟨i - l.length, by omega⟩
    rw [List.getElem?_append_right (by omega), Nat.add_sub_cancel_left] at hx
    match j, hx with
    | 0, hx => simp at hx; rw [← hx] at ho; simp [wrI] at ho
    | 1, hx =>
     refine ⟨⟨22, 0, 0, 0, 0, -1⟩, ?_, rfl⟩
     rw [List.getElem?_append_right (by omega), show l.length + 1 + 1 - l.length = 2 by omega]; rfl
    | 2, hx => simp at hx; rw [← hx] at ho; simp [wrI] at ho
    | j + 3, hx => simp at hx

/-- a list that begins with h and goes on with bodies and returns -/
def RetT (size : Int) (h l : List MI) : Prop := ∃ m, l = h ++ m ∧ RetL size m
theorem RetT.grow {size : Int} {h : List MI} {s t : EmS} (hs : RetT size h s.items) (g : Grow BodyI s t) : RetT size h t.items := by
 obtain ⟨m, h1, h2⟩ := hs
 obtain ⟨l, g1, g2⟩ := g
 exact ⟨m ++ l, by rw [g1, h1, List.append_assoc], h2.app l g2⟩
theorem RetT.ret {size : Int} {h : List MI} {s : EmS} (hs : RetT size h s.items) : RetT size h (((s.load 15 (size - 1)).put 8 14 14 0 (2 * size)).put 22 0 0 0 0).items := by
 obtain ⟨m, h1, h2⟩ := hs
 refine ⟨_, ?_, h2.ret⟩
 show ((s.items ++ _) ++ _) ++ _ = _
 rw [h1]
 simp
theorem jump_grow (s : EmS) {op : Int} (a b block : Int) (h : op ≠ 22) : Grow BodyI s (s.jump op a b block) := by
 obtain ⟨l, h1, h2⟩ := Grow.put (P := BodyI) s (op := op) (d := 0) (a := a) (b := b) (n := 0) (.d h (by decide))
 exact ⟨l, h1, h2⟩
theorem fin_ret {size : Int} {h : List MI} {s : EmS} (hs : RetT size h s.items) {a : AL} (i : Nat) (x : VE) (hx : x.op ≠ 22) : RetT size h (s.fin a size i x).items := by
 unfold EmS.fin
 split
 · refine RetT.ret ?_
   split
   · exact hs.grow (fetch_grow s a _ (by decide))
   · exact hs.grow ((fetch_grow s a _ (by decide)).trans (Grow.put _ (.d (by decide) (by decide))))
 · split
   · exact hs.grow (Grow.put _ (.d (by decide) (by decide)))
   · split
     · dsimp only
       have g := ((fetch_grow s a x.a (t := 11) (by decide)).trans (fetch_grow _ a x.b (t := 12) (by decide))).trans (jump_grow ((s.fetch a x.a 11).fetch a x.b 12) (fetchR a x.a 11) (fetchR a x.b 12) (x.to.getD 0 0) hx)
       split
       · exact hs.grow g
       · exact hs.grow (g.trans (jump_grow _ _ _ _ (by decide)))
     · split
       · exact hs
       · exact hs.grow (jump_grow _ _ _ _ (by decide))
theorem insL_grow {a : AL} (ha : Ten a) (n k : Nat) (live : Nat → Nat → Bool) : ∀ (l : List VI) (j : Nat) (s : EmS), (∀ x ∈ l, x.args.length ≤ 6 ∧ x.op ≠ 22) → Grow BodyI s (insL a n k live j l s)
 | [], _, s, _ => by unfold insL; exact Grow.refl s
 | x :: l, j, s, h => by
  unfold insL
  have hx := h x (List.mem_cons_self ..)
  exact (ins_grow s ha n k x (live j) hx.1 hx.2).trans (insL_grow ha n k live l (j + 1) _ fun y hy => h y (List.mem_cons_of_mem _ hy))
theorem parsI_grow {a : AL} (ha : Ten a) : ∀ (ps : List Int) (i : Nat) (s : EmS), Grow BodyI s (parsI a i ps s).1 ∧ ∀ x ∈ (parsI a i ps s).2, x.1 ≠ 14
 | [], _, s => by unfold parsI; exact ⟨Grow.refl s, fun x h => nomatch h⟩
 | r :: rs, i, s => by
  unfold parsI
  split
  · have := parsI_grow ha rs (i + 1) (s.store (ofP a r).2 (i + 1))
    exact ⟨(store_grow s _ _).trans this.1, this.2⟩
  · split
    · exact parsI_grow ha rs (i + 1) s
    · have := parsI_grow ha rs (i + 1) s
      refine ⟨this.1, fun x hx => ?_⟩
      rcases List.mem_cons.mp hx with hx | hx
      · rw [hx]; exact ha r
      · exact this.2 x hx
/-- the items ahead -/
def headI (size : Int) : List MI := [⟨8, 14, 14, 0, -2 * size, -1⟩, ⟨13, 0, 14, 15, 2 * (size - 1), -1⟩]
theorem enter_ret {a : AL} (ha : Ten a) (size : Int) (ps : List Int) {s : EmS} (h : s.items = []) : RetT size (headI size) (s.enter a size ps).items := by
 have h0 : RetT size (headI size) ((s.put 8 14 14 0 (-2 * size)).store (size - 1) 15).items := by
  refine ⟨[], ?_, .nil⟩
  show (s.items ++ _) ++ _ = _
  rw [h]
  rfl
 have h1 := parsI_grow ha ps 0 ((s.put 8 14 14 0 (-2 * size)).store (size - 1) 15)
 exact h0.grow (h1.1.trans (moves_grow _ h1.2))
theorem blksI_ret {a : AL} (ha : Ten a) (n k : Nat) (size : Int) (ps : List Int) (live : Nat → Nat → Nat → Bool) : ∀ (l : List VB) (i : Nat) (s : EmS),
  (∀ b ∈ l, (∀ x ∈ b.ins, x.args.length ≤ 6 ∧ x.op ≠ 22) ∧ b.e.op ≠ 22) → (if i = 0 then s.items = [] ∧ l ≠ [] else RetT size (headI size) s.items) → RetT size (headI size) (blksI a n k size ps live i l s).items
 | [], i, s, _, h => by
  unfold blksI
  split at h
  · exact absurd rfl h.2
  · exact h
 | b :: l, i, s, hb, h => by
  unfold blksI
  have hb0 := hb b (List.mem_cons_self ..)
  refine blksI_ret ha n k size ps live l (i + 1) _ (fun c hc => hb c (List.mem_cons_of_mem _ hc)) ?_
  rw [if_neg (by omega)]
  refine fin_ret (RetT.grow ?_ (insL_grow ha n k (live i) b.ins 0 _ hb0.1)) i b.e hb0.2
  split at h
  · rw [if_pos (by assumption)]
    exact enter_ret ha size ps h.1
  · rw [if_neg (by assumption)]
    exact h
end

section
theorem fetch_calls (s : EmS) (a : AL) (r t : Int) : (s.fetch a r t).calls = s.calls := by unfold EmS.fetch; split <;> rfl
theorem save_calls (s : EmS) (a : AL) (r t : Int) : (s.save a r t).calls = s.calls := by unfold EmS.save; split <;> rfl
theorem mvI_calls : ∀ (f : Nat) (l : List (Int × Int)) (s : EmS), (mvI f l s).calls = s.calls
 | 0, _, s => by unfold mvI; rfl
 | _ + 1, [], s => by unfold mvI; rfl
 | f + 1, x :: l, s => by
  unfold mvI
  split
  · rw [mvI_calls f]; rfl
  · rw [mvI_calls f]; rfl
theorem moves_calls (s : EmS) (l : List (Int × Int)) : (s.moves l).calls = s.calls := mvI_calls _ _ _
theorem slotArgs_calls (a : AL) : ∀ (rs : List Int) (i : Nat) (s : EmS), (slotArgs a i rs s).calls = s.calls
 | [], _, s => by unfold slotArgs; rfl
 | r :: rs, i, s => by
  unfold slotArgs
  rw [slotArgs_calls a rs]
  split <;> rfl
theorem args_calls (s : EmS) (a : AL) (rs : List Int) : (s.args a rs).calls = s.calls := by
 unfold EmS.args
 rw [slotArgs_calls, moves_calls]
theorem parsI_calls (a : AL) : ∀ (ps : List Int) (i : Nat) (s : EmS), (parsI a i ps s).1.calls = s.calls
 | [], _, s => by unfold parsI; rfl
 | r :: rs, i, s => by
  unfold parsI
  split
  · rw [parsI_calls a rs]; rfl
  · split
    · exact parsI_calls a rs _ _
    · exact parsI_calls a rs _ _
theorem enter_calls (s : EmS) (a : AL) (size : Int) (ps : List Int) : (s.enter a size ps).calls = s.calls := by
 unfold EmS.enter
 rw [moves_calls, parsI_calls]
 rfl
theorem move_calls (s : EmS) (a : AL) (x : VI) : (s.move a x).calls = s.calls := by
 unfold EmS.move
 split
 · split <;> rfl
 · split
   · rfl
   · split
     · rfl
     · split <;> rfl
theorem fin_calls (s : EmS) (a : AL) (size : Int) (i : Nat) (x : VE) : (s.fin a size i x).calls = s.calls := by
 unfold EmS.fin
 split
 · show EmS.calls (if _ then _ else _) = _
   split
   · exact fetch_calls _ _ _ _
   · exact fetch_calls _ _ _ _
 · split
   · rfl
   · split
     · dsimp only
       split
       · show EmS.calls ((s.fetch a x.a 11).fetch a x.b 12) = _
         rw [fetch_calls, fetch_calls]
       · show EmS.calls ((s.fetch a x.a 11).fetch a x.b 12) = _
         rw [fetch_calls, fetch_calls]
     · split <;> rfl

/-- the references are those of the list, in order -/
structure CallI (s : EmS) (l : List VI) : Prop where
 len : s.calls.length = l.length
 at_ : ∀ (j : Nat) (c : Nat × Int) (x : VI), s.calls[j]? = some c → l[j]? = some x → c.2 = x.n ∧ ∃ y, s.items[c.1]? = some y ∧ (y.op = 20 ↔ x.op = 101)
theorem CallI.same {s t : EmS} {l : List VI} {P : MI → Prop} (h : CallI s l) (hc : t.calls = s.calls) (g : Grow P s t) : CallI t l := by
 obtain ⟨m, g1, _⟩ := g
 refine ⟨by rw [hc]; exact h.len, fun j c x h1 h2 => ?_⟩
 rw [hc] at h1
 obtain ⟨e, y, e1, e2⟩ := h.at_ j c x h1 h2
 have hl : c.1 < s.items.length := (List.getElem?_eq_some_iff.mp e1).1
 exact ⟨e, y, by rw [g1, List.getElem?_append_left hl]; exact e1, e2⟩
theorem CallI.refer {s : EmS} {l : List VI} (h : CallI s l) {x : VI} {op d : Int} (ho : op = 20 ↔ x.op = 101) : CallI ((s.refer x.n).put op d 0 0 0) (l ++ [x]) := by
 have hk : ((s.refer x.n).put op d 0 0 0).calls = s.calls ++ [(s.items.length, x.n)] := rfl
 have hi : ((s.refer x.n).put op d 0 0 0).items = s.items ++ [⟨op, d, 0, 0, 0, -1⟩] := rfl
 refine ⟨by rw [hk, List.length_append, List.length_append, h.len]; rfl, fun j c y h1 h2 => ?_⟩
 rw [hk] at h1
 rw [hi]
 by_cases hj : j < s.calls.length
 · rw [List.getElem?_append_left hj] at h1
   rw [List.getElem?_append_left (by rw [← h.len]; exact hj)] at h2
   obtain ⟨e, z, e1, e2⟩ := h.at_ j c y h1 h2
   have hl : c.1 < s.items.length := (List.getElem?_eq_some_iff.mp e1).1
   exact ⟨e, z, by rw [List.getElem?_append_left hl]; exact e1, e2⟩
 · rw [List.getElem?_append_right (by omega)] at h1
   rw [List.getElem?_append_right (by rw [← h.len]; omega)] at h2
   have h1 := List.mem_singleton.mp (List.mem_of_getElem? h1)
   have h2 := List.mem_singleton.mp (List.mem_of_getElem? h2)
   rw [h1, h2]
   refine ⟨rfl, ⟨op, d, 0, 0, 0, -1⟩, ?_, ho⟩
   rw [List.getElem?_append_right (Nat.le_refl _), Nat.sub_self]
   rfl
theorem call_callI {s : EmS} {l : List VI} (h : CallI s l) {a : AL} (ha : Ten a) (n k : Nat) (x : VI) (live : Nat → Bool) (hx : x.args.length ≤ 6) (ho : x.op = 101 ∨ x.op = 102) :
  CallI (s.call a n k x live) (if x.op = 101 then l ++ [x] else l) := by
 unfold EmS.call
 dsimp only
 have h1 : CallI (if x.op = 102 then (if fetchR a x.a 12 = 12 then s.fetch a x.a 12 else (s.fetch a x.a 12).put 8 12 (fetchR a x.a 12) 0 0) else s) l := by
  split
  · split
    · exact h.same (fetch_calls _ _ _ _) (fetch_grow s a _ (by decide))
    · exact h.same (fetch_calls s a x.a 12) ((fetch_grow s a _ (by decide)).trans (Grow.put _ (.d (by decide) (by decide))))
  · exact h
 generalize (if x.op = 102 then (if fetchR a x.a 12 = 12 then s.fetch a x.a 12 else (s.fetch a x.a 12).put 8 12 (fetchR a x.a 12) 0 0) else s) = s1 at h1 ⊢
 have h2 := h1.same (args_calls s1 a x.args) (args_grow s1 a hx)
 generalize s1.args a x.args = s2 at h2 ⊢
 have h3 : CallI (if x.op = 102 then s2.put 21 0 12 0 0 else (s2.refer x.n).put 20 0 0 0 0) (if x.op = 101 then l ++ [x] else l) := by
  split
  · rw [if_neg (by omega)]
    exact h2.same (P := BodyI) rfl (Grow.put _ (.d (by decide) (by decide)))
  · rw [if_pos (by omega)]
    exact h2.refer ⟨fun _ => by omega, fun _ => rfl⟩
 generalize (if x.op = 102 then s2.put 21 0 12 0 0 else (s2.refer x.n).put 20 0 0 0 0) = s3 at h3 ⊢
 have h4 := h3.same (P := BodyI) (t := s3.keep a n k s2.items.length true live 0) rfl (keep_grow s3 a n k s2.items.length true live 0)
 split
 · exact h4.same (P := BodyI) rfl (store_grow _ _ _)
 · exact h4.same (P := BodyI) rfl (Grow.put _ (.d (by decide) (ha _)))
/-- what refers to a function -/
def refB (x : VI) : Bool := x.op == 101 || x.op == 103
theorem ins_callI {s : EmS} {l : List VI} (h : CallI s l) {a : AL} (ha : Ten a) (n k : Nat) (x : VI) (live : Nat → Bool) (hx : x.args.length ≤ 6) (ho : x.op ≠ 22) :
  CallI (s.ins a n k x live) (l ++ [x].filter refB) := by
 have g := ins_grow s ha n k x live hx ho
 by_cases h3 : x.op = 103
 · have hf : [x].filter refB = [x] := by simp [refB, h3]
   rw [hf]
   unfold EmS.ins
   rw [if_neg (by omega), if_neg (by omega), if_pos h3]
   exact (h.refer (op := 11) (d := targR a x.d) ⟨fun q => by omega, fun q => by omega⟩).same (save_calls _ _ _ _) (save_grow _ a _ _)
 · by_cases h1 : x.op = 101 ∨ x.op = 102
   · have hf : l ++ [x].filter refB = if x.op = 101 then l ++ [x] else l := by
      rcases h1 with h1 | h1 <;> simp [refB, h1]
     rw [hf]
     unfold EmS.ins
     rw [if_neg (by omega), if_pos h1]
     exact call_callI h ha n k x live hx h1
   · have hf : [x].filter refB = [] := by
      have : ¬ x.op = 101 := fun q => h1 (.inl q)
      simp [refB, h3, this]
     rw [hf, List.append_nil]
     refine h.same ?_ g
     unfold EmS.ins
     split
     · exact move_calls s a x
     · skip
       split
       · show EmS.calls ((s.fetch a x.a 11).fetch a x.b 12) = _
         rw [fetch_calls, fetch_calls]
       · dsimp only
         rw [save_calls]
         show EmS.calls (if _ then _ else _) = _
         split
         · show EmS.calls ((s.fetch a x.a 11).fetch a x.b 12) = _
           rw [fetch_calls, fetch_calls]
         · split
           · show EmS.calls ((s.fetch a x.a 11).fetch a x.b 12) = _
             rw [fetch_calls, fetch_calls]
           · rw [fetch_calls, fetch_calls]
theorem insL_callI {a : AL} (ha : Ten a) (n k : Nat) (live : Nat → Nat → Bool) : ∀ (m : List VI) (j : Nat) (s : EmS) (l : List VI), CallI s l → (∀ x ∈ m, x.args.length ≤ 6 ∧ x.op ≠ 22) →
  CallI (insL a n k live j m s) (l ++ m.filter refB)
 | [], _, s, l, h, _ => by unfold insL; rw [List.filter_nil, List.append_nil]; exact h
 | x :: m, j, s, l, h, hm => by
  unfold insL
  have hx := hm x (List.mem_cons_self ..)
  have := insL_callI ha n k live m (j + 1) _ _ (ins_callI h ha n k x (live j) hx.1 hx.2) fun y hy => hm y (List.mem_cons_of_mem _ hy)
  rw [List.append_assoc, ← List.filter_append] at this
  exact this
def App (s t : EmS) : Prop := ∃ l, t.items = s.items ++ l
theorem Grow.app {P : MI → Prop} {s t : EmS} (h : Grow P s t) : App s t := by
 obtain ⟨l, h, _⟩ := h
 exact ⟨l, h⟩
theorem App.trans {s t u : EmS} (h : App s t) (g : App t u) : App s u := by
 obtain ⟨l, h⟩ := h
 obtain ⟨m, g⟩ := g
 exact ⟨l ++ m, by rw [g, h, List.append_assoc]⟩
theorem App.grow {s t : EmS} (h : App s t) : Grow (fun _ => True) s t := by
 obtain ⟨l, h⟩ := h
 exact ⟨l, h, fun _ _ => trivial⟩
theorem put_app (s : EmS) (op d a b n : Int) : App s (s.put op d a b n) := ⟨_, rfl⟩
theorem jump_app (s : EmS) (op a b t : Int) : App s (s.jump op a b t) := ⟨_, rfl⟩
theorem fin_app (s : EmS) (a : AL) (size : Int) (i : Nat) (x : VE) : App s (s.fin a size i x) := by
 unfold EmS.fin
 split
 · refine App.trans (App.trans (App.trans ?_ (load_grow _ _ (by decide)).app) (put_app _ _ _ _ _ _)) (put_app _ _ _ _ _ _)
   split
   · exact (fetch_grow s a _ (by decide)).app
   · exact (fetch_grow s a _ (by decide)).app.trans (put_app _ _ _ _ _ _)
 · split
   · exact put_app _ _ _ _ _ _
   · split
     · dsimp only
       have g := ((fetch_grow s a x.a (t := 11) (by decide)).trans (fetch_grow _ a x.b (t := 12) (by decide))).app.trans (jump_app ((s.fetch a x.a 11).fetch a x.b 12) x.op (fetchR a x.a 11) (fetchR a x.b 12) (x.to.getD 0 0))
       split
       · exact g
       · exact g.trans (jump_app _ _ _ _ _)
     · split
       · exact ⟨[], (List.append_nil _).symm⟩
       · exact jump_app _ _ _ _ _
theorem enter_app {a : AL} (ha : Ten a) (s : EmS) (size : Int) (ps : List Int) : App s (s.enter a size ps) := by
 have h1 := parsI_grow ha ps 0 ((s.put 8 14 14 0 (-2 * size)).store (size - 1) 15)
 exact ((put_app _ _ _ _ _ _).trans (store_grow _ _ _).app).trans (h1.1.app.trans (moves_grow _ h1.2).app)
/-- the references of the blocks, in order -/
theorem blksI_callI {a : AL} (ha : Ten a) (n k : Nat) (size : Int) (ps : List Int) (live : Nat → Nat → Nat → Bool) : ∀ (m : List VB) (i : Nat) (s : EmS) (l : List VI), CallI s l →
  (∀ b ∈ m, ∀ x ∈ b.ins, x.args.length ≤ 6 ∧ x.op ≠ 22) → CallI (blksI a n k size ps live i m s) (l ++ m.flatMap fun b => b.ins.filter refB)
 | [], _, s, l, h, _ => by unfold blksI; rw [List.flatMap_nil, List.append_nil]; exact h
 | b :: m, i, s, l, h, hm => by
  unfold blksI
  have h1 : CallI (if i = 0 then s.begin.enter a size ps else s.begin) l := by
   have h0 : CallI s.begin l := h.same (P := BodyI) rfl (grow_items rfl)
   split
   · exact h0.same (enter_calls _ _ _ _) (enter_app ha _ size ps).grow
   · exact h0
  have h2 := insL_callI ha n k (live i) b.ins 0 _ l h1 (hm b (List.mem_cons_self ..))
  have h3 := h2.same (fin_calls _ a size i b.e) (fin_app _ a size i b.e).grow
  have := blksI_callI ha n k size ps live m (i + 1) _ _ h3 fun c hc => hm c (List.mem_cons_of_mem _ hc)
  rw [List.append_assoc, ← List.flatMap_cons (f := fun b : VB => b.ins.filter refB)] at this
  exact this
end

section
theorem pairsE_le {k : Int} : ∀ (rs ss : List Int), pairsE k rs ss = 0 → rs.length ≤ ss.length → ∀ r ∈ rs, r ≤ 10
 | [], _, _, _, r, h => nomatch h
 | x :: rs, [], _, hl, r, h => absurd hl (by simp)
 | x :: rs, s :: ss, he, hl, r, h => by
  unfold pairsE at he
  split at he
  · exact absurd he (by decide)
  · rename_i h1
    split at he
    · exact absurd he (by decide)
    · rcases List.mem_cons.mp h with h | h
      · rw [h]; omega
      · exact pairsE_le rs ss he (by simpa using hl) r h
theorem ten_of {f : VF} {a : AL} (h : allocE f a = 0) (hf : fnE f = 0) (hl : a.reg.length ≤ a.slot.length) : Ten a := by
 have hp : pairsE a.k a.reg a.slot = 0 := by
  unfold allocE at h
  rw [if_neg (by rw [hf]; decide)] at h
  split at h
  · exact absurd h (by decide)
  · split at h
    · exact absurd h (by decide)
    · exact h
 intro r
 unfold ofP
 split
 · decide
 · split
   · show a.reg.getD r.toNat 0 ≠ 14
     by_cases hr : r.toNat < a.reg.length
     · have := pairsE_le _ _ hp hl (a.reg.getD r.toNat 0) (by rw [List.getD_eq_getElem?_getD, List.getElem?_eq_getElem hr]; exact List.getElem_mem hr)
       omega
     · rw [List.getD_eq_getElem?_getD, List.getElem?_eq_none (by omega)]
       decide
   · split
     · show (-1 : Int) ≠ 14; decide
     · decide
end

section
def freeI (l : List (Int × Int)) : Option Nat := l.findIdx? fun y => !(l.any fun z => z.2 == y.1)
def brkI (x : Int × Int) (l : List (Int × Int)) : List (Int × Int) := l.map fun z => if z.2 = x.1 then (z.1, 13) else z
/-- the rounds that are left -/
def muI (l : List (Int × Int)) : Nat := 2 * l.length + (if l ≠ [] ∧ freeI l = none then 1 else 0)
theorem brkI_free {x : Int × Int} {l : List (Int × Int)} (h : x.1 ≠ 13) : freeI (brkI x (x :: l)) ≠ none := by
 intro h0
 have h1 := List.findIdx?_eq_none_iff.mp h0 (if x.2 = x.1 then (x.1, 13) else x) (by simp [brkI])
 have h2 : (if x.2 = x.1 then ((x.1, 13) : Int × Int) else x).1 = x.1 := by split <;> rfl
 rw [h2] at h1
 have h3 : (brkI x (x :: l)).any (fun z => z.2 == x.1) = true := by simpa using h1
 obtain ⟨z, hz, e⟩ := List.any_eq_true.mp h3
 obtain ⟨y, hy, rfl⟩ := List.mem_map.mp hz
 have e' := eq_of_beq e
 split at e'
 ·exact h e'.symm
 ·contradiction
theorem mvI_nil (f : Nat) (s : EmS) : mvI f [] s = s := by cases f <;> rfl
theorem mvI_free {f i : Nat} {x : Int × Int} {l : List (Int × Int)} {s : EmS} (h : freeI (x :: l) = some i) : mvI (f + 1) (x :: l) s = mvI f ((x :: l).eraseIdx i) (s.put 8 ((x :: l).getD i (0, 0)).1 ((x :: l).getD i (0, 0)).2 0 0) := by
 show (match freeI (x :: l) with | some i => _ | none => _) = _
 rw [h]
theorem mvI_stuck {f : Nat} {x : Int × Int} {l : List (Int × Int)} {s : EmS} (h : freeI (x :: l) = none) : mvI (f + 1) (x :: l) s = mvI f (brkI x (x :: l)) (s.put 8 13 x.1 0 0) := by
 show (match freeI (x :: l) with | some i => _ | none => _) = _
 rw [h]
 rfl
theorem muI_brk {x : Int × Int} {l : List (Int × Int)} (h : x.1 ≠ 13) (h2 : freeI (x :: l) = none) : muI (brkI x (x :: l)) + 1 = muI (x :: l) := by
 unfold muI
 rw [if_neg (fun h' => brkI_free h h'.2), if_pos ⟨by simp, h2⟩]
 simp [brkI]
theorem muI_erase {x : Int × Int} {l : List (Int × Int)} {i : Nat} (hi : i < (x :: l).length) (h2 : freeI (x :: l) = some i) : muI ((x :: l).eraseIdx i) + 1 ≤ muI (x :: l) := by
 unfold muI
 have := List.length_eraseIdx_of_lt hi
 simp only [List.length_cons] at *
 split <;> omega
theorem free_lt {l : List (Int × Int)} {i : Nat} (h : freeI l = some i) : i < l.length := (List.findIdx?_eq_some_iff_getElem.mp h).1
/-- enough fuel is enough -/
theorem mvI_fuel : ∀ (f f' : Nat) (l : List (Int × Int)) (s : EmS), muI l ≤ f → muI l ≤ f' → (∀ x ∈ l, x.1 ≠ 13) → mvI f l s = mvI f' l s
 | f, f', [], s, _, _, _ => by rw [mvI_nil, mvI_nil]
 | 0, f', x :: l, s, h, _, _ => by unfold muI at h; simp at h
 | f + 1, 0, x :: l, s, _, h, _ => by unfold muI at h; simp at h
 | f + 1, f' + 1, x :: l, s, h1, h2, hx => by
  cases hf : freeI (x :: l) with
  | none =>
   have := muI_brk (hx x (by simp)) hf
   rw [mvI_stuck hf, mvI_stuck hf]
   refine mvI_fuel f f' _ _ (by omega) (by omega) fun y hy => ?_
   obtain ⟨z, hz, rfl⟩ := List.mem_map.mp hy
   split
   ·exact hx z hz
   ·exact hx z hz
  | some i =>
   have := muI_erase (free_lt hf) hf
   rw [mvI_free hf, mvI_free hf]
   exact mvI_fuel f f' _ _ (by omega) (by omega) fun y hy => hx y (List.mem_of_mem_eraseIdx hy)
theorem moves_mu (s : EmS) {l : List (Int × Int)} (h : ∀ x ∈ l, x.1 ≠ 13) : s.moves l = mvI (muI (l.filter fun x => x.1 != x.2)) (l.filter fun x => x.1 != x.2) s := by
 refine mvI_fuel _ _ _ _ ?_ (Nat.le_refl _) fun x hx => h x ((List.mem_filter.mp hx).1)
 unfold muI
 have := List.length_filter_le (fun x : Int × Int => x.1 != x.2) l
 split <;> omega
/-- how much is written -/
def EmS.tot (s : EmS) : Nat := s.items.length + s.calls.length + s.maps.length + s.starts.length + s.jumps.length
theorem put_tot (s : EmS) (op d a b n : Int) : (s.put op d a b n).tot = s.tot + 1 := by simp [EmS.put, EmS.tot]; omega
theorem load_tot (s : EmS) (a b : Int) : (s.load a b).tot = s.tot + 1 := put_tot ..
theorem store_tot (s : EmS) (a b : Int) : (s.store a b).tot = s.tot + 1 := put_tot ..
theorem jump_tot (s : EmS) (op a b k : Int) : (s.jump op a b k).tot = s.tot + 2 := by simp [EmS.jump, EmS.put, EmS.tot]; omega
theorem refer_tot (s : EmS) (k : Int) : (s.refer k).tot = s.tot + 1 := by simp [EmS.refer, EmS.tot]; omega
theorem keep_tot (s : EmS) (a : AL) (n k i : Nat) (b : Bool) (l : Nat → Bool) (m : Nat) : (s.keep a n k i b l m).tot = s.tot + 1 := by simp [EmS.keep, EmS.tot]; omega
theorem fetch_tot (s : EmS) (a : AL) (r t : Int) : (s.fetch a r t).tot ≤ s.tot + 1 := by
 unfold EmS.fetch
 split
 ·omega
 ·rw [load_tot]; omega
theorem save_tot (s : EmS) (a : AL) (r t : Int) : (s.save a r t).tot ≤ s.tot + 1 := by
 unfold EmS.save
 split
 ·rw [store_tot]; omega
 ·omega
theorem mvI_tot : ∀ (f : Nat) (l : List (Int × Int)) (s : EmS), (mvI f l s).tot ≤ s.tot + f
 | 0, _, s => by unfold mvI; omega
 | _ + 1, [], s => by unfold mvI; omega
 | f + 1, x :: l, s => by
  unfold mvI
  split
  ·refine Nat.le_trans (mvI_tot f _ _) ?_
   rw [put_tot]; omega
  ·refine Nat.le_trans (mvI_tot f _ _) ?_
   rw [put_tot]; omega
theorem moves_tot (s : EmS) (l : List (Int × Int)) : (s.moves l).tot ≤ s.tot + (2 * l.length + 1) := mvI_tot ..
theorem parsI_tot (a : AL) : ∀ (i : Nat) (l : List Int) (s : EmS), (parsI a i l s).1.tot ≤ s.tot + l.length ∧ (parsI a i l s).2.length ≤ l.length
 | i, [], s => by simp [parsI]
 | i, r :: rs, s => by
  unfold parsI
  split
  ·have := parsI_tot a (i + 1) rs (s.store (ofP a r).2 (i + 1))
   rw [store_tot] at this
   simp only [List.length_cons]; omega
  ·split
   ·have := parsI_tot a (i + 1) rs s
    simp only [List.length_cons]; omega
   ·have := parsI_tot a (i + 1) rs s
    simp only [List.length_cons]; omega
theorem enter_tot (s : EmS) (a : AL) (k : Int) (l : List Int) : (s.enter a k l).tot ≤ s.tot + 3 * l.length + 3 := by
 unfold EmS.enter
 have h := parsI_tot a 0 l ((s.put 8 14 14 0 (-2 * k)).store (k - 1) 15)
 rw [store_tot, put_tot] at h
 refine Nat.le_trans (moves_tot _ _) ?_
 omega
theorem regArgs_len (a : AL) : ∀ (i : Nat) (l : List Int), (regArgs a i l).length ≤ l.length
 | i, [] => by simp [regArgs]
 | i, r :: rs => by
  have := regArgs_len a (i + 1) rs
  unfold regArgs
  split <;> simp only [List.length_cons] <;> omega
theorem slotArgs_tot (a : AL) : ∀ (i : Nat) (l : List Int) (s : EmS), (slotArgs a i l s).tot ≤ s.tot + l.length
 | i, [], s => by simp [slotArgs]
 | i, r :: rs, s => by
  unfold slotArgs
  refine Nat.le_trans (slotArgs_tot a (i + 1) rs _) ?_
  split <;> simp only [List.length_cons, load_tot] <;> omega
theorem args_tot (s : EmS) (a : AL) (l : List Int) : (s.args a l).tot ≤ s.tot + 3 * l.length + 1 := by
 unfold EmS.args
 refine Nat.le_trans (slotArgs_tot _ _ _ _) ?_
 have h := moves_tot s (regArgs a 0 l)
 have h2 := regArgs_len a 0 l
 omega
theorem call_tot (s : EmS) (a : AL) (n k : Nat) (x : VI) (l : Nat → Bool) : (s.call a n k x l).tot ≤ s.tot + 3 * x.args.length + 10 := by
 have h1 : (if x.op = 102 then (if fetchR a x.a 12 = 12 then s.fetch a x.a 12 else (s.fetch a x.a 12).put 8 12 (fetchR a x.a 12) 0 0) else s).tot ≤ s.tot + 2 := by
  have := fetch_tot s a x.a 12
  split
  ·split
   ·omega
   ·rw [put_tot]; omega
  ·omega
 unfold EmS.call
 dsimp only
 generalize (if x.op = 102 then (if fetchR a x.a 12 = 12 then s.fetch a x.a 12 else (s.fetch a x.a 12).put 8 12 (fetchR a x.a 12) 0 0) else s) = s1 at h1 ⊢
 have h2 := args_tot s1 a x.args
 generalize s1.args a x.args = s2 at h2 ⊢
 have h3 : (if x.op = 102 then s2.put 21 0 12 0 0 else (s2.refer x.n).put 20 0 0 0 0).tot ≤ s2.tot + 2 := by
  split
  ·rw [put_tot]; omega
  ·rw [put_tot, refer_tot]; omega
 generalize (if x.op = 102 then s2.put 21 0 12 0 0 else (s2.refer x.n).put 20 0 0 0 0) = s3 at h3 ⊢
 have h4 := keep_tot s3 a n k s2.items.length true l 0
 generalize s3.keep a n k s2.items.length true l 0 = s4 at h4 ⊢
 split
 ·rw [store_tot]; omega
 ·rw [put_tot]; omega
theorem ins_tot (s : EmS) (a : AL) (n k : Nat) (x : VI) (l : Nat → Bool) : (s.ins a n k x l).tot ≤ s.tot + 3 * x.args.length + 10 := by
 unfold EmS.ins
 have f1 := fetch_tot s a x.a 11
 have f2 := fetch_tot (s.fetch a x.a 11) a x.b 12
 split
 ·unfold EmS.move
  split
  ·split
   ·omega
   ·rw [store_tot, load_tot]; omega
  ·split
   ·rw [store_tot]; omega
   ·split
    ·rw [load_tot]; omega
    ·split
     ·omega
     ·rw [put_tot]; omega
 ·split
  ·exact call_tot s a n k x l
  ·split
   ·refine Nat.le_trans (save_tot _ _ _ _) ?_
    rw [put_tot, refer_tot]; omega
   ·split
    ·rw [put_tot]; omega
    ·refine Nat.le_trans (save_tot _ _ _ _) ?_
     rw [put_tot]
     split
     ·rw [keep_tot]; omega
     ·split
      ·rw [keep_tot]; omega
      ·omega
theorem fin_tot (s : EmS) (a : AL) (k : Int) (i : Nat) (x : VE) : (s.fin a k i x).tot ≤ s.tot + 6 := by
 unfold EmS.fin
 have f0 := fetch_tot s a x.a 1
 have f1 := fetch_tot s a x.a 11
 have f2 := fetch_tot (s.fetch a x.a 11) a x.b 12
 split
 ·rw [put_tot, put_tot, load_tot]
  split
  ·omega
  ·rw [put_tot]; omega
 ·split
  ·rw [put_tot]; omega
  ·split
   ·have h : (((s.fetch a x.a 11).fetch a x.b 12).jump x.op (fetchR a x.a 11) (fetchR a x.b 12) (x.to.getD 0 0)).tot ≤ s.tot + 4 := by rw [jump_tot]; omega
    split
    ·exact Nat.le_trans h (by omega)
    ·rw [jump_tot]; omega
   ·split
    ·omega
    ·rw [jump_tot]; omega
end
end Go.Proofs.YtdnpoomagjcpfaaGreat
