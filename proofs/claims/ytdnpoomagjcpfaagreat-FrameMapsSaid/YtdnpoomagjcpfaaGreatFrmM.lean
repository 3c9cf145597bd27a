/- The stack maps that frame.Emit writes. No function of the program is walked. -/
import Derived.Test.YtdnpoomagjcpfaaGreatFrmAll
namespace Go.Proofs.YtdnpoomagjcpfaaGreat
open Go.RowKit
set_option linter.unusedVariables false
set_option linter.unusedSimpArgs false

theorem fetch_maps (s : EmS) (a : AL) (r t : Int) : (s.fetch a r t).maps = s.maps := by unfold EmS.fetch; split <;> rfl
theorem save_maps (s : EmS) (a : AL) (r t : Int) : (s.save a r t).maps = s.maps := by unfold EmS.save; split <;> rfl
theorem mvI_maps : ∀ (f : Nat) (l : List (Int × Int)) (s : EmS), (mvI f l s).maps = s.maps
 | 0, _, s => by unfold mvI; rfl
 | _ + 1, [], s => by unfold mvI; rfl
 | f + 1, x :: l, s => by
  unfold mvI
  split
  · rw [mvI_maps f]; rfl
  · rw [mvI_maps f]; rfl
theorem moves_maps (s : EmS) (l : List (Int × Int)) : (s.moves l).maps = s.maps := mvI_maps _ _ _
theorem slotArgs_maps (a : AL) : ∀ (rs : List Int) (i : Nat) (s : EmS), (slotArgs a i rs s).maps = s.maps
 | [], _, s => by unfold slotArgs; rfl
 | r :: rs, i, s => by
  unfold slotArgs
  rw [slotArgs_maps a rs]
  split <;> rfl
theorem args_maps (s : EmS) (a : AL) (rs : List Int) : (s.args a rs).maps = s.maps := by
 unfold EmS.args
 rw [slotArgs_maps, moves_maps]
theorem parsI_maps (a : AL) : ∀ (ps : List Int) (i : Nat) (s : EmS), (parsI a i ps s).1.maps = s.maps
 | [], _, s => by unfold parsI; rfl
 | r :: rs, i, s => by
  unfold parsI
  split
  · rw [parsI_maps a rs]; rfl
  · split
    · exact parsI_maps a rs _ _
    · exact parsI_maps a rs _ _
theorem enter_maps (s : EmS) (a : AL) (size : Int) (ps : List Int) : (s.enter a size ps).maps = s.maps := by
 unfold EmS.enter
 rw [moves_maps, parsI_maps]
 rfl
theorem move_maps (s : EmS) (a : AL) (x : VI) : (s.move a x).maps = s.maps := by
 unfold EmS.move
 split
 · split <;> rfl
 · split
   · rfl
   · split
     · rfl
     · split <;> rfl
theorem fin_maps (s : EmS) (a : AL) (size : Int) (i : Nat) (x : VE) : (s.fin a size i x).maps = s.maps := by
 unfold EmS.fin
 split
 · show EmS.maps (if _ then _ else _) = _
   split
   · exact fetch_maps _ _ _ _
   · exact fetch_maps _ _ _ _
 · split
   · rfl
   · split
     · dsimp only
       split
       · show EmS.maps ((s.fetch a x.a 11).fetch a x.b 12) = _
         rw [fetch_maps, fetch_maps]
       · show EmS.maps ((s.fetch a x.a 11).fetch a x.b 12) = _
         rw [fetch_maps, fetch_maps]
     · split <;> rfl

/-- an instruction that asks for a stack map -/
def mapB (x : VI) : Bool := x.op == 101 || x.op == 102 || x.op == 14 || x.op == 15
/-- the stack map of an instruction -/
def MapI (a : AL) (n k : Nat) (x : VI) (live : Nat → Bool) (m : MP) : Prop :=
 ∃ item more, m = mapP a n k item (x.op == 101 || x.op == 102) live more ∧ (x.op ≠ 15 → more = 0)
theorem call_maps (s : EmS) (a : AL) (n k : Nat) (x : VI) (live : Nat → Bool) : ∃ item, (s.call a n k x live).maps = s.maps ++ [mapP a n k item true live 0] := by
 unfold EmS.call
 dsimp only
 have h1 : (if x.op = 102 then (if fetchR a x.a 12 = 12 then s.fetch a x.a 12 else (s.fetch a x.a 12).put 8 12 (fetchR a x.a 12) 0 0) else s).maps = s.maps := by
  split
  · split
    · exact fetch_maps _ _ _ _
    · exact fetch_maps s a x.a 12
  · rfl
 generalize (if x.op = 102 then (if fetchR a x.a 12 = 12 then s.fetch a x.a 12 else (s.fetch a x.a 12).put 8 12 (fetchR a x.a 12) 0 0) else s) = s1 at h1 ⊢
 have h2 := args_maps s1 a x.args
 generalize s1.args a x.args = s2 at h2 ⊢
 have h3 : (if x.op = 102 then s2.put 21 0 12 0 0 else (s2.refer x.n).put 20 0 0 0 0).maps = s2.maps := by
  split <;> rfl
 generalize (if x.op = 102 then s2.put 21 0 12 0 0 else (s2.refer x.n).put 20 0 0 0 0) = s3 at h3 ⊢
 refine ⟨s2.items.length, ?_⟩
 have h4 : (s3.keep a n k s2.items.length true live 0).maps = s3.maps ++ [mapP a n k s2.items.length true live 0] := rfl
 rw [h3, h2, h1] at h4
 split
 · exact h4
 · exact h4
theorem ins_maps (s : EmS) (a : AL) (n k : Nat) (x : VI) (live : Nat → Bool) :
  if mapB x = true then ∃ m, (s.ins a n k x live).maps = s.maps ++ [m] ∧ MapI a n k x live m else (s.ins a n k x live).maps = s.maps := by
 have hF : ((s.fetch a x.a 11).fetch a x.b 12).maps = s.maps := by rw [fetch_maps, fetch_maps]
 by_cases h1 : x.op = 101 ∨ x.op = 102
 · have hb : mapB x = true := by rcases h1 with h | h <;> simp [mapB, h]
   have hc : (x.op == 101 || x.op == 102) = true := by rcases h1 with h | h <;> simp [h]
   rw [if_pos hb]
   obtain ⟨it, h⟩ := call_maps s a n k x live
   refine ⟨_, ?_, it, 0, rfl, fun _ => rfl⟩
   rw [hc]
   unfold EmS.ins
   rw [if_neg (by omega), if_pos h1]
   exact h
 · have hc : (x.op == 101 || x.op == 102) = false := by simp; omega
   by_cases h2 : x.op = 14 ∨ x.op = 15
   · have hb : mapB x = true := by rcases h2 with h | h <;> simp [mapB, h]
     rw [if_pos hb]
     unfold EmS.ins
     rw [if_neg (by omega), if_neg h1, if_neg (by omega), if_neg (by omega)]
     dsimp only
     rcases h2 with h | h
     · rw [if_pos h]
       refine ⟨_, ?_, ((s.fetch a x.a 11).fetch a x.b 12).items.length, 0, rfl, fun _ => rfl⟩
       rw [save_maps, hc]
       show _ ++ [_] = _
       rw [hF]
     · rw [if_neg (by omega), if_pos h]
       refine ⟨_, ?_, ((s.fetch a x.a 11).fetch a x.b 12).items.length, (1 <<< (fetchR a x.b 12).toNat &&& ((1 <<< (fetchR a x.b 12).toNat) ^^^ 1)), rfl, fun q => absurd h q⟩
       rw [save_maps, hc]
       show _ ++ [_] = _
       rw [hF]
   · have hb : ¬ mapB x = true := by simp [mapB]; omega
     rw [if_neg hb]
     unfold EmS.ins
     split
     · exact move_maps s a x
     · split
       · exact save_maps _ _ _ _
       · split
         · exact hF
         · dsimp only
           rw [if_neg (by omega), if_neg (by omega), save_maps]
           exact hF
/-- the stack maps are those of the list, in order -/
def MapsI (a : AL) (n k : Nat) (ms : List MP) (l : List (VI × (Nat → Bool))) : Prop :=
 ms.length = l.length ∧ ∀ (j : Nat) (m : MP) (p : VI × (Nat → Bool)), ms[j]? = some m → l[j]? = some p → MapI a n k p.1 p.2 m
theorem MapsI.snoc {a : AL} {n k : Nat} {ms : List MP} {l : List (VI × (Nat → Bool))} (h : MapsI a n k ms l) {m : MP} {p : VI × (Nat → Bool)} (hm : MapI a n k p.1 p.2 m) : MapsI a n k (ms ++ [m]) (l ++ [p]) := by
 refine ⟨by rw [List.length_append, List.length_append, h.1]; rfl, fun j m' p' h1 h2 => ?_⟩
 by_cases hj : j < ms.length
 · rw [List.getElem?_append_left hj] at h1
   rw [List.getElem?_append_left (by rw [← h.1]; exact hj)] at h2
   exact h.2 j m' p' h1 h2
 · rw [List.getElem?_append_right (by omega)] at h1
   rw [List.getElem?_append_right (by rw [← h.1]; omega)] at h2
   rw [List.mem_singleton.mp (List.mem_of_getElem? h1), List.mem_singleton.mp (List.mem_of_getElem? h2)]
   exact hm
/-- the instructions that ask for a stack map, with what lives after them -/
def insP (live : Nat → Nat → Bool) : Nat → List VI → List (VI × (Nat → Bool))
 | _, [] => []
 | j, x :: l => if mapB x = true then (x, live j) :: insP live (j + 1) l else insP live (j + 1) l
def blksP (live : Nat → Nat → Nat → Bool) : Nat → List VB → List (VI × (Nat → Bool))
 | _, [] => []
 | i, b :: l => insP (live i) 0 b.ins ++ blksP live (i + 1) l
theorem insL_maps {a : AL} (n k : Nat) (live : Nat → Nat → Bool) : ∀ (m : List VI) (j : Nat) (s : EmS) (l : List (VI × (Nat → Bool))), MapsI a n k s.maps l →
  MapsI a n k (insL a n k live j m s).maps (l ++ insP live j m)
 | [], _, s, l, h => by unfold insL insP; rw [List.append_nil]; exact h
 | x :: m, j, s, l, h => by
  unfold insL insP
  have hx := ins_maps s a n k x (live j)
  by_cases hb : mapB x = true
  · rw [if_pos hb] at hx ⊢
    obtain ⟨q, h1, h2⟩ := hx
    have := insL_maps n k live m (j + 1) (s.ins a n k x (live j)) (l ++ [(x, live j)]) (by rw [h1]; exact h.snoc h2)
    rw [List.append_assoc] at this
    exact this
  · rw [if_neg hb] at hx ⊢
    exact insL_maps n k live m (j + 1) _ l (by rw [hx]; exact h)
/-- the stack maps of the blocks, in order -/
theorem blksI_maps {a : AL} (n k : Nat) (size : Int) (ps : List Int) (live : Nat → Nat → Nat → Bool) : ∀ (m : List VB) (i : Nat) (s : EmS) (l : List (VI × (Nat → Bool))), MapsI a n k s.maps l →
  MapsI a n k (blksI a n k size ps live i m s).maps (l ++ blksP live i m)
 | [], _, s, l, h => by unfold blksI blksP; rw [List.append_nil]; exact h
 | b :: m, i, s, l, h => by
  unfold blksI blksP
  have h1 : (if i = 0 then s.begin.enter a size ps else s.begin).maps = s.maps := by
   split
   · exact enter_maps _ _ _ _
   · rfl
  have h2 := insL_maps n k (live i) b.ins 0 (if i = 0 then s.begin.enter a size ps else s.begin) l (by rw [h1]; exact h)
  have := blksI_maps n k size ps live m (i + 1) (s.block a n k size ps i b (live i)) (l ++ insP (live i) 0 b.ins) (by
   unfold EmS.block
   rw [fin_maps]
   exact h2)
  rw [List.append_assoc] at this
  exact this
end Go.Proofs.YtdnpoomagjcpfaaGreat
