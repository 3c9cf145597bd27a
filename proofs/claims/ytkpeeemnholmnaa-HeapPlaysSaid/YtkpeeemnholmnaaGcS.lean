/- The contract of move.scan. -/
import Derived.Test.YtkpeeemnholmnaaGcV
namespace Go.Proofs.Ytkpeeemnholmnaa
open Go.RowKit Go.Maps
set_option linter.unusedVariables false
set_option linter.unusedSimpArgs false

section
variable {m0 : Nat → Int}
theorem tot_split (cp : List Nat) {n : Nat} (hn : n < cp.length) : tot m0 cp = tot m0 (cp.take n) + osz m0 cp[n] + tot m0 (cp.drop (n + 1)) := by
  have e : cp = cp.take n ++ cp[n] :: cp.drop (n + 1) := by rw [List.getElem_cons_drop, List.take_append_drop]
  have h := congrArg (tot m0) e
  rw [tot_append] at h
  rw [h]
  show _ + (osz m0 cp[n] + _) = _
  omega
theorem tot_succ (cp : List Nat) {n : Nat} (hn : n < cp.length) : tot m0 (cp.take (n + 1)) = tot m0 (cp.take n) + osz m0 cp[n] := by
  rw [List.take_succ_eq_append_getElem hn, tot_append]
  rfl
theorem addr_take {b : Nat} {cp : List Nat} (hnd : cp.Nodup) {n : Nat} (hn : n < cp.length) : addrC m0 b cp cp[n] = b + tot m0 (cp.take n) := by
  have e : cp = (cp.take n ++ [cp[n]]) ++ cp.drop (n + 1) := by rw [List.append_assoc, List.singleton_append, List.getElem_cons_drop, List.take_append_drop]
  have hni : cp[n] ∉ cp.take n := by
    intro h
    obtain ⟨k, hk, he⟩ := List.getElem_of_mem h
    rw [List.getElem_take] at he
    rw [List.length_take] at hk
    have := (List.getElem_inj hnd).1 he
    omega
  have h2 : addrC m0 b ((cp.take n ++ [cp[n]]) ++ cp.drop (n + 1)) cp[n] = b + tot m0 (cp.take n) := by
    rw [addrC_old (List.mem_append_right _ (by simp)), addrC_new hni]
  rwa [← e] at h2
end

/-- the fields of the first n copies have been forwarded -/
def Scanned (m0 : Nat → Int) (b : Nat) (cp : List Nat) (d : Nat → Bool) (n : Nat) : Prop := ∀ j ∈ cp.take n, ∀ t, 1 ≤ t → t < osz m0 j → d (addrC m0 b cp j + t) = true
/-- the room is used up -/
def FullS (q kb p mb : Nat) (rv : Value) (S : HS) (b L : Nat) (Src : List Nat) (w : World) : Prop := MvFull w q kb p mb rv S b L ∧ L < b + tot S.m Src
structure ScanI (q kb p mb : Nat) (rv : Value) (S : HS) (yo : Bool) (L b : Nat) (Src cp0 : List Nat) (d0 : Nat → Bool) (w : World) (cp : List Nat) (d : Nat → Bool) (n top : Nat) : Prop where
  ext : ∃ l, cp = cp0 ++ l
  gc : Gc S.m Src b L cp d
  st : MvSt w q kb p mb rv S yo L b cp d
  le : n ≤ cp.length
  up : ∀ i, d0 i = true → d i = true
  dn : ∀ i, d i = true → d0 i = true ∨ (b ≤ i ∧ i < top)
  sc : Scanned S.m b cp d n
def ScanPost (q kb p mb : Nat) (rv : Value) (S : HS) (yo : Bool) (L b : Nat) (Src cp0 : List Nat) (d0 : Nat → Bool) (w : World) (e : Ending) (w' : World) : Prop :=
  e = .returned (.tuple #[]) ∧ Fr3 q kb mb w w' ∧ ((∃ cp d, ScanI q kb p mb rv S yo L b Src cp0 d0 w' cp d cp.length (b + tot S.m cp)) ∨ FullS q kb p mb rv S b L Src w')
def ScanR (q kb p mb : Nat) (rv : Value) (S : HS) (yo : Bool) (L b : Nat) (Src cp0 : List Nat) (d0 : Nat → Bool) (i : Nat) (w : World) : Prop :=
  (∃ cp d n, i = b + tot S.m (cp.take n) ∧ ScanI q kb p mb rv S yo L b Src cp0 d0 w cp d n i) ∨ FullS q kb p mb rv S b L Src w
def ScanR2 (q kb p mb : Nat) (rv : Value) (S : HS) (yo : Bool) (L b : Nat) (Src cp0 : List Nat) (d0 : Nat → Bool) (i s t : Nat) (w : World) : Prop :=
  (∃ cp d n, i = b + tot S.m (cp.take n) ∧ ScanI q kb p mb rv S yo L b Src cp0 d0 w cp d n (i + t) ∧ ∃ h : n < cp.length, s = hsize (S.m cp[n]) ∧ ∀ t', 1 ≤ t' → t' < t → d (i + t') = true) ∨ FullS q kb p mb rv S b L Src w
def KeepQ (q p : Nat) (w w' : World) : Prop := w'.cell? ⟨q, 0, none⟩ = w.cell? ⟨q, 0, none⟩ ∧ w'.heap[p]? = w.heap[p]?
instance (q p : Nat) : PreR (KeepQ q p) := ⟨fun w => ⟨rfl, rfl⟩, fun h k => ⟨k.1.trans h.1, k.2.trans h.2⟩⟩
theorem mv_cell0 {w : World} {q kb p mb : Nat} {rv : Value} {S : HS} {yo : Bool} {L b : Nat} {cp : List Nat} {d : Nat → Bool} (h : MvSt w q kb p mb rv S yo L b cp d) : w.cell? ⟨q, 0, none⟩ = some (.pointer (some ⟨p, 0, none⟩)) := h.st.cell 0
theorem full_cell0 {w : World} {q kb p mb : Nat} {rv : Value} {S : HS} {b L : Nat} (h : MvFull w q kb p mb rv S b L) : w.cell? ⟨q, 0, none⟩ = some (.pointer (some ⟨p, 0, none⟩)) := by
  obtain ⟨fr, _, yo, h1⟩ := h.st
  exact h1.cell 0
/-- a field has been forwarded -/
theorem MvSt.field {w : World} {q kb p mb : Nat} {rv : Value} {S : HS} {yo : Bool} {L b : Nat} {Src cp : List Nat} {d : Nat → Bool} (h : MvSt w q kb p mb rv S yo L b cp d) (hg : Gc S.m Src b L cp d) {k : Nat} {v : Int} (hk : k < b + tot S.m cp) (hs : ∀ j ∈ Src, ∀ t, t < osz S.m j → j + t ≠ k)
    (hr : rawC S.m b cp k = v) (hc : ∀ j ∈ Src, v = 2 * (j : Int) → j ∈ cp) : MvSt (w.setCell ⟨mb, k, none⟩ (.int .i64 (fwdC S.m b cp v))) q kb p mb rv S yo L b cp (setd d k) ∧ Gc S.m Src b L cp (setd d k) := by
  obtain ⟨h1, h2⟩ := hg.mark hk hs (by rw [hr]; exact hc)
  refine ⟨⟨h.st.setOther (a := ⟨mb, k, none⟩) h.n3 _, h.mp.keep (Below.heap_setCell _ _ _ _ h.n5), ?_, h.n1, h.n2, h.n3, h.n4, h.n5, h.n6, h.n7⟩, h1⟩
  have h3 := h.hp.setM k (fwdC S.m b cp v)
  have e : (fun j => if j = k then fwdC S.m b cp v else memC S.m b cp d j) = memC S.m b cp (setd d k) := by
    funext i
    rw [h2 i, hr]
  simp only [e] at h3
  exact h3
theorem MvFull.field {w : World} {q kb p mb : Nat} {rv : Value} {S : HS} {b L : Nat} (h : MvFull w q kb p mb rv S b L) {k : Nat} (v : Int) (hk : b ≤ k ∧ k < L) : MvFull (w.setCell ⟨mb, k, none⟩ (.int .i64 v)) q kb p mb rv S b L := by
  obtain ⟨⟨fr, h0, y, h1⟩, ⟨m', h2, h3⟩, h4, h5, h6⟩ := h
  refine ⟨⟨fr, h0, y, h1.setOther (a := ⟨mb, k, none⟩) h5 _⟩, ⟨_, h2.setM k v, fun i hi => ?_⟩, h4, h5, h6⟩
  show (if i = k then v else m' i) = _
  rw [if_neg (by omega)]
  exact h3 i hi

section
variable {q kb p mb : Nat} {rv : Value} {S : HS} {yo : Bool} {L b : Nat} {Src cp0 : List Nat} {d0 : Nat → Bool} {i s t : Nat} {w w' : World}
theorem ScanI.later {cp : List Nat} {d : Nat → Bool} {n top : Nat} (h : ScanI q kb p mb rv S yo L b Src cp0 d0 w cp d n top) (hb : Below w.heap.size w w') : ScanI q kb p mb rv S yo L b Src cp0 d0 w' cp d n top :=
  ⟨h.ext, h.gc, h.st.later hb, h.le, h.up, h.dn, h.sc⟩
theorem ScanR2.later (h : ScanR2 q kb p mb rv S yo L b Src cp0 d0 i s t w) (hb : Below w.heap.size w w') : ScanR2 q kb p mb rv S yo L b Src cp0 d0 i s t w' := by
  rcases h with ⟨cp, d, n, h1, h2, h3⟩ | h
  · exact .inl ⟨cp, d, n, h1, h2.later hb, h3⟩
  · exact .inr ⟨h.1.later hb, h.2⟩
theorem ScanR2.base (h : ScanR2 q kb p mb rv S yo L b Src cp0 d0 i s t w) : w.cell? ⟨q, 0, none⟩ = some (.pointer (some ⟨p, 0, none⟩)) ∧ w.cell? ⟨p, 0, none⟩ = some (.slice (some ⟨mb, 0, none⟩) S.n S.n) ∧ p < w.heap.size ∧ p ≠ q ∧ p ≠ mb ∧ q ≠ mb := by
  rcases h with ⟨cp, d, n, h1, h2, h3⟩ | h
  · exact ⟨mv_cell0 h2.st, h2.st.hp.cells.c0, h2.st.hp.st.lt, Ne.symm h2.st.n2, h2.st.hp.d1, h2.st.n3⟩
  · obtain ⟨h, _⟩ := h
    obtain ⟨m', h2, _⟩ := h.hp
    exact ⟨full_cell0 h, h2.cells.c0, h2.st.lt, Ne.symm h.n2, h2.d1, h.n3⟩
def StepPost (q kb p mb : Nat) (rv : Value) (S : HS) (yo : Bool) (L b : Nat) (Src cp0 : List Nat) (d0 : Nat → Bool) (i s t : Nat) (w : World) (e : Ending) (w' : World) : Prop :=
  ∃ y, e = .returned (.int .i64 y) ∧ Fr3 q kb mb w w' ∧ w'.cell? ⟨q, 0, none⟩ = w.cell? ⟨q, 0, none⟩ ∧ w'.heap[p]? = w.heap[p]? ∧ (∃ z, w'.cell? ⟨mb, i + t, none⟩ = some z) ∧ w'.frozen? ⟨mb, i + t, none⟩ = false ∧ ScanR2 q kb p mb rv S yo L b Src cp0 d0 i s (t + 1) (w'.setCell ⟨mb, i + t, none⟩ (.int .i64 y))
theorem scan_step (h : ScanR2 q kb p mb rv S yo L b Src cp0 d0 i s t w) (ok : S.Ok) (hL : L ≤ S.stack) (hyo : yo = true → ∀ j ∈ Src, j < S.nursery) (hob : ∀ j ∈ Src, ObjAt S j) (hfd : (∀ i, d0 i = true → b ≤ i) ∨ b + tot S.m Src ≤ L) (hd0 : ∀ i, d0 i = true → i < b)
    (hgood : ∀ j ∈ Src, ∀ t, 1 ≤ t → t ≤ hsize (S.m j) → GoodV Src yo S.nursery (S.m (j + t))) (ht : 1 ≤ t ∧ t ≤ s) (hi : b ≤ i ∧ i + s + 1 ≤ L) :
    ∃ x, w.cell? ⟨mb, i + t, none⟩ = some (.int .i64 x) ∧ Calls Try.prog 28 #[.pointer (some ⟨q, 0, none⟩), .int .i64 x] w (StepPost q kb p mb rv S yo L b Src cp0 d0 i s t w) := by
  have hsn : S.stack ≤ S.n := ok.st
  rcases h with ⟨cp, d, n, h1, h2, hlt, h3, h4⟩ | h
  · have hjc : cp[n] ∈ cp := List.getElem_mem hlt
    have hjS := h2.gc.sub _ hjc
    have had := addr_take (m0 := S.m) (b := b) h2.gc.nd hlt
    rw [← h1] at had
    have hto : t < osz S.m cp[n] := by unfold osz; omega
    have hcb := addrC_bd (m0 := S.m) (b := b) hjc
    have hlim := h2.gc.lim
    have hdf : d (i + t) = false := by
      rw [← Bool.not_eq_true]
      intro e
      rcases h2.dn _ e with e | e
      · have := hd0 _ e; omega
      · omega
    have hrw := h2.gc.copied hjc hto
    rw [had] at hrw
    have hmem := h2.gc.free hdf
    rw [hrw] at hmem
    refine ⟨S.m (cp[n] + t), ?_, ?_⟩
    · have := h2.st.hp.word (i := i + t) (by show i + t < S.n; omega)
      simp only [hmem] at this
      exact this
    · refine (value_ok w q kb p mb rv S yo L b Src cp d h2.st ok h2.gc hL hyo hob (hfd.imp_left fun hf k hk => ?_) _ (hgood _ hjS t ht.1 (by omega))).mono ?_
      · rcases h2.dn _ hk with e | e
        · exact hf _ e
        · omega
      · rintro e w' ⟨hfr, ⟨cp', ⟨l, rfl⟩, hg', hst', hcl', rfl⟩ | ⟨hov, hfull, rfl⟩⟩
        · have hjc' : cp[n] ∈ cp ++ l := List.mem_append_left _ hjc
          have had' : addrC S.m b (cp ++ l) cp[n] = i := by rw [addrC_old hjc, had]
          have hrw' := hg'.copied hjc' hto
          rw [had'] at hrw'
          have hcb' := addrC_bd (m0 := S.m) (b := b) hjc'
          rw [had'] at hcb'
          have hlim' := hg'.lim
          obtain ⟨h5, h6⟩ := hst'.field hg' (k := i + t) (by omega) (fun j hj u hu e => by have := ((hg'.sep j hj).2 u hu).2; omega) hrw' hcl'
          refine ⟨_, rfl, hfr, (mv_cell0 hst').trans (mv_cell0 h2.st).symm, hfr.block p h2.st.hp.st.lt (Ne.symm h2.st.n2) (Ne.symm h2.st.n4) h2.st.hp.d1, ⟨_, hst'.hp.word (i := i + t) (by show i + t < S.n; omega)⟩, hst'.hp.mm.free (i + t), .inl ⟨cp ++ l, setd d (i + t), n, ?_, ⟨?_, h6, h5, ?_, fun k hk => setd_true.2 (.inl (h2.up k hk)), fun k hk => ?_, fun j hj u hu1 hu2 => ?_⟩, ?_⟩⟩
          · rw [h1, List.take_append_of_le_length (by omega)]
          · obtain ⟨l0, rfl⟩ := h2.ext
            exact ⟨l0 ++ l, by simp⟩
          · rw [List.length_append]; omega
          · rcases setd_true.1 hk with e | rfl
            · rcases h2.dn k e with e | e
              · exact .inl e
              · exact .inr (by omega)
            · exact .inr (by omega)
          · rw [List.take_append_of_le_length (by omega)] at hj
            rw [addrC_old (List.mem_of_mem_take hj)]
            exact setd_true.2 (.inl (h2.sc j hj u hu1 hu2))
          · refine ⟨by rw [List.length_append]; omega, ?_, fun u hu1 hu2 => ?_⟩
            · rw [List.getElem_append_left hlt]; exact h3
            · by_cases e : u = t
              · subst e; exact setd_true.2 (.inr rfl)
              · exact setd_true.2 (.inl (h4 u hu1 (by omega)))
        · obtain ⟨m', h7, h8⟩ := hfull.hp
          exact ⟨_, rfl, hfr, (full_cell0 hfull).trans (mv_cell0 h2.st).symm, hfr.block p h2.st.hp.st.lt (Ne.symm h2.st.n2) (Ne.symm h2.st.n4) h2.st.hp.d1, ⟨_, h7.word (i := i + t) (by show i + t < S.n; omega)⟩, h7.mm.free (i + t), .inr ⟨hfull.field _ (by omega), hov⟩⟩
  · obtain ⟨h, hov⟩ := h
    obtain ⟨m', h7, h8⟩ := h.hp
    refine ⟨m' (i + t), h7.word (i := i + t) (by show i + t < S.n; omega), (value_isfull w q kb p mb rv S b L h _).mono ?_⟩
    rintro e w' ⟨rfl, rfl⟩
    exact ⟨_, rfl, Fr3.refl _ _ _ _, rfl, rfl, ⟨_, h7.word (i := i + t) (by show i + t < S.n; omega)⟩, h7.mm.free (i + t), .inr ⟨h.field _ (by omega), hov⟩⟩
end

set_option maxRecDepth 100000 in
set_option maxHeartbeats 8000000 in
theorem scan_ok (w : World) (q kb p mb : Nat) (rv : Value) (S : HS) (yo : Bool) (L b : Nat) (Src cp0 : List Nat) (d0 : Nat → Bool) (h : MvSt w q kb p mb rv S yo L b cp0 d0) (ok : S.Ok) (hg : Gc S.m Src b L cp0 d0) (hL : L ≤ S.stack)
    (hyo : yo = true → ∀ j ∈ Src, j < S.nursery) (hob : ∀ j ∈ Src, ObjAt S j) (hfd : (∀ i, d0 i = true → b ≤ i) ∨ b + tot S.m Src ≤ L) (hd0 : ∀ i, d0 i = true → i < b) (hgood : ∀ j ∈ Src, ∀ t, 1 ≤ t → t ≤ hsize (S.m j) → GoodV Src yo S.nursery (S.m (j + t))) :
    Calls Try.prog 29 #[.pointer (some ⟨q, 0, none⟩), .int .i64 (b : Int)] w (ScanPost q kb p mb rv S yo L b Src cp0 d0 w) := by
  have hn16 : S.n ≤ 65536 := ok.n.2
  have hsn : S.stack ≤ S.n := ok.st
  have HST0 : Hid (ScanR q kb p mb rv S yo L b Src cp0 d0 b w) := .inl ⟨cp0, d0, 0, by simp [tot], ⟨⟨[], by simp⟩, hg, h, Nat.zero_le _, fun i hi => hi, fun i hi => .inl hi, fun j hj => by simp at hj⟩⟩
  have HOK := Lib.hid ok
  have HYO := Lib.hid hyo
  have HOB := Lib.hid hob
  have HFD := Lib.hid hfd
  have HD0 := Lib.hid hd0
  have HGD := Lib.hid hgood
  have hbL : b ≤ L := by have := hg.lim; omega
  clear h hg ok hyo hob hfd hd0 hgood
  go_enter Try.func29, Try.ntmps29
  go_wp2_with fail
  go_loopw [1] (fun iv wr => ∃ i : Nat, iv = .int .i64 (i : Int) ∧ i ≤ 70000 ∧ Fr3 q kb mb w wr ∧ ScanR q kb p mb rv S yo L b Src cp0 d0 i wr) (fun iv _ => 70001 - (intOf iv).toNat)
  case atStart => exact ⟨b, rfl, by omega, Fr3.refl _ _ _ _, HST0.out⟩
  case round =>
    obtain ⟨i, rfl, hi7, hfr, hsr⟩ := hrel
    clear HST0
    have HFR := Lib.hid hfr
    clear hfr
    rcases hsr with ⟨cp, d, n, hin, hs⟩ | hfull
    · have c1 := hs.st.st.cell 1
      have c5 := hs.st.st.cell 5
      have c0 := hs.st.st.cell 0
      simp only [List.getElem?_cons_zero, List.getElem?_cons_succ] at c0 c1 c5
      have hlim := hs.gc.lim
      obtain ⟨F, hF⟩ : ∃ F, F = b + tot S.m cp := ⟨_, rfl⟩
      rw [← hF] at c1 hlim
      by_cases hlt : n < cp.length
      · have hsp := tot_split (m0 := S.m) cp hlt
        have hjc : cp[n] ∈ cp := List.getElem_mem hlt
        have hjS := hs.gc.sub _ hjc
        have had := addr_take (m0 := S.m) (b := b) hs.gc.nd hlt
        rw [← hin] at had
        have hcb := addrC_bd (m0 := S.m) (b := b) hjc
        rw [had, ← hF] at hcb
        have hop := osz_pos (m0 := S.m) cp[n]
        have hhd := (HOB.out _ hjS).1
        have hmi : memC S.m b cp d i = S.m cp[n] := by
          have hr := hs.gc.copied hjc (t := 0) (by omega)
          rw [Nat.add_zero, Nat.add_zero, had] at hr
          unfold memC
          rw [hr]
          split
          · exact fwdC_odd hhd.1
          · rfl
        have hw := hs.st.hp.word (i := i) (by show i < S.n; omega)
        simp only [hmi] at hw
        have hp0 := hs.st.hp.cells.c0
        simp only at hp0
        have hsp2 := isHdr_split hhd
        have hc := hsize_cast (S.m cp[n])
        have HSP := fun w => split_any (S.m cp[n]) w
        rw [hsp2, ← hc] at HSP
        have hbd := hsize_bd (S.m cp[n])
        obtain ⟨s, hs2⟩ : ∃ s, s = hsize (S.m cp[n]) := ⟨_, rfl⟩
        rw [← hs2] at HSP hbd
        have hoe : osz S.m cp[n] = s + 1 := by unfold osz; rw [hs2]
        have hiF : i < F := by omega
        have hisL : i + s + 1 ≤ L := by omega
        have hib : b ≤ i := hcb.1
        have HR1 : Hid (ScanR2 q kb p mb rv S yo L b Src cp0 d0 i s 1 wr) := .inl ⟨cp, d, n, hin, ⟨hs.ext, hs.gc, hs.st, hs.le, hs.up, fun k hk => (hs.dn k hk).imp_right (fun h => by omega), hs.sc⟩, hlt, hs2, fun u h1 h2 => by omega⟩
        obtain ⟨v, hv⟩ : ∃ v, v = S.m cp[n] := ⟨_, rfl⟩
        rw [← hv] at hw HSP
        clear hs2 hoe hcb hop hhd hmi hsp hjc hjS had hs hsp2 hc hF hv hin
        have HSPL := fun w => Lib.hid (HSP w)
        clear HSP
        go_wp2_with fail
        refine (HSPL _).out.mono ?_
        rintro e w' ⟨rfl, hw'⟩
        rw [← hw']
        clear hw' w' HSPL c0 c1 c5 hp0 hw
        go_wp2_with fail
        go_loopw [7] (fun kv wi => ∃ t : Nat, kv = .int .i64 ((i : Int) + (t : Int)) ∧ 1 ≤ t ∧ t ≤ s + 1 ∧ Fr3 q kb mb w wi ∧ ScanR2 q kb p mb rv S yo L b Src cp0 d0 i s t wi) (fun kv _ => i + s + 1 - (intOf kv).toNat)
        case atStart => exact ⟨1, by go_num, by omega, by omega, HFR.out, HR1.out⟩
        case round =>
          clear HR1 HFR
          obtain ⟨t, rfl, ht1, ht2, hfr2, hsr2⟩ := hrel
          have HF2 := Lib.hid hfr2
          have HR2 := Lib.hid hsr2
          clear hfr2 hsr2
          by_cases hts : t ≤ s
          · obtain ⟨x, hx, hcall⟩ := scan_step (HR2.out.later ((Below.refl _ _).drew)) HOK.out hL HYO.out HOB.out HFD.out HD0.out HGD.out ⟨ht1, hts⟩ ⟨hib, hisL⟩
            have HCALL := Lib.hid hcall
            have hti : (t : Int) ≤ (s : Int) := by omega
            obtain ⟨q0, p0, hpl, hpq, hpm, hqm⟩ := HR2.out.base
            have HX := Lib.hid hx
            clear hcall hx
            go_wp2_with fail
            obtain ⟨w5, hw5⟩ : ∃ w5, w5 = wr := ⟨_, rfl⟩
            rw [← hw5] at HF2 HR2 HCALL HX q0 p0 hpl ⊢
            clear hw5
            have r0 : ∀ x : AfterR (KeepQ q p) w5.drew, x.world.cell? ⟨q, 0, none⟩ = some (.pointer (some ⟨p, 0, none⟩)) := fun x => x.rel.1.trans q0
            have r1 : ∀ x : AfterR (KeepQ q p) w5.drew, x.world.cell? ⟨p, 0, none⟩ = some (.slice (some ⟨mb, 0, none⟩) S.n S.n) := fun x => (World.cell?_of_block (a := ⟨p, 0, none⟩) x.rel.2).trans p0
            have hidx : i + t < S.n := by omega
            refine wp_region_eagerR (KeepQ q p) [(0, true), (1, true), (2, true), (3, true), (4, true), (5, true), (6, true), (7, true), (8, true), (9, true), (10, true), (11, true), (12, true), (13, true), (14, true), (15, true), (16, true), (17, true), (18, false), (19, false), (20, true), (21, false)] (by kernel_rfl) (by kernel_rfl) ?_
            repeat (refine eagR_read rfl ?_; go_big_quiet_step (fail); refine wpQuiet_nil ?_)
            clear r0 r1 q0 p0
            refine eagR_does rfl rfl ?_
            intro K hK
            have hx : w5.drew.cell? ⟨mb, i + t, none⟩ = some (.int .i64 x) := HX.out
            go_simp
            refine hK _ _ ⟨rfl, rfl⟩ ?_
            clear hK K hx HX
            go_simp
            refine eagR_does rfl rfl ?_
            intro K hK
            go_simp
            refine HCALL.out.mono ?_
            rintro e w6 ⟨y, rfl, hf6, hq6, hp6, ⟨z6, hz6⟩, hfz6, hr6⟩
            refine hK _ _ ⟨hq6, hp6⟩ ?_
            clear hK K hq6 hp6
            have HF6 := Lib.hid ((HF2.out.trans (Fr3.of_below ((Below.refl _ _).drew))).trans (hf6.trans (Fr3.set (a := ⟨mb, i + t, none⟩) (.inr rfl) (.int .i64 y))))
            have HR6 := Lib.hid hr6
            have hKK : KeepQ q p w6 (w6.setCell ⟨mb, i + t, none⟩ (.int .i64 y)) := ⟨World.cell?_of_block (a := ⟨q, 0, none⟩) (Below.heap_setCell _ _ _ _ hqm), Below.heap_setCell _ _ _ _ hpm⟩
            have HKK := Lib.hid hKK
            clear hf6 hr6 hKK HF2 HR2 HCALL
            go_simp
            repeat (refine eagR_read rfl ?_; go_big_quiet_step (fail); refine wpQuiet_nil ?_)
            refine eagR_does rfl rfl ?_
            intro K hK
            go_simp
            refine hK _ _ HKK.out ?_
            clear hK K HKK hz6 hfz6
            go_simp
            refine eagR_end ?_
            go_wp2_with fail
            go_roundw
            case rel => exact ⟨t + 1, by go_num, by omega, by omega, HF6.out, HR6.out⟩
            case measure => simp [intOf]; omega
          · obtain rfl : t = s + 1 := by omega
            have hni : ¬ ((s : Int) + 1 ≤ (s : Int)) := by omega
            have HSR : Hid (ScanR q kb p mb rv S yo L b Src cp0 d0 (i + (s + 1)) wr) := by
              rcases HR2.out with ⟨cp, d, n, h1, h2, hlt, h3, h4⟩ | hf
              · have had := addr_take (m0 := S.m) (b := b) h2.gc.nd hlt
                rw [← h1] at had
                have hosz : osz S.m cp[n] = s + 1 := by unfold osz; rw [h3]
                refine .inl ⟨cp, d, n + 1, ?_, ⟨h2.ext, h2.gc, h2.st, hlt, h2.up, h2.dn, fun j hj u hu1 hu2 => ?_⟩⟩
                · rw [tot_succ cp hlt, hosz, h1]; omega
                · rw [List.take_succ_eq_append_getElem hlt] at hj
                  rcases List.mem_append.1 hj with hj | hj
                  · exact h2.sc j hj u hu1 hu2
                  · simp at hj
                    subst hj
                    rw [had]
                    exact h4 u hu1 (by omega)
              · exact .inr hf
            clear HR2
            go_wp2_with fail
            go_roundw
            case rel => exact ⟨i + (s + 1), by go_num, by omega, HF2.out, HSR.out⟩
            case measure => simp [intOf]; omega
      · have hne : n = cp.length := by have := hs.le; omega
        have hiF : ¬ i < F := by rw [hin, hF, hne, List.take_length]; omega
        have HEND : Hid (ScanPost q kb p mb rv S yo L b Src cp0 d0 w (.returned (.tuple #[])) wr) := by
          refine ⟨rfl, HFR.out, .inl ⟨cp, d, hs.ext, hs.gc, hs.st, Nat.le_refl _, hs.up, fun k hk => (hs.dn k hk).imp_right fun h => ?_, by rw [← hne]; exact hs.sc⟩⟩
          rw [hin, hne, List.take_length] at h
          exact h
        clear hs hin hF hne HFR
        go_wp2_with fail
        go_end0
        exact HEND.out
    · obtain ⟨fr, hfr, yo2, h1⟩ := hfull.1.st
      have c1 := h1.cell 1
      have c5 := h1.cell 5
      simp only [List.getElem?_cons_zero, List.getElem?_cons_succ] at c1 c5
      have HFULL := Lib.hid hfull
      clear h1 hfull
      by_cases hlt : i < fr
      all_goals
        go_wp2_with fail
        go_end0
        exact ⟨rfl, HFR.out, .inr HFULL.out⟩
end Go.Proofs.Ytkpeeemnholmnaa
