/- Accepted's closure 'good': each used register is held by its place. Accepted's memory, and what its list of states says. No function of the program is walked. -/
import Derived.Test.YtlaogkbdjkofaaaAccRef
import Derived.Test.YtlaogkbdjkofaaaBase
namespace Go.Proofs.Ytlaogkbdjkofaaa
open Go.RowKit
set_option linter.unusedVariables false
set_option linter.unusedSimpArgs false

def aC (a : AL) : List Value := [.slice a.ra a.rn a.rc, .slice a.sa a.sn a.sc, .int .i64 a.k]
theorem blk_range {w : World} {b : Nat} {t : TypeId} {cs : List Value} (h : Blk w b t cs) : w.rangeAt b 0 cs := by
  intro j v hv
  rw [Blk.cell h (0 + j), Nat.zero_add]
  exact hv
set_option maxRecDepth 100000 in
set_option maxHeartbeats 8000000 in
theorem good_any (w : World) (wb ab : Nat) (a : AL) (ha : a.Ok w) (wa : Option Addr) (wl wc0 : Nat) (zs : List (Int × Int)) (h : Came w wa wl wc0 2 (zs.map wpC)) (hn : wl ≤ 400000) (hwb : Blk w wb 89 [.slice wa wl wc0]) (hab : Blk w ab 27 (aC a))
    (n m : Nat) (ga : a.Good n m) (la : Option Addr) (ll lc : Nat) (l : List Int) (hl : Came w la ll lc 1 (l.map intCells)) (hlr : ∀ r ∈ l, 0 ≤ r ∧ r < n) :
    Calls Try.prog 52 #[.slice la ll lc, .pointer (some ⟨wb, 0, none⟩), .pointer (some ⟨ab, 0, none⟩)] w (UsedPost (goodW a zs l) w) := by
  have hll : l.length = ll := by simpa using hl.count
  have hle := hl.le
  have hmx := hl.max
  have H0 := Lib.hid h
  have HA := Lib.hid ha
  have HWB := Lib.hid hwb
  have HAB := Lib.hid hab
  have HL := Lib.hid hl
  have HF := Lib.hid ga
  have HLL := Lib.hid hll
  have HLR := Lib.hid hlr
  obtain ⟨res, hres⟩ : ∃ x, x = goodW a zs l := ⟨_, rfl⟩
  rw [← hres]
  have HRES := Lib.hid hres
  have HS3 : Hid ((Try.prog.info? 27).map (·.size) = some 3) := by unfold Hid; kernel_rfl
  clear h ha hwb hab hl ga hres hll hlr
  go_enter Try.func52, Try.ntmps52
  go_wp2_with fail
  go_loopw [9] (fun u wr => ∃ (k : Nat), k ≤ ll ∧ u = .int .i64 (k : Int) ∧ Below w.heap.size w wr ∧ goodW a zs (l.take k) = true) (fun u _ => ll - (intOf u).toNat)
  case atStart => exact ⟨0, Nat.zero_le _, rfl, Below.refl _ _, by simp [goodW]⟩
  case round =>
    obtain ⟨k, hk, rfl, hbe, hall⟩ := hrel
    have HBE := Lib.hid hbe
    have HALL := Lib.hid hall
    clear hbe hall
    by_cases hlt : k < ll
    · obtain ⟨b', off, ea, _, hcell⟩ := (HL.out.below HBE.out).ints (by omega)
      subst ea
      have hkl : k < l.length := by have := HLL.out; omega
      have cl := hcell k hkl
      have HT := Lib.hid (List.take_succ_eq_append_getElem hkl)
      have hr := HLR.out _ (List.getElem_mem hkl)
      obtain ⟨r, hre⟩ : ∃ r, r = l[k] := ⟨_, rfl⟩
      rw [← hre] at HT hr cl
      have HST : Hid ((r == 0 || decide ((plc 100 a r.toNat, r) ∈ zs)) = true → goodW a zs (l.take (k + 1)) = true) := fun h => by
        have h2 := HALL.out
        rw [HT.out]
        unfold goodW at h2 ⊢
        rw [List.all_append, h2]
        simpa using h
      have HNO : Hid ((r == 0 || decide ((plc 100 a r.toNat, r) ∈ zs)) = false → res = false) := fun h => by
        rw [HRES.out, ← Bool.not_eq_true]
        intro hx
        unfold goodW at hx
        have h9 := HT.out
        have := List.all_eq_true.1 hx r (List.mem_of_mem_take (i := k + 1) (by rw [h9]; simp))
        rw [h] at this
        cases this
      clear hcell hre
      obtain ⟨rn, rfl⟩ : ∃ rn : Nat, r = (rn : Int) := ⟨r.toNat, by omega⟩
      by_cases hr0 : rn = 0
      · have q1 : ((rn : Int) != 0) = false := by simp [hr0]
        have HN : Hid (goodW a zs (l.take (k + 1)) = true) := HST.out (by simp [hr0])
        clear hr0
        have HBD : Hid (Below w.heap.size w wr.drew) := HBE.out.drew
        go_upto_region 4 with fail
        refine wp_region_eager w.heap.size [(0, true), (1, true), (2, true), (3, true), (4, true), (5, true), (7, true), (6, false), (8, false), (9, true), (10, true)] (by kernel_rfl) (by kernel_rfl) ?_
        generalize wr.drew = wd at HBD ⊢
        repeat (refine eag_read rfl ?_; go_big_quiet_step (fail); refine wpQuiet_nil ?_)
        refine eag_skip rfl rfl ?_
        go_simp
        refine eag_skip rfl rfl ?_
        go_simp
        repeat (refine eag_read rfl ?_; go_big_quiet_step (fail); refine wpQuiet_nil ?_)
        refine eag_end ?_
        go_wp2_with fail
        go_roundw
        case rel => exact ⟨k + 1, by omega, by go_num, HBD.out, HN.out⟩
        case measure => simp [intOf]; omega
      · have q1 : ((rn : Int) != 0) = true := by simp [hr0]
        have hrn : rn < n := by omega
        have HSP := fun wz (hz : Below w.heap.size w wz) => Lib.hid (spot_any wz a (HA.out.below hz) rn (by rw [HF.out.fit.rn]; exact hrn) (by rw [HF.out.fit.sn]; exact hrn) HF.out.fit.sl)
        obtain ⟨sp, hsp⟩ : ∃ sp, sp = plc 100 a rn := ⟨_, rfl⟩
        rw [← hsp] at HSP
        have HWH := fun wz (hz : Below w.heap.size w wz) => Lib.hid (wholds_any wz wa wl wc0 zs (H0.out.below hz) (by omega) sp (rn : Int))
        obtain ⟨bb, hbb⟩ : ∃ bb, bb = decide ((sp, (rn : Int)) ∈ zs) := ⟨_, rfl⟩
        rw [← hbb] at HWH
        have HBB : Hid ((((rn : Int) == 0) || decide ((plc 100 a (rn : Int).toNat, (rn : Int)) ∈ zs)) = bb) := by
          show _ = _
          rw [hbb, hsp]
          have : ((rn : Int) == 0) = false := by simp [hr0]
          rw [this]; rfl
        unfold AL.v at HSP
        clear hsp hbb hr0
        obtain ⟨wd, hwd⟩ : ∃ wd, wd = wr.drew := ⟨_, rfl⟩
        have hbd : Below w.heap.size w wd := by rw [hwd]; exact HBE.out.drew
        have hrd : Below wr.heap.size wr wd := by rw [hwd]; exact (Below.refl _ _).drew
        have hsz := hbd.size
        have w0c := HWB.out.cell 0
        simp only [List.getElem?_cons_zero] at w0c
        have hmidr : ∀ w', (∃ z : After w.heap.size wd, w' = z.world) → w'.rangeAt ab 0 [.slice a.ra a.rn a.rc, .slice a.sa a.sn a.sc, .int .i64 a.k] := by
          rintro _ ⟨z, rfl⟩
          exact blk_range (Blk.below HAB.out (hbd.trans z.below) (Blk.lt HAB.out))
        have HMR := Lib.hid hmidr
        have r2 := fun z : After w.heap.size wd => (z.below.cell (p := ⟨wb, 0, none⟩) (Blk.lt HWB.out)).trans ((hbd.cell (p := ⟨wb, 0, none⟩) (Blk.lt HWB.out)).trans w0c)
        clear hmidr w0c
        go_upto_region 4 with fail
        refine wp_region_eager w.heap.size [(0, true), (1, true), (2, true), (3, true), (4, true), (5, true), (7, true), (6, false), (8, false), (9, true), (10, true)] (by kernel_rfl) (by kernel_rfl) ?_
        rw [← hwd]
        clear hwd
        iterate 4 (refine eag_read rfl ?_; go_big_quiet_step (fail); refine wpQuiet_nil ?_)
        refine eag_read rfl ?_
        refine loadMid rfl 27 _ rfl ab 0 rfl [.slice a.ra a.rn a.rc, .slice a.sa a.sn a.sc, .int .i64 a.k] _ HMR.out Try.underlying27 rfl HS3.out ?_
        go_simp
        repeat (refine eag_read rfl ?_; go_big_quiet_step (fail); refine wpQuiet_nil ?_)
        clear r2
        refine eag_does rfl rfl ?_
        intro K hK
        go_simp
        refine (HSP wd hbd).out.mono ?_
        rintro e w5 ⟨rfl, hb5⟩
        refine hK _ _ (hb5.mono hsz) ?_
        clear hK K
        have HB5 := Lib.hid (hbd.trans (hb5.mono hsz))
        go_simp
        refine eag_does rfl rfl ?_
        intro K hK
        go_simp
        refine (HWH w5 HB5.out).out.mono ?_
        rintro e w6 ⟨rfl, hb6⟩
        refine hK _ _ (hb6.mono HB5.out.size) ?_
        clear hK K
        have HB6 := Lib.hid (HB5.out.trans (hb6.mono HB5.out.size))
        clear hb5 hb6 hbd hrd HSP HWH
        go_simp
        cases bb with
        | true =>
          have HN : Hid (goodW a zs (l.take (k + 1)) = true) := HST.out HBB.out
          repeat (refine eag_read rfl ?_; go_big_quiet_step (fail); refine wpQuiet_nil ?_)
          refine eag_end ?_
          go_wp2_with fail
          go_roundw
          case rel => exact ⟨k + 1, by omega, by go_num, HB6.out, HN.out⟩
          case measure => simp [intOf]; omega
        | false =>
          have HN : Hid (res = false) := HNO.out HBB.out
          repeat (refine eag_read rfl ?_; go_big_quiet_step (fail); refine wpQuiet_nil ?_)
          refine eag_end ?_
          go_wp2_with fail
          go_ret
          exact ⟨ret_bool HN.out.symm, HB6.out⟩
    · have ek : l.take k = l := List.take_of_length_le (by have := HLL.out; omega)
      rw [ek] at HALL
      have HN : Hid (res = true) := by show _ = _; rw [HRES.out]; exact HALL.out
      clear ek
      go_wp2_with fail
      go_ret
      exact ⟨ret_bool HN.out.symm, HBE.out⟩

/-- a row of pairs that stands -/
def PRow (w : World) (a : Option Addr) (c : Nat) (zs : List (Int × Int)) : Prop := w.ownsRow 0 41 2 (.slice a zs.length c) zs.length (zs.flatMap wpC)
theorem PRow.came {w : World} {a : Option Addr} {c : Nat} {zs : List (Int × Int)} (h : PRow w a c zs) : Came w a zs.length c 2 (zs.map wpC) := by
  obtain ⟨a', c', e, hc⟩ := came_ofN (E := wpC) (by decide : 0 < 2) (fun _ => rfl) rfl h
  injection e with e1 _ e3
  subst e1 e3
  exact hc
theorem PRow.below {w w' : World} {a : Option Addr} {c : Nat} {zs : List (Int × Int)} (h : PRow w a c zs) (hb : Below w.heap.size w w') : PRow w' a c zs := ownG_below h hb
/-- blocks of integers only -/
def IntB (w : World) (T : Nat → Prop) : Prop := ∀ k, T k → ∃ cur, w.heap[k]? = some (.cells cur 3 (0, 0))
theorem IntB.own {w : World} {base k : Nat} {v : Value} {l : List Value} (h : w.ownsRow base 3 1 v k l) : IntB w (fun k => v.ownBlock = some k) := fun k hk => own_blkTy h hk
theorem IntB.noBlk {w : World} {T : Nat → Prop} (h : IntB w T) {b : Nat} {t : TypeId} {cs : List Value} (hb : Blk w b t cs) (hne : t ≠ 3) : ¬ T b := fun hT => by
  obtain ⟨cur, h1⟩ := h b hT
  have h2 : w.heap[b]? = _ := hb
  rw [h1] at h2
  injection h2 with h2
  injection h2 with _ h2 _
  exact hne h2.symm
theorem IntB.noOwn {w : World} {T : Nat → Prop} (h : IntB w T) {base size k : Nat} {e : TypeId} {v : Value} {l : List Value} (ho : w.ownsRow base e size v k l) (hne : e ≠ 3) : ∀ g, v.ownBlock = some g → ¬ T g := fun g hg hT => by
  obtain ⟨cur, h1⟩ := h g hT
  obtain ⟨cur', h2⟩ := own_blkTy ho hg
  rw [h1] at h2
  injection h2 with h2
  injection h2 with _ h2 _
  exact hne h2.symm
theorem PRow.rest {w w' : World} {T : Nat → Prop} {a : Option Addr} {c : Nat} {zs : List (Int × Int)} (h : PRow w a c zs) (hr : RestS T w w') (hT : IntB w T) : PRow w' a c zs :=
  ownG_kept h fun g hg => hr.block g (h.lt g hg).2 (hT.noOwn h (by decide) g hg)
theorem PRow.other {w : World} {a : Option Addr} {c : Nat} {zs : List (Int × Int)} (h : PRow w a c zs) {b : Nat} {t : TypeId} {cs : List Value} (hb : Blk w b t cs) (hne : 41 ≠ t) (j : Nat) (v : Value) : PRow (w.setCell ⟨b, j, none⟩ v) a c zs :=
  ownG_other (a := ⟨b, j, none⟩) h (blk_noOwn hb h hne) v
/-- one listed state -/
structure SE where
  (blk : Nat) (sa : Option Addr) (sc : Nat) (zs : List (Int × Int))
def SE.p (e : SE) : Nat × List (Int × Int) := (e.blk, e.zs)
def seC (e : SE) : List Value := [.int .i64 (e.blk : Int), .slice e.sa e.zs.length e.sc]
/-- Accepted's memory -/
structure AllI (w0 w : World) (pf pa : Nat) (f : VF) (a : AL) (all : List SE) (v : Value) : Prop where
  be : Below w0.heap.size w0 w
  bf : Blk w pf 25 (fC f)
  ba : Blk w pa 27 (aC a)
  own : w.ownsRow w0.heap.size 92 2 v all.length (all.flatMap seC)
  rows : ∀ e ∈ all, PRow w e.sa e.sc e.zs
section
variable {w0 w w' : World} {pf pa : Nat} {f : VF} {a : AL} {all : List SE} {v : Value}
theorem AllI.below (h : AllI w0 w pf pa f a all v) (hb : Below w.heap.size w w') : AllI w0 w' pf pa f a all v :=
  ⟨h.be.trans (hb.mono h.be.size), h.bf.below hb h.bf.lt, h.ba.below hb h.ba.lt, ownG_below h.own hb, fun e he => (h.rows e he).below hb⟩
theorem AllI.rest {T : Nat → Prop} (h : AllI w0 w pf pa f a all v) (hr : RestS T w w') (hT : IntB w T) (hlo : ∀ k, T k → w0.heap.size ≤ k) : AllI w0 w' pf pa f a all v :=
  ⟨h.be.trans (hr.toBelow hlo h.be.size), Blk.of_heap h.bf (hr.block _ (Blk.lt h.bf) (hT.noBlk h.bf (by decide))), Blk.of_heap h.ba (hr.block _ (Blk.lt h.ba) (hT.noBlk h.ba (by decide))),
    ownG_kept h.own fun g hg => hr.block g (h.own.lt g hg).2 (hT.noOwn h.own (by decide) g hg), fun e he => (h.rows e he).rest hr hT⟩
theorem AllI.other (h : AllI w0 w pf pa f a all v) {b : Nat} {cs : List Value} (hb : Blk w b 89 cs) (hlo : w0.heap.size ≤ b) (j : Nat) (u : Value) : AllI w0 (w.setCell ⟨b, j, none⟩ u) pf pa f a all v := by
  have hne : ∀ {q : Nat} {t : TypeId} {cs' : List Value}, Blk w q t cs' → t ≠ 89 → q ≠ b := fun hq ht e => by
    subst e
    have h1 : w.heap[_]? = _ := hq
    have h2 : w.heap[_]? = _ := hb
    rw [h1] at h2
    injection h2 with h2
    injection h2 with _ h2 _
    exact ht h2
  exact ⟨h.be.setCell (p := ⟨b, j, none⟩) hlo _, Blk.setOther h.bf (a := ⟨b, j, none⟩) (hne h.bf (by decide)) _, Blk.setOther h.ba (a := ⟨b, j, none⟩) (hne h.ba (by decide)) _,
    ownG_other (a := ⟨b, j, none⟩) h.own (blk_noOwn hb h.own (by decide)) u, fun e he => (h.rows e he).other hb (by decide) j u⟩
theorem AllI.grow {e : SE} {v' : Value} (h : AllI w0 w pf pa f a all v) (he : PRow w e.sa e.sc e.zs) (hown : w'.ownsRow w0.heap.size 92 2 v' (all ++ [e]).length ((all ++ [e]).flatMap seC)) (hgr : w.grownBy w' v.ownBlock) : AllI w0 w' pf pa f a (all ++ [e]) v' := by
  have hr := RestS.ofGrown hgr
  have hp : ∀ {x : SE}, PRow w x.sa x.sc x.zs → PRow w' x.sa x.sc x.zs := fun hx => ownG_kept hx fun g hg => hr.block g (hx.lt g hg).2 (fun e => own_tyN hx h.own (by decide) g hg e)
  refine ⟨h.be.trans (hr.toBelow (fun k e => (h.own.lt k e).1) h.be.size), Blk.of_heap h.bf (hr.block _ (Blk.lt h.bf) (blk_noOwn h.bf h.own (by decide))), Blk.of_heap h.ba (hr.block _ (Blk.lt h.ba) (blk_noOwn h.ba h.own (by decide))), hown, fun x hx => ?_⟩
  rcases List.mem_append.1 hx with hx | hx
  · exact hp (h.rows x hx)
  · simp at hx; subst hx; exact hp he
end
theorem came_ses {w : World} {B : Nat} {v : Value} {all : List SE} (h : w.ownsRow B 92 2 v all.length (all.flatMap seC)) : ∃ va vc, v = .slice va all.length vc ∧ all.length ≤ vc ∧ vc ≤ 9223372036854775807 ∧
    ∀ k (hk : k < all.length), ∃ g off, va = some ⟨g, off, none⟩ ∧ w.cell? ⟨g, off + k * 2, none⟩ = some (.int .i64 (all[k].blk : Int)) ∧ w.cell? ⟨g, off + k * 2 + 1, none⟩ = some (.slice all[k].sa all[k].zs.length all[k].sc) := by
  obtain ⟨va, vc, rfl, hc⟩ := came_ofN (E := seC) (by decide : 0 < 2) (fun _ => rfl) rfl h
  refine ⟨va, vc, rfl, hc.le, hc.max, fun k hk => ?_⟩
  obtain ⟨b, off, ha, hb, hcc⟩ := hc.cells (by omega) (by omega)
  have hv : (all.map seC)[k]? = some (seC all[k]) := by rw [List.getElem?_map, List.getElem?_eq_getElem hk]; rfl
  exact ⟨b, off, ha, hcc k _ hv 0 (by omega), hcc k _ hv 1 (by omega)⟩
/-- what stands while a listed state is followed -/
structure BlkI (w0 w : World) (pf pa : Nat) (f : VF) (a : AL) (all : List SE) (v : Value) (bb wb : Nat) (b : VB) (sa : Option Addr) (sc : Nat) (zs : List (Int × Int)) : Prop where
  ai : AllI w0 w pf pa f a all v
  bbox : Blk w bb 63 (vbC b)
  wbox : Blk w wb 89 [.slice sa zs.length sc]
  wlo : w0.heap.size ≤ wb
  row : PRow w sa sc zs
section
variable {w0 w w' : World} {pf pa : Nat} {f : VF} {a : AL} {all : List SE} {v : Value} {bb wb : Nat} {b : VB} {sa : Option Addr} {sc : Nat} {zs : List (Int × Int)}
theorem BlkI.below (h : BlkI w0 w pf pa f a all v bb wb b sa sc zs) (hb : Below w.heap.size w w') : BlkI w0 w' pf pa f a all v bb wb b sa sc zs :=
  ⟨h.ai.below hb, h.bbox.below hb h.bbox.lt, h.wbox.below hb h.wbox.lt, h.wlo, h.row.below hb⟩
theorem BlkI.rest {T : Nat → Prop} (h : BlkI w0 w pf pa f a all v bb wb b sa sc zs) (hr : RestS T w w') (hT : IntB w T) (hlo : ∀ k, T k → w0.heap.size ≤ k) : BlkI w0 w' pf pa f a all v bb wb b sa sc zs :=
  ⟨h.ai.rest hr hT hlo, Blk.of_heap h.bbox (hr.block _ (Blk.lt h.bbox) (hT.noBlk h.bbox (by decide))), Blk.of_heap h.wbox (hr.block _ (Blk.lt h.wbox) (hT.noBlk h.wbox (by decide))), h.wlo, h.row.rest hr hT⟩
theorem BlkI.store {sa' : Option Addr} {sc' : Nat} {zs' : List (Int × Int)} (h : BlkI w0 w pf pa f a all v bb wb b sa sc zs) (hp : PRow w sa' sc' zs') : BlkI w0 (w.setCell ⟨wb, 0, none⟩ (.slice sa' zs'.length sc')) pf pa f a all v bb wb b sa' sc' zs' := by
  refine ⟨h.ai.other h.wbox h.wlo 0 _, Blk.setOther h.bbox (a := ⟨wb, 0, none⟩) (fun e => ?_) _, ?_, h.wlo, hp.other h.wbox (by decide) 0 _⟩
  · have h1 : w.heap[bb]? = _ := h.bbox
    have h2 : w.heap[wb]? = _ := h.wbox
    rw [show bb = wb from e, h2] at h1
    injection h1 with h1
    injection h1 with _ h1 _
    exact absurd h1 (by decide)
  · have := Blk.set h.wbox 0 (.slice sa' zs'.length sc')
    simpa using this
end
theorem BlkI.grow {w0 w w' : World} {pf pa : Nat} {f : VF} {a : AL} {all : List SE} {v : Value} {bb wb : Nat} {b : VB} {sa : Option Addr} {sc : Nat} {zs : List (Int × Int)} {e : SE} {v' : Value} (h : BlkI w0 w pf pa f a all v bb wb b sa sc zs) (he : PRow w e.sa e.sc e.zs) (hown : w'.ownsRow w0.heap.size 92 2 v' (all ++ [e]).length ((all ++ [e]).flatMap seC)) (hgr : w.grownBy w' v.ownBlock) : BlkI w0 w' pf pa f a (all ++ [e]) v' bb wb b sa sc zs := by
  have hr := RestS.ofGrown hgr
  refine ⟨h.ai.grow he hown hgr, Blk.of_heap h.bbox (hr.block _ (Blk.lt h.bbox) (blk_noOwn h.bbox h.ai.own (by decide))), Blk.of_heap h.wbox (hr.block _ (Blk.lt h.wbox) (blk_noOwn h.wbox h.ai.own (by decide))), h.wlo, ?_⟩
  exact ownG_kept h.row fun g hg => hr.block g (h.row.lt g hg).2 (fun e => own_tyN h.row h.ai.own (by decide) g hg e)
theorem eqW_iff {xs ys : List (Int × Int)} (hx : xs.Nodup) (hy : ys.Nodup) : eqW xs ys = true ↔ ∀ z, z ∈ xs ↔ z ∈ ys := by
  unfold eqW
  rw [decide_eq_true_eq]
  constructor
  · rintro ⟨hl, hs⟩ z
    refine ⟨hs z, fun hz => ?_⟩
    rcases Classical.em (z ∈ xs) with h | h
    · exact h
    · have h1 : (z :: xs).Nodup := List.nodup_cons.2 ⟨h, hx⟩
      have := List.Nodup.length_le_of_subset h1 (l₂ := ys) (fun u hu => by
        rcases List.mem_cons.1 hu with rfl | hu
        · exact hz
        · exact hs u hu)
      simp at this
      omega
  · intro h
    refine ⟨Nat.le_antisymm (List.Nodup.length_le_of_subset hx (fun u hu => (h u).1 hu)) (List.Nodup.length_le_of_subset hy (fun u hu => (h u).2 hu)), fun z hz => (h z).1 hz⟩
/-- what the list of states says, k of them followed -/
structure AccJ (f : VF) (a : AL) (m n : Nat) (X0 : Nat → Nat → Bool) (all : List SE) (k : Nat) : Prop where
  seen : SeenW f a m n X0 (all.map SE.p)
  start : ∃ zs, (0, zs) ∈ all.map SE.p ∧ RelW m n zs X0
  closed : ∀ j (hj : j < all.length), j < k → ClosedW f a (all.map SE.p) all[j].p
/-- some of the successors are listed -/
def PartW (f : VF) (all : List SE) (i : Nat) (zs : List (Int × Int)) (k : Nat) : Prop := ∀ t ∈ (f.blk i).e.to.take k, ∃ s ∈ all, s.blk = t.toNat ∧ ∀ z, z ∈ s.zs ↔ z ∈ zs
theorem AccJ.good {f : VF} {a : AL} {m n : Nat} {X0 : Nat → Nat → Bool} {all : List SE} {k : Nat} (ga : a.Good n m) (hf : f.Fits n) (h0 : 0 < f.blocks.length) (h : AccJ f a m n X0 all k) (hk : all.length ≤ k) : GoodS f a X0 :=
  good_of_closed ga hf h0 h.seen h.start fun s hs => by
    obtain ⟨e, he, rfl⟩ := List.mem_map.1 hs
    obtain ⟨j, hj, rfl⟩ := List.getElem_of_mem he
    exact h.closed j hj (by omega)
theorem AccJ.more {f : VF} {a : AL} {m n : Nat} {X0 : Nat → Nat → Bool} {all : List SE} {k : Nat} (h : AccJ f a m n X0 all k) (hk : k ≤ all.length) {e : SE} (he : e.blk < f.blocks.length) {X : Nat → Nat → Bool} (hr : RelW m n e.zs X) (hx : ReachS f a X0 e.blk X) : AccJ f a m n X0 (all ++ [e]) k := by
  refine ⟨fun s hs => ?_, ?_, fun j hj hjk => ?_⟩
  · rw [List.map_append] at hs
    rcases List.mem_append.1 hs with hs | hs
    · exact h.seen s hs
    · simp at hs; subst hs; exact ⟨he, X, hr, hx⟩
  · obtain ⟨zs, h1, h2⟩ := h.start
    exact ⟨zs, by rw [List.map_append]; exact List.mem_append_left _ h1, h2⟩
  · have hj2 : j < all.length := by omega
    rw [List.getElem_append_left hj2, List.map_append]
    exact (h.closed j hj2 hjk).more
theorem AccJ.step {f : VF} {a : AL} {m n : Nat} {X0 : Nat → Nat → Bool} {all : List SE} {k : Nat} (h : AccJ f a m n X0 all k) (hk : k < all.length) {zs' : List (Int × Int)} (hb : blkW a (f.blk all[k].blk) all[k].zs = some zs') {q : Nat} (hq : (f.blk all[k].blk).e.to.length ≤ q) (hp : PartW f all all[k].blk zs' q) : AccJ f a m n X0 all (k + 1) := by
  refine ⟨h.seen, h.start, fun j hj hjk => ?_⟩
  by_cases e : j = k
  · subst e
    refine ⟨zs', hb, fun t ht => ?_⟩
    unfold PartW at hp
    rw [List.take_of_length_le hq] at hp
    obtain ⟨s, h1, h2, h3⟩ := hp t ht
    exact ⟨s.p, List.mem_map.2 ⟨s, h1, rfl⟩, h2, h3⟩
  · exact h.closed j hj (by omega)
theorem PartW.more {f : VF} {all : List SE} {i : Nat} {zs : List (Int × Int)} {k : Nat} (h : PartW f all i zs k) (e : SE) : PartW f (all ++ [e]) i zs k := fun t ht => by
  obtain ⟨s, h1, h2⟩ := h t ht
  exact ⟨s, List.mem_append_left _ h1, h2⟩
theorem PartW.next {f : VF} {all : List SE} {i : Nat} {zs : List (Int × Int)} {k : Nat} (h : PartW f all i zs k) {t : Int} (ht : (f.blk i).e.to[k]? = some t) {s : SE} (hs : s ∈ all) (h1 : s.blk = t.toNat) (h2 : ∀ z, z ∈ s.zs ↔ z ∈ zs) : PartW f all i zs (k + 1) := fun u hu => by
  rw [List.take_add_one, ht] at hu
  rcases List.mem_append.1 hu with hu | hu
  · exact h u hu
  · simp at hu; subst hu; exact ⟨s, hs, h1, h2⟩
end Go.Proofs.Ytlaogkbdjkofaaa
