/- Print, walked. Conditions: the variables are laid. -/
import Derived.Test.YtkkefahobjlagaaGreatDoorQ27
import Derived.Test.YtkkefahobjlagaaGreatDoorQ10
namespace Go.Proofs.YtkkefahobjlagaaGreatDoor
open Go.RowKit Go.ChangeMaps
set_option maxHeartbeats 4000000
set_option maxRecDepth 100000
attribute [local go_sem] Oper.semAt_some
def wayS (o : Bool) : Str := if o then [111, 117, 116] else [105, 110]
def lineS (side : Str) (e : Edg) : Str := side ++ [32] ++ e.1 ++ [32] ++ Lib.itoa e.2.1 ++ [32] ++ wayS e.2.2 ++ [10]
def leftW : Str := [108, 101, 102, 116]
def rightW : Str := [114, 105, 103, 104, 116]
def linesS (side : Str) (l : List Edg) : Str := l.flatMap (lineS side)
def headS (p : Pan) : Str := [112, 97, 110, 101, 108, 32] ++ p.1 ++ [32] ++ Lib.itoa p.2.1 ++ [10]
def endW : Str := [101, 110, 100, 10]
def panS (p : Pan) : Str := headS p ++ linesS leftW p.2.2.1 ++ linesS rightW p.2.2.2 ++ endW
def prnT (l : List Pan) : Str := l.flatMap panS
def prnE (l : List Pan) : Int := if allE l ≠ 0 then allE l else whenI (decide (16384 < (prnT l).length)) 26
def prnS (l : List Pan) : Str := if prnE l = 0 then prnT l else []
theorem linesS_snoc {side : Str} {l : List Edg} {k : Nat} (hk : k < l.length) : linesS side (l.take (k + 1)) = linesS side (l.take k) ++ lineS side l[k] := by
 unfold linesS
 rw [List.take_succ_eq_append_getElem hk, List.flatMap_append]
 simp
theorem prnT_snoc {l : List Pan} {k : Nat} (hk : k < l.length) : prnT (l.take (k + 1)) = prnT (l.take k) ++ panS l[k] := by
 unfold prnT
 rw [List.take_succ_eq_append_getElem hk, List.flatMap_append]
 simp
theorem join4 (a b c d : Str) : Lib.join [a, b, c, d] [32] ++ [10] = a ++ [32] ++ b ++ [32] ++ c ++ [32] ++ d ++ [10] := by
 simp [Lib.join, List.intercalate]
theorem pline_any (e : Edg) (side : Str) (w : World) (hL : Lay w) (hn : -1000000 ≤ e.2.1 ∧ e.2.1 ≤ 1000000) (hl : e.1.length ≤ 1000) (hs : side.length ≤ 1000) :
    Calls Tryz.prog 99 #[.agg #[sV e.1, .int .i64 e.2.1, .bool e.2.2], sV side] w (RV w (sV (lineS side e))) := by
  obtain ⟨s, t, o⟩ := e
  simp only at hn hl
  have hit := fun W (hb : Below w.heap.size w W) => itoa_any t (by omega) W (hL.below hb)
  have hil := Lib.itoa_length_le t (by omega) (by omega)
  have HJ : Hid (lineS side (s, t, o) = Lib.join [side, s, Lib.itoa t, wayS o] [32] ++ [10]) := by unfold Hid; rw [join4]; rfl
  have hwl : (wayS o).length ≤ 3 := by cases o <;> simp [wayS]
  have hJl : (Lib.join [side, s, Lib.itoa t, wayS o] [32]).length ≤ 10000 := by
    have h2 := congrArg List.length (join4 side s (Lib.itoa t) (wayS o))
    simp only [List.length_append, List.length_cons, List.length_nil] at h2
    omega
  obtain ⟨N, hN⟩ : ∃ N, Lib.itoa t = N := ⟨_, rfl⟩
  rw [hN] at hit HJ hJl
  obtain ⟨B1, hB1⟩ : ∃ B : ByteArray, ({ data := side.toArray } : ByteArray) = B := ⟨_, rfl⟩
  obtain ⟨B2, hB2⟩ : ∃ B : ByteArray, ({ data := s.toArray } : ByteArray) = B := ⟨_, rfl⟩
  obtain ⟨B3, hB3⟩ : ∃ B : ByteArray, ({ data := N.toArray } : ByteArray) = B := ⟨_, rfl⟩
  obtain ⟨J, hJ⟩ : ∃ J, Lib.join [side, s, N, wayS o] [32] = J := ⟨_, rfl⟩
  rw [hJ] at HJ hJl
  obtain ⟨BJ, hBJ⟩ : ∃ B : ByteArray, ({ data := J.toArray } : ByteArray) = B := ⟨_, rfl⟩
  have hBJs : BJ.size ≤ 10000 := by rw [← hBJ]; simpa [ByteArray.size] using hJl
  have HBJ : Hid (Value.string (BJ ++ { data := #[10] }) = sV (lineS side (s, t, o))) := by
    unfold Hid
    rw [HJ.out, ← hBJ]
    exact sv_app J [10]
  have hj : ∀ (b o' c : Nat) (W : World) (B4 : ByteArray) (_ : B4.data.toList = wayS o) (_ : W.cell? ⟨b, o', none⟩ = some (.string B1)) (_ : W.cell? ⟨b, o' + 1, none⟩ = some (.string B2)) (_ : W.cell? ⟨b, o' + 2, none⟩ = some (.string B3)) (_ : W.cell? ⟨b, o' + 3, none⟩ = some (.string B4)) (_ : b < W.heap.size) (_ : 4 ≤ c),
      Calls Tryz.prog 155 #[.slice (some ⟨b, o', none⟩) 4 c, .string ⟨#[32]⟩] W (RV W (.string BJ)) := fun b o' c W B4 h4 h0 h1 h2 h3 hb hc => by
    have e : Lib.join ([B1, B2, B3, B4].map (·.data.toList)) (ByteArray.mk #[32]).data.toList = J := by
      rw [← hJ]
      simp only [List.map_cons, List.map_nil, ← hB1, ← hB2, ← hB3, h4]
    have := str_strings_Join b o' c [B1, B2, B3, B4] ⟨#[32]⟩ W (fun j x hj => by
      match j, hj with
      | 0, hj => obtain rfl : B1 = x := by simpa using hj
                 exact h0
      | 1, hj => obtain rfl : B2 = x := by simpa using hj
                 exact h1
      | 2, hj => obtain rfl : B3 = x := by simpa using hj
                 exact h2
      | 3, hj => obtain rfl : B4 = x := by simpa using hj
                 exact h3) hb (by simp) hc (by rw [e]; omega)
    rw [e, hBJ] at this
    exact this
  have HB := Lib.hid (And.intro hB1 (And.intro hB2 hB3))
  rw [← HBJ.out]
  unfold sV
  simp only
  rw [hB1, hB2]
  rw [hB3] at hit
  clear hB1 hB2 hB3 hN hJ hBJ HJ
  have hE := Blk.new w 107 #[.string B2, .int .i64 t, .bool o]
  have fE := hE.facts
  cases o
  · go_enter Tryz.func99, Tryz.ntmps99
    go_upto_region 4 with fail
    obtain ⟨w1, hw1⟩ : ∃ X, w.alloc (.cells #[.string B2, .int .i64 t, .bool false] 107) = X := ⟨_, rfl⟩
    have hb1 : Below w.heap.size w w1 := by rw [← hw1]; exact bl_alloc bl_refl _
    rw [hw1] at hE ⊢
    clear hw1 fE
    have fhE := hE.facts
    refine wp_region_ords [0, 1, 2, 3, 4, 6] [(5, false)] [7, 8, 9, 10] (by kernel_rfl) (by kernel_rfl) (fun d _ _ _ _ h => by cases d <;> exact h) ?_
    simp only [List.map_cons, List.map_nil, List.getD_cons_zero, List.getD_cons_succ]
    repeat (go_big_quiet_step (fail))
    refine wpQuiet_nil ?_
    refine wpMid_run rfl (fun K hK => ?_)
    go_simp
    refine (hit _ (by (repeat first|exact J0|assumption|(apply J1;assumption)|apply J2|apply J3|apply J4))).mono ?_
    rintro e w2 ⟨rfl, hb2⟩
    refine hK _ _ (by (repeat first|exact J0|assumption|(apply J1;assumption)|apply J2|apply J3|apply J4)) ?_
    clear hK K
    have hE_w2 := hE.below (show Below _ _ w2 by (repeat first|exact J0|assumption|(apply J1;assumption)|apply J2|apply J3|apply J4))
    have fhE_w2 := hE_w2.facts
    refine wpMid_nil ?_
    go_wp2_with fail
    go_must (refine (hj _ _ _ _ ⟨#[105, 110]⟩ rfl (by go_simp) (by go_simp) (by go_simp) (by go_simp) (by simp) (by decide)).mono ?_)
    rintro e w3 ⟨rfl, hb3⟩
    go_wp2
    go_ret
    exact ⟨rfl, by (repeat first|exact J0|assumption|(apply J1;assumption)|apply J2|apply J3|apply J4)⟩
  · go_enter Tryz.func99, Tryz.ntmps99
    go_upto_region 4 with fail
    obtain ⟨w1, hw1⟩ : ∃ X, w.alloc (.cells #[.string B2, .int .i64 t, .bool true] 107) = X := ⟨_, rfl⟩
    have hb1 : Below w.heap.size w w1 := by rw [← hw1]; exact bl_alloc bl_refl _
    rw [hw1] at hE ⊢
    clear hw1 fE
    have fhE := hE.facts
    refine wp_region_ords [0, 1, 2, 3, 4, 6] [(5, false)] [7, 8, 9, 10] (by kernel_rfl) (by kernel_rfl) (fun d _ _ _ _ h => by cases d <;> exact h) ?_
    simp only [List.map_cons, List.map_nil, List.getD_cons_zero, List.getD_cons_succ]
    repeat (go_big_quiet_step (fail))
    refine wpQuiet_nil ?_
    refine wpMid_run rfl (fun K hK => ?_)
    go_simp
    refine (hit _ (by (repeat first|exact J0|assumption|(apply J1;assumption)|apply J2|apply J3|apply J4))).mono ?_
    rintro e w2 ⟨rfl, hb2⟩
    refine hK _ _ (by (repeat first|exact J0|assumption|(apply J1;assumption)|apply J2|apply J3|apply J4)) ?_
    clear hK K
    have hE_w2 := hE.below (show Below _ _ w2 by (repeat first|exact J0|assumption|(apply J1;assumption)|apply J2|apply J3|apply J4))
    have fhE_w2 := hE_w2.facts
    refine wpMid_nil ?_
    go_wp2_with fail
    go_must (refine (hj _ _ _ _ ⟨#[111, 117, 116]⟩ rfl (by go_simp) (by go_simp) (by go_simp) (by go_simp) (by simp) (by decide)).mono ?_)
    rintro e w3 ⟨rfl, hb3⟩
    go_wp2
    go_ret
    exact ⟨rfl, by (repeat first|exact J0|assumption|(apply J1;assumption)|apply J2|apply J3|apply J4)⟩
theorem lineS_len (side : Str) (e : Edg) (hs : side.length ≤ 10) (h : edgE e = 0) : (lineS side e).length ≤ 200 := by
 obtain ⟨_, h2, _, h4, h5⟩ := edgE_zero h
 have h3 := Lib.itoa_length_le e.2.1 (by omega) (by omega)
 have hw : (wayS e.2.2).length ≤ 3 := by cases e.2.2 <;> simp [wayS]
 unfold lineS
 simp only [List.length_append, List.length_cons, List.length_nil]
 omega
theorem linesS_len (side : Str) (hs : side.length ≤ 10) : ∀ (l : List Edg), (∀ e ∈ l, edgE e = 0) → (linesS side l).length ≤ 200 * l.length
 | [], _ => by simp [linesS]
 | e :: r, h => by
  have h1 := linesS_len side hs r fun x hx => h x (List.mem_cons_of_mem _ hx)
  have h2 := lineS_len side e hs (h e (List.mem_cons_self ..))
  unfold linesS at h1 ⊢
  rw [List.flatMap_cons, List.length_append, List.length_cons]
  omega
theorem headS_len {p : Pan} (h : PanOk p) : (headS p).length ≤ 100 := by
 have hn := h.name
 unfold nameR at hn
 simp only [Bool.and_eq_true, decide_eq_true_eq] at hn
 have hw := h.wid
 have h3 := Lib.itoa_length_le p.2.1 (by omega) (by omega)
 unfold headS
 simp only [List.length_append, List.length_cons, List.length_nil]
 omega
theorem panS_len {p : Pan} (h : PanOk p) : (panS p).length ≤ 30000 := by
 have h1 := headS_len h
 have h2 := linesS_len leftW (by simp [leftW]) p.2.2.1 h.left.ok
 have h3 := linesS_len rightW (by simp [rightW]) p.2.2.2 h.right.ok
 have h4 := h.left.few
 have h5 := h.right.few
 unfold panS
 simp only [List.length_append]
 have : endW.length = 4 := rfl
 omega
theorem prnT_len : ∀ (l : List Pan), (∀ p ∈ l, PanOk p) → (prnT l).length ≤ 30000 * l.length
 | [], _ => by simp [prnT]
 | p :: r, h => by
  have h1 := prnT_len r fun x hx => h x (List.mem_cons_of_mem _ hx)
  have h2 := panS_len (h p (List.mem_cons_self ..))
  unfold prnT at h1 ⊢
  rw [List.flatMap_cons, List.length_append, List.length_cons]
  omega
theorem head_eq (n N : Str) : Value.string ((((({ data := #[112, 97, 110, 101, 108, 32] } : ByteArray) ++ { data := n.toArray }) ++ { data := #[32] }) ++ { data := N.toArray }) ++ { data := #[10] }) = sV ([112, 97, 110, 101, 108, 32] ++ n ++ [32] ++ N ++ [10]) := by
 unfold sV
 congr 1
theorem others_step {w w' : World} {g b : Nat} {t : TypeId} {cs : Array Value} (h : Blk w g t cs) (hk : Lib.OthersKept 5 (some b) w w') (hg : b < g) (ht : t ≠ 5) : Blk w' g t cs := h.others hk (by omega) ht
theorem apiPrintP_any {v : Value} (l : List Pan) (w : World) (h : SlP w v l) (hnm : ∀ p ∈ l, p.1.length ≤ 1000000) (hL : Lay w) : Calls Tryz.prog 35 #[v] w (RV w (.tuple #[sV (prnS l), .int .i64 (prnE l)])) := by
  have hca := checkAll_any l w h hnm
  obtain ⟨xs, ⟨A, c, rfl, hlc, hcm, hr⟩, hx⟩ := h
  have HLN := Lib.hid hx.len
  have hl1 : xs.length ≤ l.length := Nat.le_of_eq HLN.out
  have hl2 : l.length ≤ xs.length := Nat.le_of_eq HLN.out.symm
  by_cases hE : allE l = 0
  · obtain ⟨h16, hall⟩ := allE_zero hE
    have hok : ∀ p ∈ l, PanOk p := fun p hp => panE_zero (hall p hp)
    have HOK := Lib.hid hok
    have HTL : Hid (∀ k, (prnT (l.take k)).length ≤ 480000) := fun k => by
      have h1 := prnT_len (l.take k) fun p hp => hok p (List.mem_of_mem_take hp)
      have h2 := List.length_take_le' k l
      omega
    have HPE : Hid (prnE l = whenI (decide (16384 < (prnT l).length)) 26) := by unfold Hid prnE; rw [if_neg (by simp [hE])]
    have HPS : Hid (prnS l = if prnE l = 0 then prnT l else []) := rfl
    rw [hE] at hca
    clear hE hall hok hnm
    go_enter Tryz.func35, Tryz.ntmps35
    go_wp2_with fail
    refine (hca).mono ?_
    rintro e w1 ⟨rfl, hb1⟩
    have hbd : Bld w1.heap.size [] (w1.alloc (.cells #[.pointer none, .slice none 0 0] 162)) :=
      .inl ⟨Nat.le_refl _, .slice none 0 0, heap_alloc_new w1 _, World.ownsRowF_of (World.ownsRow_nil _ _ _ _), by simp [Value.ownBlock]⟩
    have hL1 := hL.below hb1
    replace hr := hr.below hb1
    replace hx := hx.below hb1
    clear hca hL
    go_wp2
    go_loopw [19] (fun i wr => ∃ k : Nat, k ≤ xs.length ∧ i = .int .i64 k ∧ Bld w1.heap.size (prnT (l.take k)) wr ∧ Below w1.heap.size w1 wr) (fun i _ => xs.length - (intOf i).toNat)
    case atStart => exact ⟨0, Nat.zero_le _, rfl, hbd, bl_alloc bl_refl _⟩
    case round =>
      clear hbd
      obtain ⟨k, hk, rfl, hB, hbk⟩ := hrel
      obtain ⟨wo, rfl⟩ : ∃ x, x = wr := ⟨_, rfl⟩
      have htl := HTL.out k
      by_cases hlt : k < xs.length
      · have hkl : k < l.length := by omega
        have hp := hx.get (List.getElem?_eq_getElem hlt) (List.getElem?_eq_getElem hkl)
        have hok := HOK.out _ (List.getElem_mem hkl)
        have HT := Lib.hid (prnT_snoc hkl)
        obtain ⟨b, off, rfl, hb, e0, e1, e2, e3⟩ := (hr.below hbk).pan (List.getElem?_eq_getElem hlt)
        obtain ⟨p, hpe⟩ : ∃ p, l[k] = p := ⟨_, rfl⟩
        rw [hpe] at hp hok HT
        obtain ⟨⟨n0, n1, ⟨a0, a1, a2⟩, ⟨b0, b1, b2⟩⟩, hxx⟩ : ∃ z, xs[k] = z := ⟨_, rfl⟩
        rw [hxx] at hp e0 e1 e2 e3
        obtain ⟨hn0, hn1, hpL, hpR⟩ := hp
        simp only at hn0 hn1 hpL hpR e0 e1 e2 e3
        obtain ⟨AL, cL, heL, _, _, hrL⟩ := hpL
        obtain ⟨AR, cR, heR, _, _, hrR⟩ := hpR
        simp only [slV] at heL heR e2 e3
        obtain ⟨rfl, rfl, rfl⟩ := Value.slice.inj heL
        obtain ⟨rfl, rfl, rfl⟩ := Value.slice.inj heR
        have hgx0 : w1.heap.size < wo.heap.size := hB.lt
        obtain ⟨P, hP⟩ : ∃ P, prnT (l.take k) = P := ⟨_, rfl⟩
        rw [hP] at hB htl HT
        have hhl := headS_len hok
        have hl64 := hok.left.few
        have hr64 := hok.right.few
        have HLL := Lib.hid (fun j => linesS_len leftW (by simp [leftW]) (p.2.2.1.take j) fun e he => hok.left.ok e (List.mem_of_mem_take he))
        have HRL := Lib.hid (fun j => linesS_len rightW (by simp [rightW]) (p.2.2.2.take j) fun e he => hok.right.ok e (List.mem_of_mem_take he))
        have HEL := Lib.hid hok.left.ok
        have HER := Lib.hid hok.right.ok
        have hwd := hok.wid
        have hit := fun W (hb : Below w1.heap.size w1 W) => itoa_any p.2.1 (by omega) W (hL1.below hb)
        rw [← hn1] at hit
        have HH : Hid (Value.string ((((({ data := #[112, 97, 110, 101, 108, 32] } : ByteArray) ++ { data := n0.toArray }) ++ { data := #[32] }) ++ { data := (Lib.itoa n1).toArray }) ++ { data := #[10] }) = sV (headS p)) := by
          unfold Hid headS
          rw [← hn0, ← hn1]
          exact head_eq n0 (Lib.itoa n1)
        have hn0l : n0.length ≤ 100 := by
          have hn := hok.name
          unfold nameR at hn
          simp only [Bool.and_eq_true, decide_eq_true_eq] at hn
          rw [hn0]
          omega
        have hitl := Lib.itoa_length_le n1 (by omega) (by omega)
        obtain ⟨BN, hBN⟩ : ∃ B : ByteArray, ({ data := n0.toArray } : ByteArray) = B := ⟨_, rfl⟩
        obtain ⟨BT, hBT⟩ : ∃ B : ByteArray, ({ data := (Lib.itoa n1).toArray } : ByteArray) = B := ⟨_, rfl⟩
        have hBNs : BN.size ≤ 100 := by rw [← hBN]; simpa [ByteArray.size] using hn0l
        have hBTs : BT.size ≤ 100 := by rw [← hBT]; have : (Lib.itoa n1).length ≤ 100 := by omega
                                        simpa [ByteArray.size] using this
        rw [hBN, hBT] at HH
        rw [hBT] at hit
        have HPN : Hid (panS p = headS p ++ linesS leftW p.2.2.1 ++ linesS rightW p.2.2.2 ++ endW) := rfl
        simp only [sV] at e0
        rw [hBN] at e0
        clear hxx hpe hP hn0 hn1 heL heR hBN hBT hitl
        have hX := Blk.new wo 30 #[.string BN, .int .i64 n1, .slice a0 p.2.2.1.length a2, .slice b0 p.2.2.2.length b2]
        have fX := hX.facts
        have hbx := bl_alloc hbk (.cells #[.string BN, .int .i64 n1, .slice a0 p.2.2.1.length a2, .slice b0 p.2.2.2.length b2] 30)
        replace hB := hB.below (show Below wo.heap.size wo (wo.alloc (.cells #[.string BN, .int .i64 n1, .slice a0 p.2.2.1.length a2, .slice b0 p.2.2.2.length b2] 30)) from bl_alloc bl_refl _)
        go_upto_region 8 with fail
        obtain ⟨wx, hwx⟩ : ∃ X, wo.alloc (.cells #[.string BN, .int .i64 n1, .slice a0 p.2.2.1.length a2, .slice b0 p.2.2.2.length b2] 30) = X := ⟨_, rfl⟩
        obtain ⟨gx, hgx⟩ : ∃ X, wo.heap.size = X := ⟨_, rfl⟩
        rw [hwx, hgx] at hX
        rw [hwx] at hbx hB
        rw [hgx] at hgx0
        rw [hwx, hgx]
        clear hwx hgx fX e0 e1 e2 e3 hbk hb
        have fX := hX.facts
        refine wp_region_ords [0, 1, 2, 3, 4, 5] [(6, false)] [7, 8, 9] (by kernel_rfl) (by kernel_rfl) (fun d _ _ _ _ h => by cases d <;> exact h) ?_
        simp only [List.map_cons, List.map_nil, List.getD_cons_zero, List.getD_cons_succ]
        repeat (go_big_quiet_step (fail))
        refine wpQuiet_nil ?_
        refine wpMid_run rfl (fun K hK => ?_)
        go_simp
        refine (hit _ (by (repeat first|exact J0|assumption|(apply J1;assumption)|apply J2|apply J3|apply J4))).mono ?_
        rintro e w2 ⟨rfl, hb2⟩
        refine hK _ _ (by (repeat first|exact J0|assumption|(apply J1;assumption)|apply J2|apply J3|apply J4)) ?_
        clear hK K
        have hX_w2 := hX.below (show Below _ _ w2 by (repeat first|exact J0|assumption|(apply J1;assumption)|apply J2|apply J3|apply J4))
        have fhX_w2 := hX_w2.facts
        refine wpMid_nil ?_
        go_wp2_with fail
        rw [HH.out]
        refine (wstr_any w1.heap.size P (headS p) w2 (hB.below (show Below wx.heap.size wx w2 by (repeat first|exact J0|assumption|(apply J1;assumption)|apply J2|apply J3|apply J4))) (by omega)).mono ?_
        rintro e w3 ⟨rfl, hB3, hb3, hk3⟩
        have hX3 := others_step (hX.below (show Below wx.heap.size wx w2 by (repeat first|exact J0|assumption|(apply J1;assumption)|apply J2|apply J3|apply J4))) hk3 hgx0 (by decide)
        have hbw3 : Below w1.heap.size w1 w3 := (bl_then (show Below wx.heap.size wx w2 by (repeat first|exact J0|assumption|(apply J1;assumption)|apply J2|apply J3|apply J4)) hbx).trans hb3
        have fX3 := hX3.facts
        clear hB hb2 hb3 hk3 hX fX hX_w2 fhX_w2 hbx hit
        go_wp2
        clear fX3
        go_loopw [36] (fun s wr => ∃ j : Nat, j ≤ p.2.2.1.length ∧ s = .int .i64 j ∧ Bld w1.heap.size (P ++ headS p ++ linesS leftW (p.2.2.1.take j)) wr ∧ Blk wr gx 30 #[.string BN, .int .i64 n1, .slice a0 p.2.2.1.length a2, .slice b0 p.2.2.2.length b2] ∧ Below w1.heap.size w1 wr) (fun s _ => p.2.2.1.length - (intOf s).toNat)
        case atStart => exact ⟨0, Nat.zero_le _, rfl, by simpa [linesS] using hB3, hX3, hbw3⟩
        case round =>
          clear hB3 hX3 hbw3
          obtain ⟨j, hj, rfl, hBj, hXj, hbj⟩ := hrel
          obtain ⟨wi, rfl⟩ : ∃ x, x = wr := ⟨_, rfl⟩
          have hlj := HLL.out j
          have hll := List.length_take_le' j p.2.2.1
          have hgj := hXj.lt
          by_cases hlt2 : j < p.2.2.1.length
          · have HS := Lib.hid (linesS_snoc (side := leftW) hlt2)
            have hee := HEL.out _ (List.getElem_mem hlt2)
            have hlen := lineS_len leftW p.2.2.1[j] (by simp [leftW]) hee
            obtain ⟨_, q2, _, q4, q5⟩ := edgE_zero hee
            obtain ⟨be, oe, hAe, hbe, e0, e1, e2⟩ := (hrL.below hbj).edge hlt2
            subst hAe
            obtain ⟨⟨s0, t0, o0⟩, hxe⟩ : ∃ z, p.2.2.1[j] = z := ⟨_, rfl⟩
            rw [hxe] at HS q2 q4 q5 e0 e1 e2 hlen
            simp only at q2 q4 q5 e0 e1 e2
            obtain ⟨M, hM⟩ : ∃ M, P ++ headS p ++ linesS leftW (p.2.2.1.take j) = M := ⟨_, rfl⟩
            have hMl : M.length ≤ 600000 := by
              rw [← hM]
              simp only [List.length_append]
              omega
            have HM : Hid (P ++ headS p ++ linesS leftW (p.2.2.1.take (j + 1)) = M ++ lineS leftW (s0, t0, o0)) := by unfold Hid; rw [HS.out, ← hM]; simp only [List.append_assoc]
            rw [hM] at hBj
            have hE := Blk.new wi 107 #[.string ⟨s0.toArray⟩, .int .i64 t0, .bool o0]
            have fE := hE.facts
            have hln := fun W (hb : Below w1.heap.size w1 W) => pline_any (s0, t0, o0) leftW W (hL1.below hb) (by simp only; omega) (by simp only; omega) (by simp [leftW])
            simp only at hln
            have hbe1 := bl_alloc hbj (.cells #[.string ⟨s0.toArray⟩, .int .i64 t0, .bool o0] 107)
            have hXe := hXj.alloc (.cells #[.string ⟨s0.toArray⟩, .int .i64 t0, .bool o0] 107)
            have hBe := hBj.below (show Below wi.heap.size wi (wi.alloc (.cells #[.string ⟨s0.toArray⟩, .int .i64 t0, .bool o0] 107)) from bl_alloc bl_refl _)
            obtain ⟨LS, hLS⟩ : ∃ L, lineS leftW (s0, t0, o0) = L := ⟨_, rfl⟩
            rw [hLS] at hln HM hlen
            have hsv : sV s0 = .string ⟨s0.toArray⟩ := rfl
            have hsw : sV leftW = .string ⟨#[108, 101, 102, 116]⟩ := rfl
            rw [hsv, hsw] at hln
            clear hxe hM hLS hlj hll HS hee
            go_wp2_with fail
            refine (hln _ hbe1).mono ?_
            rintro e w6 ⟨rfl, hb6⟩
            go_wp2_with fail
            refine (wstr_any w1.heap.size M LS w6 (hBe.below hb6) (by omega)).mono ?_
            rintro e w7 ⟨rfl, hB7, hb7, hk7⟩
            have hX7 := others_step (hXe.below hb6) hk7 hgx0 (by decide)
            have hbw7 : Below w1.heap.size w1 w7 := (bl_then hb6 hbe1).trans hb7
            go_wp2
            go_roundw
            case rel => exact ⟨j + 1, by omega, by go_num, by rw [HM.out]; exact hB7, hX7, hbw7⟩
            case measure => simp [intOf]; omega
          · obtain rfl : j = p.2.2.1.length := by omega
            rw [List.take_length] at hBj hlj
            have fX := hXj.facts
            clear hll
            go_wp2
            clear fX
            go_loopw [47] (fun s wr => ∃ j : Nat, j ≤ p.2.2.2.length ∧ s = .int .i64 j ∧ Bld w1.heap.size (P ++ headS p ++ linesS leftW p.2.2.1 ++ linesS rightW (p.2.2.2.take j)) wr ∧ Blk wr gx 30 #[.string BN, .int .i64 n1, .slice a0 p.2.2.1.length a2, .slice b0 p.2.2.2.length b2] ∧ Below w1.heap.size w1 wr) (fun s _ => p.2.2.2.length - (intOf s).toNat)
            case atStart => exact ⟨0, Nat.zero_le _, rfl, by simpa [linesS] using hBj, hXj, hbj⟩
            case round =>
              clear hBj hXj hbj
              obtain ⟨j, hj, rfl, hBj, hXj, hbj⟩ := hrel
              obtain ⟨wv, rfl⟩ : ∃ x, x = wr := ⟨_, rfl⟩
              have hlj := HRL.out j
              have hll := List.length_take_le' j p.2.2.2
              have hgj := hXj.lt
              by_cases hlt2 : j < p.2.2.2.length
              · have HS := Lib.hid (linesS_snoc (side := rightW) hlt2)
                have hee := HER.out _ (List.getElem_mem hlt2)
                have hlen := lineS_len rightW p.2.2.2[j] (by simp [rightW]) hee
                obtain ⟨_, q2, _, q4, q5⟩ := edgE_zero hee
                obtain ⟨be, oe, hAe, hbe, e0, e1, e2⟩ := (hrR.below hbj).edge hlt2
                subst hAe
                obtain ⟨⟨s0, t0, o0⟩, hxe⟩ : ∃ z, p.2.2.2[j] = z := ⟨_, rfl⟩
                rw [hxe] at HS q2 q4 q5 e0 e1 e2 hlen
                simp only at q2 q4 q5 e0 e1 e2
                obtain ⟨M, hM⟩ : ∃ M, P ++ headS p ++ linesS leftW p.2.2.1 ++ linesS rightW (p.2.2.2.take j) = M := ⟨_, rfl⟩
                have hMl : M.length ≤ 600000 := by
                  rw [← hM]
                  simp only [List.length_append]
                  omega
                have HM : Hid (P ++ headS p ++ linesS leftW p.2.2.1 ++ linesS rightW (p.2.2.2.take (j + 1)) = M ++ lineS rightW (s0, t0, o0)) := by unfold Hid; rw [HS.out, ← hM]; simp only [List.append_assoc]
                rw [hM] at hBj
                have hE := Blk.new wv 107 #[.string ⟨s0.toArray⟩, .int .i64 t0, .bool o0]
                have fE := hE.facts
                have hln := fun W (hb : Below w1.heap.size w1 W) => pline_any (s0, t0, o0) rightW W (hL1.below hb) (by simp only; omega) (by simp only; omega) (by simp [rightW])
                simp only at hln
                have hbe1 := bl_alloc hbj (.cells #[.string ⟨s0.toArray⟩, .int .i64 t0, .bool o0] 107)
                have hXe := hXj.alloc (.cells #[.string ⟨s0.toArray⟩, .int .i64 t0, .bool o0] 107)
                have hBe := hBj.below (show Below wv.heap.size wv (wv.alloc (.cells #[.string ⟨s0.toArray⟩, .int .i64 t0, .bool o0] 107)) from bl_alloc bl_refl _)
                obtain ⟨LS, hLS⟩ : ∃ L, lineS rightW (s0, t0, o0) = L := ⟨_, rfl⟩
                rw [hLS] at hln HM hlen
                have hsv : sV s0 = .string ⟨s0.toArray⟩ := rfl
                have hsw : sV rightW = .string ⟨#[114, 105, 103, 104, 116]⟩ := rfl
                rw [hsv, hsw] at hln
                clear hxe hM hLS hlj hll HS hee
                go_wp2_with fail
                refine (hln _ hbe1).mono ?_
                rintro e w6 ⟨rfl, hb6⟩
                go_wp2_with fail
                refine (wstr_any w1.heap.size M LS w6 (hBe.below hb6) (by omega)).mono ?_
                rintro e w7 ⟨rfl, hB7, hb7, hk7⟩
                have hX7 := others_step (hXe.below hb6) hk7 hgx0 (by decide)
                have hbw7 : Below w1.heap.size w1 w7 := (bl_then hb6 hbe1).trans hb7
                go_wp2
                go_roundw
                case rel => exact ⟨j + 1, by omega, by go_num, by rw [HM.out]; exact hB7, hX7, hbw7⟩
                case measure => simp [intOf]; omega
              · obtain rfl : j = p.2.2.2.length := by omega
                rw [List.take_length] at hBj hlj
                have fX := hXj.facts
                clear hll
                have hPl : P.length + (headS p).length + (linesS leftW p.2.2.1).length + (linesS rightW p.2.2.2).length ≤ 900000 := by
                  have := HLL.out p.2.2.1.length
                  rw [List.take_length] at this
                  omega
                have HF : Hid (prnT (l.take (k + 1)) = P ++ headS p ++ linesS leftW p.2.2.1 ++ linesS rightW p.2.2.2 ++ endW) := by unfold Hid; rw [HT.out, HPN.out]; simp only [List.append_assoc]
                have hsE : sV endW = .string ⟨#[101, 110, 100, 10]⟩ := rfl
                have hwe := wstr_any w1.heap.size _ endW _ hBj (by simp only [List.length_append]; have : endW.length = 4 := rfl; omega)
                rw [hsE] at hwe
                clear hsE
                go_wp2_with fail
                refine hwe.mono ?_
                rintro e w8 ⟨rfl, hB8, hb8, hk8⟩
                go_wp2
                go_roundw
                case rel => exact ⟨k + 1, by omega, by go_num, by rw [HF.out]; exact hB8, hbj.trans hb8⟩
                case measure => simp [intOf]; omega
      · obtain rfl : k = xs.length := by omega
        have hT0 : l.take xs.length = l := List.take_of_length_le (by omega)
        rw [hT0] at hB htl
        obtain ⟨T, hT⟩ : ∃ T, prnT l = T := ⟨_, rfl⟩
        rw [hT] at hB htl HPE HPS
        have hbw : Below w.heap.size w wo := bl_then hbk hb1
        clear hT0 hT
        by_cases h9 : 16384 < T.length
        · have q1 : (16384 < T.length) = True := eq_true h9
          have q2 : (16384 < (T.length : Int)) = True := eq_true (by omega)
          have HEE : Hid (prnE l = 26 ∧ prnS l = []) := by
            have e1 : prnE l = 26 := by rw [HPE.out, decide_eq_true h9]; rfl
            exact ⟨e1, by rw [HPS.out, if_neg (by omega)]⟩
          clear h9
          go_wp2_with (go_at_call 100; refine (blen_any w1.heap.size T _ hB).mono ?_; rintro e w9 ⟨rfl, rfl⟩)
          refine bodyPost_ret (v := .tuple #[.string ⟨#[]⟩, .int .i64 26]) (by simp [results, Tryz.results35, go_sem]) rfl ?_
          exact ⟨by rw [HEE.out.1, HEE.out.2]; rfl, hbw⟩
        · have q1 : (16384 < T.length) = False := eq_false h9
          have q2 : (16384 < (T.length : Int)) = False := eq_false (by omega)
          have HEE : Hid (prnE l = 0 ∧ prnS l = T) := by
            have e1 : prnE l = 0 := by rw [HPE.out, decide_eq_false h9]; rfl
            exact ⟨e1, by rw [HPS.out, if_pos e1]⟩
          clear h9
          go_wp2_with (first | (go_at_call 100; refine (blen_any w1.heap.size T _ hB).mono ?_; rintro e w9 ⟨rfl, rfl⟩) | (go_at_call 101; refine (bstr_any w1.heap.size T _ hB).mono ?_; rintro e w9 ⟨rfl, hb9⟩))
          refine bodyPost_ret (v := .tuple #[sV T, .int .i64 0]) (by simp [results, Tryz.results35, go_sem]) rfl ?_
          exact ⟨by rw [HEE.out.1, HEE.out.2], bl_then (Below.trans hbk hb9) hb1⟩
  · have HEE : Hid (prnE l = allE l ∧ prnS l = []) := by
      have e : prnE l = allE l := by unfold prnE; rw [if_pos hE]
      exact ⟨e, by unfold prnS; rw [e, if_neg hE]⟩
    rw [HEE.out.1, HEE.out.2]
    have t0 : (allE l != 0) = true := by simp [hE]
    obtain ⟨E, hEE⟩ : ∃ E, allE l = E := ⟨_, rfl⟩
    rw [hEE] at hca t0 ⊢
    clear hE hEE HEE hnm
    go_enter Tryz.func35, Tryz.ntmps35
    go_wp2_with fail
    refine (hca).mono ?_
    rintro e w1 ⟨rfl, hb1⟩
    go_wp2
    refine bodyPost_ret (v := .tuple #[.string ⟨#[]⟩, .int .i64 E]) (by simp [results, Tryz.results35, go_sem]) rfl ?_
    exact ⟨rfl, hb1⟩
end Go.Proofs.YtkkefahobjlagaaGreatDoor
