/- The law of Bale: valid, plan; the reference: CheckPlaces, walked. Conditions: bounds. -/
import Derived.Test.YtpcgeihemkhkjaaGreatDoorR44
import Derived.Test.YtpcgeihemkhkjaaGreatDoorR41
import Derived.Test.YtpcgeihemkhkjaaGreatDoorR45
import Derived.Test.YtpcgeihemkhkjaaGreatDoorR28
namespace Go.Proofs.YtpcgeihemkhkjaaGreatDoor
open Go.RowKit Go.ChangeMaps
set_option maxHeartbeats 4000000
set_option maxRecDepth 100000
attribute [local go_sem] Oper.semAt_some
def vldP (l : List Pan) (k : Int) : Bool := decide ((l.length : Int) ≤ k) && (shortPs l k 8 && decide (pieE l = 0))
theorem l5valid_any {v : Value} (l : List Pan) (k : Int) (w : World) (h : SlP w v l) (hnm : ∀ p ∈ l, p.1.length ≤ maxLen) : Calls Tryz.prog 9 #[v, .int .i64 k] w (RV w (.bool (vldP l k))) := by
 have cS := fun W (hb : Below w.heap.size w W) => l5short_any l k W (h.below hb) hnm
 have HV : Hid (vldP l k = (decide ((l.length : Int) ≤ k) && (shortPs l k 8 && decide (pieE l = 0)))) := rfl
 have HC := Lib.hid (fun (hs : shortPs l k 8 = true) W (hb : Below w.heap.size w W) => rcheckPieces_any l W (h.below hb)
  (fun p hp => by have := (shortP_words ((shortPs_in hs).2.2 p hp)).1; omega)
  (fun p hp => by
   obtain ⟨_, ⟨_, h1⟩, _, h2⟩ := shortP_words ((shortPs_in hs).2.2 p hp)
   exact ⟨fun e he => by have := h1 e he; omega, fun e he => by have := h2 e he; omega⟩)
  (by have := (shortPs_in hs).1; omega))
 have hln : ∃ A c, v = .slice A l.length c := by
  obtain ⟨xs, ⟨A, c, rfl, _⟩, hx⟩ := h
  exact ⟨A, c, by rw [hx.len]⟩
 obtain ⟨A, c, rfl⟩ := hln
 obtain ⟨n, hn⟩ : ∃ n, l.length = n := ⟨_, rfl⟩
 rw [hn] at cS HC HV ⊢
 obtain ⟨V, hV⟩ : ∃ z, vldP l k = z := ⟨_, rfl⟩
 rw [hV] at HV ⊢
 obtain ⟨q, hq⟩ : ∃ z, shortPs l k 8 = z := ⟨_, rfl⟩
 rw [hq] at cS HC HV
 obtain ⟨E, hE⟩ : ∃ z, pieE l = z := ⟨_, rfl⟩
 rw [hE] at HC HV
 clear hn hV hq hE h hnm
 by_cases h1 : (n : Int) ≤ k
 ·have t1 : ((n : Int) ≤ k) = True := eq_true h1
  cases q
  ·have HE : Hid (V = false) := by unfold Hid; rw [HV.out]; simp
   clear h1 HV HC
   go_enter Tryz.func9, Tryz.ntmps9
   go_wp2_with fail
   refine (cS _ (by (repeat first|exact J0|assumption|(apply J1;assumption)|apply J2|apply J3|apply J4))).mono ?_
   rintro e w1 ⟨rfl, hb1⟩
   go_wp2
   go_ret
   exact ⟨by rw [HE.out]; rfl, by (repeat first|exact J0|assumption|(apply J1;assumption)|apply J2|apply J3|apply J4)⟩
  ·have cC := HC.out rfl
   by_cases hz : E = 0
   ·have t2 : (E == 0) = true := by simp [hz]
    have HE : Hid (V = true) := by unfold Hid; rw [HV.out, decide_eq_true h1, decide_eq_true hz]; rfl
    clear h1 HV HC hz
    go_enter Tryz.func9, Tryz.ntmps9
    go_wp2_with fail
    refine (cS _ (by (repeat first|exact J0|assumption|(apply J1;assumption)|apply J2|apply J3|apply J4))).mono ?_
    rintro e w1 ⟨rfl, hb1⟩
    go_wp2_with fail
    refine (cC _ (by (repeat first|exact J0|assumption|(apply J1;assumption)|apply J2|apply J3|apply J4))).mono ?_
    rintro e w2 ⟨rfl, hb2⟩
    go_wp2
    go_ret
    exact ⟨by rw [HE.out]; rfl, by (repeat first|exact J0|assumption|(apply J1;assumption)|apply J2|apply J3|apply J4)⟩
   ·have t2 : (E == 0) = false := by simp [hz]
    have HE : Hid (V = false) := by unfold Hid; rw [HV.out, decide_eq_false hz]; simp
    clear h1 HV HC hz
    go_enter Tryz.func9, Tryz.ntmps9
    go_wp2_with fail
    refine (cS _ (by (repeat first|exact J0|assumption|(apply J1;assumption)|apply J2|apply J3|apply J4))).mono ?_
    rintro e w1 ⟨rfl, hb1⟩
    go_wp2_with fail
    refine (cC _ (by (repeat first|exact J0|assumption|(apply J1;assumption)|apply J2|apply J3|apply J4))).mono ?_
    rintro e w2 ⟨rfl, hb2⟩
    go_wp2
    go_ret
    exact ⟨by rw [HE.out]; rfl, by (repeat first|exact J0|assumption|(apply J1;assumption)|apply J2|apply J3|apply J4)⟩
 ·have t1 : ((n : Int) ≤ k) = False := eq_false h1
  have HE : Hid (V = false) := by unfold Hid; rw [HV.out, decide_eq_false h1]; rfl
  clear h1 HV HC
  go_enter Tryz.func9, Tryz.ntmps9
  go_wp2
  go_ret
  exact ⟨by rw [HE.out]; rfl, by (repeat first|exact J0|assumption|(apply J1;assumption)|apply J2|apply J3|apply J4)⟩
end Go.Proofs.YtpcgeihemkhkjaaGreatDoor
