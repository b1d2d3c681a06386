/- The law of Bale: valid, plan; the reference: CheckPlaces, walked. Conditions: bounds. -/
import Derived.Test.YtpcgeihemkhkjaaGreatDoorR44
import Derived.Test.YtpcgeihemkhkjaaGreatDoorR41
import Derived.Test.YtpcgeihemkhkjaaGreatDoorR45
import Derived.Test.YtpcgeihemkhkjaaGreatDoorR28
import Derived.Test.YtpcgeihemkhkjaaGreatDoorR09
import Derived.Laws.CopyRow
import Derived.Test.YtpcgeihemkhkjaaGreatDoorR04
import Derived.Test.YtpcgeihemkhkjaaGreatDoorR21
import Derived.Test.YtpcgeihemkhkjaaGreatDoorR43
import Derived.Test.YtpcgeihemkhkjaaGreatDoorR38
import Derived.Test.YtpcgeihemkhkjaaGreatDoorR22
import Derived.Test.YtpcgeihemkhkjaaGreatDoorR30
import Derived.Test.YtpcgeihemkhkjaaGreatDoorR15
import Derived.Test.YtpcgeihemkhkjaaGreatDoorR37
import Derived.Test.YtpcgeihemkhkjaaGreatDoorR39
import Derived.Test.YtpcgeihemkhkjaaGreatDoorR35
namespace Go.Proofs.YtpcgeihemkhkjaaGreatDoor
open Go.RowKit Go.ChangeMaps
set_option maxHeartbeats 4000000
set_option maxRecDepth 100000
theorem PieL.ok {l : List Pan} (h : PieL l) {o : Plc} (ho : InP l o) : Zan (pcP l o) := by
 obtain ⟨n, t, a⟩ := o
 obtain ⟨k, hk0, hk⟩ := ho.nat
 simp only at hk0
 subst hk0
 rw [Zl5 hk]
 have hp := h _ (List.getElem_mem hk)
 cases t
 ·exact Zar hp.er
 ·exact Zar hp.te
theorem PieL.v {l : List Pan} (h : PieL l) : PcsV l := fun p hp => ⟨(h p hp).er, (h p hp).te⟩
def insR (b : Bal) (l : List Pan) (x : Plc) : Bool := decide (Z30 (pcP l x) ≤ b.2.1) && (decide (0 ≤ (Zid (pcP l x)).1 + x.2.2) && decide ((Zid (pcP l x)).2 + x.2.2 ≤ 2 * b.2.2))
theorem Zta {b : Bal} {l : List Pan} {x : Plc} (ok : Zan (pcP l x)) : insR b l x = !outB b l x := by
 have hh := ok.high
 have e : ((stP l x).length : Int) = Z30 (pcP l x) := by
  unfold stP; rw [Zay]; omega
 unfold insR outB
 rw [e]
 by_cases h1 : Z30 (pcP l x) ≤ b.2.1
 ·rw [decide_eq_true h1, decide_eq_false (by omega : ¬ b.2.1 < Z30 (pcP l x))]
  by_cases h2 : 0 ≤ (Zid (pcP l x)).1 + x.2.2
  ·rw [decide_eq_true h2, decide_eq_false (by omega : ¬ (Zid (pcP l x)).1 + x.2.2 < 0)]
   by_cases h3 : (Zid (pcP l x)).2 + x.2.2 ≤ 2 * b.2.2
   ·rw [decide_eq_true h3, decide_eq_false (by omega : ¬ 2 * b.2.2 < (Zid (pcP l x)).2 + x.2.2)]; rfl
   ·rw [decide_eq_false h3, decide_eq_true (by omega : 2 * b.2.2 < (Zid (pcP l x)).2 + x.2.2)]; rfl
  ·rw [decide_eq_false h2, decide_eq_true (by omega : (Zid (pcP l x)).1 + x.2.2 < 0)]; rfl
 ·rw [decide_eq_false h1, decide_eq_true (by omega : b.2.1 < Z30 (pcP l x))]; rfl
def freB (l : List Pan) (plan : List Plc) (A : List Strp) (at_ : Int) : Bool := plan.all fun o => Zs8 (stP l o) o.2.2 A at_
theorem Ztb {l : List Pan} {plan : List Plc} {A : List Strp} {at_ : Int} : freB l plan A at_ = true ↔ Zim l plan A at_ := by
 unfold freB Zim
 rw [List.all_eq_true]
 exact forall_congr' fun o => imp_congr_right fun _ => Zsa
theorem Ztc {l : List Pan} (h : PcsV l) {done : List Plc} {x : Plc} (hi : InL l done) (hx : InP l x) (he : EvnP done) (hxe : x.2.2 % 2 = 0) : freB l done (stP l x) x.2.2 = !crsB l done x := by
 have := Zs5 (l := l) (done := done) (x := x) (fun o ho => h.min (hi o ho) hx) he hxe
 cases hc : crsB l done x
 ·rw [hc] at this
  have : Zim l done (stP l x) x.2.2 := Classical.byContradiction fun hn => by cases this.2 hn
  rw [Ztb.2 this]; rfl
 ·have hn := this.1 hc
  cases hf : freB l done (stP l x) x.2.2
  ·rfl
  ·exact absurd (Ztb.1 hf) hn
theorem Ztd {b : Bal} {l : List Pan} {plan : List Plc} {k : Nat} (hk : k < plan.length) : fitG b l (plan.take k) (plan.drop k) = if outB b l plan[k] = true then 32 else if crsB l (plan.take k) plan[k] = true then 16 else fitG b l (plan.take (k + 1)) (plan.drop (k + 1)) := by
 rw [List.drop_eq_getElem_cons hk, fitG, ← List.take_succ_eq_append_getElem hk]
attribute [local go_sem] Oper.semAt_some
theorem Zte {W : World} {v : Value} {l : List Pan} (h : SlP W v l) {k : Nat} (hk : k < l.length) : ∃ (b off c : Nat) (vL vR : Value), v = .slice (some ⟨b, off, none⟩) l.length c ∧ b < W.heap.size ∧
  W.cell? ⟨b, off + k * 4, none⟩ = some (sV l[k].1) ∧ W.cell? ⟨b, off + k * 4 + 1, none⟩ = some (.int .i64 l[k].2.1) ∧ W.cell? ⟨b, off + k * 4 + 2, none⟩ = some vL ∧ W.cell? ⟨b, off + k * 4 + 3, none⟩ = some vR ∧ SlE W vL l[k].2.2.1 ∧ SlE W vR l[k].2.2.2 := by
 obtain ⟨xs, ⟨A, c, rfl, _, _, hr⟩, hx⟩ := h
 have hl := hx.len
 have hkx : k < xs.length := by omega
 obtain ⟨b, off, rfl, hlt, a0, a1, a2, a3⟩ := hr.pan (List.getElem?_eq_getElem hkx)
 have hp := hx.get (List.getElem?_eq_getElem hkx) (List.getElem?_eq_getElem hk)
 rw [hp.nm] at a0
 rw [hp.wd] at a1
 exact ⟨b, off, c, _, _, by rw [hl], hlt, a0, a1, a2, a3, hp.left, hp.right⟩
theorem Ztf {W : World} {v : Value} {l : List Pan} (h : SlP W v l) : ∃ A c, v = .slice A l.length c := by
 obtain ⟨xs, ⟨A, c, rfl, _⟩, hx⟩ := h
 exact ⟨A, c, by rw [hx.len]⟩
end Go.Proofs.YtpcgeihemkhkjaaGreatDoor
namespace Go.Proofs.YtpcgeihemkhkjaaGreatDoor
open Go.RowKit Go.ChangeMaps
set_option maxHeartbeats 4000000
set_option maxRecDepth 100000
theorem Ztg {l : List Pan} {plan : List Plc} {x : Plc} (h : PcsV l) (hi : InL l plan) (hx : InP l x) (hE : EvnP plan) {a : Int} (h0 : -(Zid (pcP l x)).1 ≤ a) (ha : a ≤ Zif l plan x) (hn : a % 2 ≠ 0 ∨ freB l plan (stP l x) a = false) : a + 1 ≤ Zif l plan x :=
 Zir hE (fun o ho => h.min (hi o ho) hx) h0 ha (hn.imp id fun hf hc => by rw [Ztb.2 hc] at hf; cases hf)
theorem Zth {l : List Pan} {plan : List Plc} {x : Plc} (h : PcsV l) (hi : InL l plan) (hx : InP l x) (hE : EvnP plan) {a : Int} (h0 : -(Zid (pcP l x)).1 ≤ a) (ha : a ≤ Zif l plan x) (he : a % 2 = 0) (hf : freB l plan (stP l x) a = true) : a = Zif l plan x :=
 Zis hE (fun o ho => h.min (hi o ho) hx) h0 ha he (Ztb.1 hf)
theorem Zti {l : List Pan} {plan : List Plc} {k : Nat} (hk : k < plan.length) {A : List Strp} {a : Int} : freB l (plan.take (k + 1)) A a = (freB l (plan.take k) A a && Zs8 (stP l plan[k]) plan[k].2.2 A a) := by
 unfold freB
 rw [List.take_succ_eq_append_getElem hk, List.all_append]
 simp
theorem Ztj {l : List Pan} {plan : List Plc} {k : Nat} (hk : k < plan.length) {A : List Strp} {a : Int} (h : Zs8 (stP l plan[k]) plan[k].2.2 A a = false) : freB l plan A a = false := by
 unfold freB
 rw [List.all_eq_false]
 exact ⟨plan[k], List.getElem_mem hk, by simp [h]⟩
theorem Ztk {l : List Pan} {plan : List Plc} {k : Nat} (hk : k < plan.length) : Zii l (plan.take (k + 1)) = max (Zii l (plan.take k)) ((Zid (pcP l plan[k])).2 + plan[k].2.2) := by
 unfold Zii
 rw [List.take_succ_eq_append_getElem hk, List.foldl_append]
 rfl
end Go.Proofs.YtpcgeihemkhkjaaGreatDoor
