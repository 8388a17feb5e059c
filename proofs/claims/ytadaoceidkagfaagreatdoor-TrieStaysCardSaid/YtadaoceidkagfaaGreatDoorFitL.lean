
import Derived.Test.YtadaoceidkagfaaGreatDoorSameA
import Derived.Test.YtadaoceidkagfaaGreatDoorBwG
namespace Go.Proofs.YtadaoceidkagfaaGreatDoor
open Go.RowKit Go.Bw
theorem _root_.Bw.lays_fit {level : Nat} {n : Bw.N} {S : Bw.En -> Prop} (h : Bw.Lays level n S) : ∀ l : List Bw.En, Bw.Unlike l -> (∀ e, e ∈ l ↔ S e) -> (∀ e ∈ l, e.2.1.length <= 1048576 /\ e.2.2.length <= 1048576) -> l.length <= 1048576 -> n.fit := by
  induction h with
  | @leaf level h p S hs =>
    intro l _ hm hb _
    exact hb (h, p) ((hm _).2 ((hs _).2 rfl))
  | @bucket level h t S he hr h2 hs =>
    intro l hu hm hb hl
    have hc := Bw.lays_count (Bw.Lays.bucket (level := level) he hr h2 hs) l hu hm
    simp only [Bw.N.count] at hc
    exact ⟨he, hr, fun p hp => hb (h, p) ((hm _).2 ((hs _).2 ⟨rfl, hp⟩)), by omega⟩
  | @branch level m kids S hm32 hl h2 hc hk ih =>
    intro l hu hm hb hlen
    refine ⟨hm32, hl, (Bw.N.fitL_iff _).2 fun k hk' => ?_⟩
    obtain ⟨j, hj, rfl⟩ := List.getElem_of_mem hk'
    have hjb : j < (Bw.bitsOf m).length := by omega
    exact ih j _ _ (List.getElem?_eq_getElem hjb) (List.getElem?_eq_getElem hj) (Bw.partOf level ((Bw.bitsOf m)[j]) l) (hu.filter _) (fun e => by rw [Bw.mem_partOf, hm]) (fun e he => hb e (Bw.mem_partOf.1 he).1) (Nat.le_trans (List.length_filter_le _ _) hlen)
end Go.Proofs.YtadaoceidkagfaaGreatDoor
