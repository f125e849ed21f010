/- Maps that the code itself made: a new entry laid in two steps (m[k], .. = v, ..). They speak of no program. -/
import Derived.Test.YtckbffbjdcnklaaGMapMore
import Derived.WideKeyEntry
namespace Go.Proofs.Ytckbffbjdcnklaa
open Go.RowKit
set_option linter.unusedSimpArgs false
set_option linter.unusedVariables false

section
variable {P : Program} {w : World} {K E T : TypeId} {b n : Nat} {M : Lit → Option Value}
theorem GMap.entry (h : GMap P w K b n M) (Kd : Maps.Keyed P K) (ht : P.underlying T = some (.map K E)) {z : Value} (hz : ∀ w, (zeroValue E).run P w = .ok z w) (hn : n < maxLen) {key : Value} {kl : Lit} (hk : WideAt.IsKeyLit kl) (hkey : keyOf P K key = some kl) (hno : M kl = none) (val : Value) :
    ∃ w1 st, (Instr.mapEntry T (.map (some b)) key).run P w = .ok (.tuple #[z, .int .i64 st]) w1 ∧ w.mapTurned w1 b ∧
      ∀ W1 : World, W1.heap[b]? = w1.heap[b]? → ∃ W2, (Instr.entryStore T (.map (some b)) (.int .i64 st) val).run P W1 = .ok () W2 ∧ GMap P W2 K b (n + 1) (putM M kl (some val)) ∧ W1.mapTurned W2 b := by
  have h0 := h
  obtain ⟨D, ⟨es, clock, hb, F, hs, rfl⟩, hsz, hM⟩ := h
  have hlk := h0.look_ok Kd ht hz hkey
  rw [hno] at hlk
  rcases Kd.find w hkey es.toList F.keys with ⟨f1, f2⟩ | ⟨j, e0, f1, f2, f3⟩
  · obtain ⟨w', hrun, g', ht'⟩ := h0.store Kd ht hn hk hkey (val := val)
    have hw' : w' = ChangeMaps.setBlock w b (.map (es.push ⟨key, val, clock⟩) (clock + 1)) := by
      simp [Instr.mapUpdate, run_underlying ht, MapKept.run_getObj_map hb, Kd.check w false hkey, f1, MapKept.run_setObj_map _ hb, Result.andThen, ChangeMaps.setBlock] at hrun
      rw [← hrun]
      rfl
    refine ⟨ChangeMaps.setBlock w b (.map (es.push ⟨key, z, clock⟩) (clock + 1)), clock, ?_, ⟨es, clock, _, _, hb, rfl⟩, fun W1 hW1 => ?_⟩
    · simp [Instr.mapEntry, run_underlying ht, MapKept.run_getObj_map hb, Kd.check w false hkey, f1, hz w, MapKept.run_setObj_map _ hb, Result.andThen, ChangeMaps.setBlock, goInt]
    · rw [ChangeMaps.heap_setBlock_same hb] at hW1
      refine ⟨ChangeMaps.setBlock W1 b (.map (es.push ⟨key, val, clock⟩) (clock + 1)), ?_, ?_, ⟨_, _, _, _, hW1, rfl⟩⟩
      · obtain ⟨s1, s2, _⟩ := F.stamped
        have hidx : (es.push ⟨key, z, clock⟩).findIdx? (fun e => ((e.born : Nat) : Int) == ((clock : Nat) : Int)) = some es.size := by
          rw [WideElems.findIdx_arr]
          refine WideElems.findIdx_born (l := (es.push ⟨key, z, clock⟩).toList) (j := es.size) (e0 := ⟨key, z, clock⟩) ?_ (by simp)
          rw [Array.toList_push, List.map_append]
          refine List.nodup_append.2 ⟨s2, by simp, fun a ha c hc e1 => ?_⟩
          obtain ⟨x, hx, rfl⟩ := List.mem_map.1 ha
          have hlt := s1 x hx
          simp at hc
          omega
        have hmod : (es.push ⟨key, z, clock⟩).modify es.size (fun e => { e with val := val }) = es.push ⟨key, val, clock⟩ := by
          apply Array.ext'
          rw [Array.toList_modify, Array.toList_push, Array.toList_push, ← Array.length_toList, WideElems.modify_last]
        simp [Instr.entryStore, MapKept.run_getObj_map hW1, asInt, asIntOf, hidx, hmod, MapKept.run_setObj_map _ hW1, Result.andThen, ChangeMaps.setBlock]
      · rw [hno] at g'
        simp at g'
        refine g'.of_block ?_
        rw [ChangeMaps.heap_setBlock_same hW1, hw', ChangeMaps.heap_setBlock_same hb]
  · exfalso
    simp [Instr.lookup, run_underlying ht, MapKept.run_getObj_map hb, Kd.check w _ hkey, f1, Result.andThen] at hlk
end
end Go.Proofs.Ytckbffbjdcnklaa
