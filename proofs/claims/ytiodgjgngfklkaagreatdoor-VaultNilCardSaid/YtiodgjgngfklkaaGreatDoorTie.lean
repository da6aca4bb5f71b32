/-
  DERIVED. GIVEN WITH THE SEED: THE PROGRAM's TIES (one call each: nine closed facts by the kernel) AND EACH ROW's TIE, after the 31st guide's Derived/Test/Toyas{Tie, Card}.lean. No idea stands in it: it is a product of the set-up. Laid BY PROGRAM, IN A SANDBOX (cutbox-door.mjs). By AI agents, Wed Nov 11 2026. No macro, syntax, notation, axiom, sorry.
-/
import Derived.Test.YtiodgjgngfklkaaGreatDoorRows
import Derived.LaidByTextLater
import Derived.SevenTiedAt
import Derived.LaidSub
import Derived.LaidOnce
namespace Go.Proofs.YtiodgjgngfklkaaGreatDoor
open Go
set_option maxRecDepth 100000
theorem seatTie1 : Tryz.prog.laidByTextLater [("surety/schema.number", Rows.laid_surety_schema_number), ("surety/schema.texts", Rows.laid_surety_schema_texts), ("surety/schema.ints", Rows.laid_surety_schema_ints), ("surety/schema.list", Rows.laid_surety_schema_list), ("surety/schema.tags", Rows.laid_surety_schema_tags), ("surety/schema.maps", Rows.laid_surety_schema_maps), ("surety/sha.rounds", Rows.laid_surety_sha_rounds), ("surety/sha.begin", Rows.laid_surety_sha_begin)] [.data, .data, .data, .data, .data, .data, .data, .data] true :=
  Program.laidByTextLater_by_one 49 8 65 (by kernel_rfl) (by kernel_rfl) (by kernel_rfl) (by kernel_rfl) (by kernel_rfl) (by kernel_rfl) (fun _ _ => by kernel_rfl)
theorem noOwnUnsafe : Tryz.pinned.checked.prog.headLifts.contains "ownunsafe" = false := by kernel_rfl
theorem tie : Tryz.prog.laidByTextLater [("surety/schema.number", Rows.laid_surety_schema_number), ("surety/schema.texts", Rows.laid_surety_schema_texts), ("surety/schema.ints", Rows.laid_surety_schema_ints), ("surety/schema.list", Rows.laid_surety_schema_list), ("surety/schema.tags", Rows.laid_surety_schema_tags), ("surety/schema.maps", Rows.laid_surety_schema_maps), ("surety/sha.rounds", Rows.laid_surety_sha_rounds), ("surety/sha.begin", Rows.laid_surety_sha_begin)] [.data, .data, .data, .data, .data, .data, .data, .data] true :=
  Program.laidByTextLater.sub seatTie1 ["surety/schema.number", "surety/schema.texts", "surety/schema.ints", "surety/schema.list", "surety/schema.tags", "surety/schema.maps", "surety/sha.rounds", "surety/sha.begin"] (by kernel_rfl) (by kernel_rfl)
theorem vaultNil_row_tie : Rows.vaultNilRow.laidByTextAt .later Tryz.pinned [.data, .data, .data, .data, .data, .data, .data, .data] true :=
  OpenClaim.laidByTextAt_later rfl rfl tie noOwnUnsafe
theorem vaultNilUpto_row_tie : Rows.vaultNilUptoRow.laidByTextAt .later Tryz.pinned [.data, .data, .data, .data, .data, .data, .data, .data] true :=
  OpenClaim.laidByTextAt_later rfl rfl tie noOwnUnsafe
end Go.Proofs.YtiodgjgngfklkaaGreatDoor
