/-
  DERIVED. GIVEN WITH THE SEED: THE CARDS: each row of YtdlghfekgecjjaaDoorRows.lean that lists a variable, with what it lists TIED to the program's text (the seventh form; the later family's looks); each row that meets fmt, with fmt's text TOLD by the authors' own Lean function (tested against real Go, not proved from fmt's source: count such statements apart). THE CARD IS WHAT COUNTS. Prove the row's statement (the work); the ties are given (YtdlghfekgecjjaaDoorTie.lean); close each card by the builder's one call (the guide's Derived/Test/ToyasCard.lean, 'card_holds'). Laid BY PROGRAM, IN A SANDBOX (cutbox-door.mjs). By AI agents, Wed Nov 11 2026. No macro, syntax, notation, axiom, sorry.
-/
import Derived.Test.YtdlghfekgecjjaaDoorRows
import GoSem.ClaimSeven
namespace Go.Proofs.YtdlghfekgecjjaaDoor
namespace Rows

/-- THE TIED CARD OF 'rivuletlaw03.AddrTexts'. -/
def addrTextsCard : Claim7 := { stood := { row := addrTextsRow, standIns := [], harness := (true, "ff75a9f54229bbad3d8a548d5b02948df86db32cc40879be9863dbd8be239e68"), looks := true }, kinds := [], alts := [], laidByText := true, laidKinds := [.data, .data, .data, .data, .sentinel, .sentinel, .pinned], laidTests := true, laidLooks := .later }
def AddrTextsCardSaid : Prop := Claim7.holds Tryd.pinned (.plain (OpenSpec.ofChange addrTextsSpec)) addrTextsCard

/-- THE TIED CARD OF 'rivuletlaw03.AddrGroups'. -/
def addrGroupsCard : Claim7 := { stood := { row := addrGroupsRow, standIns := [], harness := (true, "ff75a9f54229bbad3d8a548d5b02948df86db32cc40879be9863dbd8be239e68"), looks := true }, kinds := [], alts := [], laidByText := true, laidKinds := [.data, .data, .data, .data, .sentinel, .sentinel, .pinned], laidTests := true, laidLooks := .later }
def AddrGroupsCardSaid : Prop := Claim7.holds Tryd.pinned (.plain (OpenSpec.ofChange addrGroupsSpec)) addrGroupsCard

/-- THE TIED CARD OF 'rivuletlaw03.AddrCuts'. -/
def addrCutsCard : Claim7 := { stood := { row := addrCutsRow, standIns := [], harness := (true, "ff75a9f54229bbad3d8a548d5b02948df86db32cc40879be9863dbd8be239e68"), looks := true }, kinds := [], alts := [], laidByText := true, laidKinds := [.data, .data, .data, .data, .sentinel, .sentinel, .pinned], laidTests := true, laidLooks := .later }
def AddrCutsCardSaid : Prop := Claim7.holds Tryd.pinned (.plain (OpenSpec.ofChange addrCutsSpec)) addrCutsCard

/-- THE TIED CARD OF 'rivuletlaw03.AddrNodes'. -/
def addrNodesCard : Claim7 := { stood := { row := addrNodesRow, standIns := [], harness := (true, "ff75a9f54229bbad3d8a548d5b02948df86db32cc40879be9863dbd8be239e68"), looks := true }, kinds := [], alts := [], laidByText := true, laidKinds := [.data, .data, .data, .data, .sentinel, .sentinel, .pinned], laidTests := true, laidLooks := .later }
def AddrNodesCardSaid : Prop := Claim7.holds Tryd.pinned (.plain (OpenSpec.ofChange addrNodesSpec)) addrNodesCard

/-- THE TIED CARD OF 'rivuletlaw03.AddrPrefixes'. -/
def addrPrefixesCard : Claim7 := { stood := { row := addrPrefixesRow, standIns := [], harness := (true, "ff75a9f54229bbad3d8a548d5b02948df86db32cc40879be9863dbd8be239e68"), looks := true }, kinds := [], alts := [], laidByText := true, laidKinds := [.data, .data, .data, .data, .sentinel, .sentinel, .pinned], laidTests := true, laidLooks := .later }
def AddrPrefixesCardSaid : Prop := Claim7.holds Tryd.pinned (.plain (OpenSpec.ofChange addrPrefixesSpec)) addrPrefixesCard

/-- THE SECOND FORM's CARD OF 'rivuletlaw03.AddrTexts'. -/
def addrTextsUptoCard : Claim7 := { stood := { row := addrTextsUptoRow, standIns := [], harness := (true, "ff75a9f54229bbad3d8a548d5b02948df86db32cc40879be9863dbd8be239e68"), looks := true }, kinds := [], alts := [], laidByText := true, laidKinds := [.data, .data, .data, .data, .sentinel, .sentinel, .pinned], laidTests := true, laidLooks := .later }
def AddrTextsUptoCardSaid : Prop := Claim7.holds Tryd.pinned (.plain (OpenSpec.upto addrTextsSpec)) addrTextsUptoCard

/-- THE SECOND FORM's CARD OF 'rivuletlaw03.AddrGroups'. -/
def addrGroupsUptoCard : Claim7 := { stood := { row := addrGroupsUptoRow, standIns := [], harness := (true, "ff75a9f54229bbad3d8a548d5b02948df86db32cc40879be9863dbd8be239e68"), looks := true }, kinds := [], alts := [], laidByText := true, laidKinds := [.data, .data, .data, .data, .sentinel, .sentinel, .pinned], laidTests := true, laidLooks := .later }
def AddrGroupsUptoCardSaid : Prop := Claim7.holds Tryd.pinned (.plain (OpenSpec.upto addrGroupsSpec)) addrGroupsUptoCard

/-- THE SECOND FORM's CARD OF 'rivuletlaw03.AddrCuts'. -/
def addrCutsUptoCard : Claim7 := { stood := { row := addrCutsUptoRow, standIns := [], harness := (true, "ff75a9f54229bbad3d8a548d5b02948df86db32cc40879be9863dbd8be239e68"), looks := true }, kinds := [], alts := [], laidByText := true, laidKinds := [.data, .data, .data, .data, .sentinel, .sentinel, .pinned], laidTests := true, laidLooks := .later }
def AddrCutsUptoCardSaid : Prop := Claim7.holds Tryd.pinned (.plain (OpenSpec.upto addrCutsSpec)) addrCutsUptoCard

/-- THE SECOND FORM's CARD OF 'rivuletlaw03.AddrNodes'. -/
def addrNodesUptoCard : Claim7 := { stood := { row := addrNodesUptoRow, standIns := [], harness := (true, "ff75a9f54229bbad3d8a548d5b02948df86db32cc40879be9863dbd8be239e68"), looks := true }, kinds := [], alts := [], laidByText := true, laidKinds := [.data, .data, .data, .data, .sentinel, .sentinel, .pinned], laidTests := true, laidLooks := .later }
def AddrNodesUptoCardSaid : Prop := Claim7.holds Tryd.pinned (.plain (OpenSpec.upto addrNodesSpec)) addrNodesUptoCard

/-- THE SECOND FORM's CARD OF 'rivuletlaw03.AddrPrefixes'. -/
def addrPrefixesUptoCard : Claim7 := { stood := { row := addrPrefixesUptoRow, standIns := [], harness := (true, "ff75a9f54229bbad3d8a548d5b02948df86db32cc40879be9863dbd8be239e68"), looks := true }, kinds := [], alts := [], laidByText := true, laidKinds := [.data, .data, .data, .data, .sentinel, .sentinel, .pinned], laidTests := true, laidLooks := .later }
def AddrPrefixesUptoCardSaid : Prop := Claim7.holds Tryd.pinned (.plain (OpenSpec.upto addrPrefixesSpec)) addrPrefixesUptoCard
end Rows
end Go.Proofs.YtdlghfekgecjjaaDoor
