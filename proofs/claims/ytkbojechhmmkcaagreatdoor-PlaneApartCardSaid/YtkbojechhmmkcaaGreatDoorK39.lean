import Derived.Test.YtkbojechhmmkcaaGreatDoorK36
set_option linter.unusedVariables false
set_option linter.unusedSimpArgs false
set_option maxHeartbeats 16000000
set_option maxRecDepth 100000
namespace Edt
theorem Zatw:(List.range 25).all (fun i=>aOk (i+0))=true:=by decide+kernel
theorem Zatx:(List.range 25).all (fun i=>aOk (i+25))=true:=by decide+kernel
theorem Zaty:(List.range 25).all (fun i=>aOk (i+50))=true:=by decide+kernel
theorem Zatz:(List.range 25).all (fun i=>aOk (i+75))=true:=by decide+kernel
theorem Zaua:(List.range 25).all (fun i=>aOk (i+100))=true:=by decide+kernel
theorem Zaub:(List.range 25).all (fun i=>aOk (i+125))=true:=by decide+kernel
theorem Zauc:(List.range 25).all (fun i=>aOk (i+150))=true:=by decide+kernel
theorem Zaud:(List.range 25).all (fun i=>aOk (i+175))=true:=by decide+kernel
theorem Zaue:(List.range 25).all (fun i=>aOk (i+200))=true:=by decide+kernel
theorem Zauf:(List.range 25).all (fun i=>aOk (i+225))=true:=by decide+kernel
end Edt
