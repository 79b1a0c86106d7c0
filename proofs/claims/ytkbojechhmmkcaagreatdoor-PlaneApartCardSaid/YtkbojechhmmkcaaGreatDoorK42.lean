import Derived.Test.YtkbojechhmmkcaaGreatDoorK36
set_option linter.unusedVariables false
set_option linter.unusedSimpArgs false
set_option maxHeartbeats 16000000
set_option maxRecDepth 100000
namespace Edt
theorem Zava:(List.range 25).all (fun i=>aOk (i+750))=true:=by decide+kernel
theorem Zavb:(List.range 25).all (fun i=>aOk (i+775))=true:=by decide+kernel
theorem Zavc:(List.range 25).all (fun i=>aOk (i+800))=true:=by decide+kernel
theorem Zavd:(List.range 25).all (fun i=>aOk (i+825))=true:=by decide+kernel
theorem Zave:(List.range 25).all (fun i=>aOk (i+850))=true:=by decide+kernel
theorem Zavf:(List.range 25).all (fun i=>aOk (i+875))=true:=by decide+kernel
theorem Zavg:(List.range 25).all (fun i=>aOk (i+900))=true:=by decide+kernel
theorem Zavh:(List.range 25).all (fun i=>aOk (i+925))=true:=by decide+kernel
theorem Zavi:(List.range 25).all (fun i=>aOk (i+950))=true:=by decide+kernel
theorem Zavj:(List.range 25).all (fun i=>aOk (i+975))=true:=by decide+kernel
end Edt
